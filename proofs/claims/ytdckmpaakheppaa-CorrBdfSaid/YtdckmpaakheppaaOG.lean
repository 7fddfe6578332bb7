/- CorrLine: a field of numbers alone. -/
import Derived.Test.YtdckmpaakheppaaJH
import Derived.Test.YtdckmpaakheppaaCD
import Derived.Test.YtdckmpaakheppaaOB
import Derived.Test.YtdckmpaakheppaaCU
import Derived.Test.YtdckmpaakheppaaGD
namespace Go.Ab
set_option linter.unusedSimpArgs false
set_option linter.unusedVariables false
open Go Go.Proofs
def A_l9_CorrLine_L0 : CA := (.seq (.seq (.reg [⟨0, (some 58), none, [], [], (.h (.mov (.t 19)))⟩, ⟨1, (some 59), none, [], [], (.h (.len (.t 58)))⟩, ⟨2, (some 60), none, [], [], (.h (.mov (.t 16)))⟩, ⟨3, (some 61), none, [], [], (.h (.ibin .leq (.t 59) (.t 60)))⟩] [5, 13, 14, 15, 16, 17, 19, 61]) (.cond (.t 61) .skip (.exit 0))) (.block 1 (.reg [⟨0, (some 62), none, [], [], (.h (.mov (.t 19)))⟩, ⟨1, (some 63), none, [], [], (.bslice [(.d (.flt 0))] 1 1 [(0, (1, (.k (.d (.flt 0)))))] 32)⟩, ⟨2, (some 64), none, [], [], (.bslice [.nil] 1 1 [(0, (1, (.t 63)))] 31)⟩, ⟨3, (some 65), none, [], [], (.app (.t 62) (.t 64) 1 24)⟩, ⟨4, (some 19), none, [], [], (.h (.mov (.t 65)))⟩] [5, 13, 14, 15, 16, 17, 19])))
def A_l9_CorrLine : CA := (.seq (.reg [⟨0, (some 12), none, [], [], (.h (.mov (.k (.d (.bool false)))))⟩] [0, 1, 2, 3, 4, 5]) (.seq (.seq (.reg [⟨0, (some 23), none, [], [], (.callA (.k (.d (.fn 14 [] []))) [])⟩, ⟨1, (some 24), none, [], [], (.h (.un .not (.t 23)))⟩] [0, 1, 2, 3, 4, 5, 24]) (.cond (.t 24) (.seq (.reg [⟨0, (some 12), none, [], [], (.h (.mov (.k (.d (.bool false)))))⟩] [12]) .ret) .skip)) (.seq (.reg [⟨0, (some 25), none, [], [], (.h (.mov (.t 0)))⟩, ⟨1, (some 26), none, [], [], (.callA (.k (.d (.fn 16 [] []))) [(.t 25), (.k (.d (.int .i64 129)))])⟩, ⟨2, (some 27), none, [], [], (.h (.ibin .sub (.t 26) (.k (.d (.int .i64 64)))))⟩, ⟨3, (some 28), none, [], [], (.h (.i2f (.t 27)))⟩, ⟨4, (some 29), none, [], [], (.h (.fbin .div (.t 28) (.k (.d (.flt 4620693217682128896)))))⟩, ⟨5, (some 13), none, [], [], (.h (.mov (.t 29)))⟩] [1, 2, 3, 4, 5, 13]) (.seq (.reg [⟨0, (some 30), none, [], [], (.h (.mov (.t 13)))⟩, ⟨1, (some 31), none, [], [], (.h (.build [(.d (.int .i64 0)), (.d (.int .i64 0)), (.d (.int .i64 0)), (.d (.flt 0))] [(0, (1, (.k (.d (.int .i64 0))))), (3, (1, (.t 30)))]))⟩, ⟨2, (some 32), none, [], [], (.bslice [(.d (.int .i64 0)), (.d (.int .i64 0)), (.d (.int .i64 0)), (.d (.flt 0))] 1 4 [(0, (4, (.t 31)))] 53)⟩, ⟨3, (some 33), none, [], [], (.bslice [(.d (.int .i64 0))] 1 1 [(0, (1, (.k (.d (.int .i64 0)))))] 3)⟩, ⟨4, (some 34), none, [], [], (.h (.build [(.d (.int .i64 0)), .nil, .nil] [(0, (1, (.k (.d (.int .i64 1))))), (1, (1, (.t 32))), (2, (1, (.t 33)))]))⟩, ⟨5, (some 14), none, [], [], (.alloc [(.d (.int .i64 0)), .nil, .nil] 26)⟩, ⟨6, none, none, [], [], (.store (.t 14) (.t 34) 3)⟩] [1, 2, 3, 4, 5, 13, 14]) (.seq (.reg [⟨0, (some 35), none, [], [], (.h (.mov (.t 3)))⟩, ⟨1, (some 36), none, [], [], (.callA (.k (.d (.fn 16 [] []))) [(.t 35), (.k (.d (.int .i64 2)))])⟩, ⟨2, (some 15), none, [], [], (.h (.mov (.t 36)))⟩] [1, 2, 4, 5, 13, 14, 15]) (.seq (.reg [⟨0, (some 37), none, [], [], (.h (.mov (.t 4)))⟩, ⟨1, (some 38), none, [], [], (.callA (.k (.d (.fn 16 [] []))) [(.t 37), (.k (.d (.int .i64 4)))])⟩, ⟨2, (some 39), none, [], [], (.h (.ibin .add (.k (.d (.int .i64 1))) (.t 38)))⟩, ⟨3, (some 16), none, [], [], (.h (.mov (.t 39)))⟩] [1, 2, 5, 13, 14, 15, 16]) (.seq (.reg [⟨0, (some 41), none, [], [], (.h (.mov (.t 15)))⟩, ⟨1, (some 42), none, [], [], (.h (.mov (.t 16)))⟩, ⟨2, (some 43), none, [], [], (.callA (.k (.d (.fn 18 [] []))) [(.t 41), (.t 42)])⟩, ⟨3, (some 40), none, [], [], (.h (.mov (.t 43)))⟩, ⟨4, (some 44), none, [], [], (.h (.ext (.t 40) 0))⟩, ⟨5, (some 45), none, [], [], (.h (.ext (.t 40) 1))⟩, ⟨6, (some 17), none, [], [], (.h (.mov (.t 44)))⟩, ⟨7, (some 18), none, [], [], (.h (.mov (.t 45)))⟩] [1, 2, 5, 13, 14, 15, 16, 17]) (.seq (.reg [⟨0, (some 46), none, [], [], (.h (.mov (.t 1)))⟩, ⟨1, (some 47), none, [], [], (.callA (.k (.d (.fn 16 [] []))) [(.t 46), (.k (.d (.int .i64 21)))])⟩, ⟨2, (some 48), none, [], [], (.h (.ibin .sub (.t 47) (.k (.d (.int .i64 10)))))⟩, ⟨3, (some 49), none, [], [], (.h (.i2f (.t 48)))⟩, ⟨4, (some 50), none, [], [], (.bslice [(.d (.flt 0))] 1 1 [(0, (1, (.t 49)))] 32)⟩, ⟨5, (some 51), none, [], [], (.h (.mov (.t 2)))⟩, ⟨6, (some 52), none, [], [], (.callA (.k (.d (.fn 16 [] []))) [(.t 51), (.k (.d (.int .i64 21)))])⟩, ⟨7, (some 53), none, [], [], (.h (.ibin .sub (.t 52) (.k (.d (.int .i64 10)))))⟩, ⟨8, (some 54), none, [], [], (.h (.i2f (.t 53)))⟩, ⟨9, (some 55), none, [], [], (.h (.fbin .div (.t 54) (.k (.d (.flt 4634204016564240384)))))⟩, ⟨10, (some 56), none, [], [], (.bslice [(.d (.flt 0))] 1 1 [(0, (1, (.t 55)))] 32)⟩, ⟨11, (some 57), none, [], [], (.bslice [.nil, .nil] 2 1 [(0, (1, (.t 50))), (1, (1, (.t 56)))] 31)⟩, ⟨12, (some 19), none, [], [], (.h (.mov (.t 57)))⟩] [5, 13, 14, 15, 16, 17, 19]) (.seq (.block 0 (.loop A_l9_CorrLine_L0)) (.seq (.reg [⟨0, (some 66), none, [], [], (.h (.mov (.t 5)))⟩, ⟨1, (some 67), none, [], [], (.callA (.k (.d (.fn 16 [] []))) [(.t 66), (.k (.d (.int .i64 20)))])⟩, ⟨2, (some 68), none, [], [], (.h (.ibin .add (.k (.d (.int .i64 10))) (.t 67)))⟩, ⟨3, (some 69), none, [], [], (.h (.icv .u64 (.t 68)))⟩, ⟨4, (some 70), none, [], [], (.h (.ibin .shl (.k (.d (.int .i64 1))) (.t 69)))⟩, ⟨5, (some 20), none, [], [], (.h (.mov (.t 70)))⟩] [13, 14, 15, 17, 19, 20]) (.seq (.reg [⟨0, (some 71), none, [], [], (.load (.t 14) 3 true)⟩, ⟨1, (some 72), none, [], [], (.h (.mov (.t 19)))⟩, ⟨2, (some 73), none, [], [], (.h (.mov (.t 17)))⟩, ⟨3, (some 74), none, [], [], (.h (.mov (.t 20)))⟩, ⟨4, (some 75), none, [], [], (.h (.mov (.t 15)))⟩, ⟨5, (some 76), none, [], [], (.bslice [(.d (.flt 0))] 1 1 [(0, (1, (.k (.d (.flt 4607182418800017408)))))] 32)⟩, ⟨6, (some 77), none, [], [], (.callA (.k (.d (.fn 20 [] []))) [(.t 71), (.t 72), (.t 73), (.t 74), (.t 75), (.t 76)])⟩, ⟨7, (some 21), none, [], [], (.alloc [.nil, (.d (.int .i64 0)), (.d (.int .i64 0))] 39)⟩, ⟨8, none, none, [], [], (.store (.t 21) (.t 77) 3)⟩] [13, 19, 20, 21]) (.seq (.reg [⟨0, (some 78), none, [], [], (.h (.mov (.t 20)))⟩, ⟨1, (some 79), none, [], [], (.h (.i2f (.t 78)))⟩, ⟨2, (some 80), none, [], [], (.h (.fbin .div (.t 79) (.k (.d (.flt 4742290407621132288)))))⟩, ⟨3, (some 81), none, [], [], (.h (.mov (.t 13)))⟩, ⟨4, (some 82), none, [], [], (.h (.fbin .mul (.t 80) (.t 81)))⟩, ⟨5, (some 83), none, [], [], (.h (.mov (.t 19)))⟩, ⟨6, (some 84), none, [], [], (.h (.idx (.t 83) (.k (.d (.int .i64 1))) 1))⟩, ⟨7, (some 85), none, [], [], (.load (.t 84) 1 false)⟩, ⟨8, (some 86), none, [], [], (.h (.idx (.t 85) (.k (.d (.int .i64 0))) 1))⟩, ⟨9, (some 87), none, [], [], (.load (.t 86) 1 false)⟩, ⟨10, (some 88), none, [], [], (.h (.fbin .sub (.t 82) (.t 87)))⟩, ⟨11, (some 22), none, [], [], (.h (.mov (.t 88)))⟩] [21, 22]) (.seq (.reg [⟨0, (some 89), none, [], [], (.h (.padd (.t 21) 2))⟩, ⟨1, (some 90), none, [], [], (.load (.t 89) 1 false)⟩, ⟨2, (some 91), none, [], [], (.h (.ibin .eql (.t 90) (.k (.d (.int .i64 0)))))⟩, ⟨3, (some 92), none, [], [], (.h (.mov (.t 91)))⟩, ⟨4, (some 93), (some (92, true)), [], [], (.h (.padd (.t 21) 1))⟩, ⟨5, (some 94), (some (92, true)), [], [], (.load (.t 93) 1 false)⟩, ⟨6, (some 95), (some (92, true)), [], [], (.h (.ibin .geq (.t 94) (.k (.d (.int .i64 1)))))⟩, ⟨7, (some 96), none, [], [], (.h (.pick (.t 92) (.t 95) (.k (.d (.bool false)))))⟩, ⟨8, (some 97), none, [], [], (.h (.mov (.t 96)))⟩, ⟨9, (some 98), (some (97, true)), [], [], (.h (.padd (.t 21) 1))⟩, ⟨10, (some 99), (some (97, true)), [], [], (.load (.t 98) 1 false)⟩, ⟨11, (some 100), (some (97, true)), [], [], (.h (.ibin .leq (.t 99) (.k (.d (.int .i64 2)))))⟩, ⟨12, (some 101), none, [], [], (.h (.pick (.t 97) (.t 100) (.k (.d (.bool false)))))⟩, ⟨13, (some 102), none, [], [], (.h (.mov (.t 101)))⟩, ⟨14, (some 103), (some (102, true)), [], [], (.h (.padd (.t 21) 0))⟩, ⟨15, (some 104), (some (102, true)), [], [], (.load (.t 103) 1 false)⟩, ⟨16, (some 105), (some (102, true)), [], [], (.h (.len (.t 104)))⟩, ⟨17, (some 106), (some (102, true)), [], [], (.h (.ibin .eql (.t 105) (.k (.d (.int .i64 1)))))⟩, ⟨18, (some 107), none, [], [], (.h (.pick (.t 102) (.t 106) (.k (.d (.bool false)))))⟩, ⟨19, (some 108), none, [], [], (.h (.mov (.t 107)))⟩, ⟨20, (some 109), (some (108, true)), [], [], (.h (.padd (.t 21) 0))⟩, ⟨21, (some 110), (some (108, true)), [], [], (.load (.t 109) 1 false)⟩, ⟨22, (some 111), (some (108, true)), [], [], (.h (.idx (.t 110) (.k (.d (.int .i64 0))) 1))⟩, ⟨23, (some 112), (some (108, true)), [], [], (.load (.t 111) 1 false)⟩, ⟨24, (some 113), (some (108, true)), [], [], (.h (.mov (.t 22)))⟩, ⟨25, (some 114), (some (108, true)), [], [], (.h (.fcmp .eq (.t 112) (.t 113)))⟩, ⟨26, (some 115), none, [], [], (.h (.pick (.t 108) (.t 114) (.k (.d (.bool false)))))⟩, ⟨27, (some 12), none, [], [], (.h (.mov (.t 115)))⟩] [12]) .ret)))))))))))))
theorem A_l9_CorrLine_comp : compF Try.prog 8 = some ⟨116, [(12, none)], A_l9_CorrLine.strip⟩ := by kernel_rfl
def lnT (k : Nat) : Tp := ⟨1, [⟨0, 0, 0, k⟩], [0]⟩
theorem ln_tok (k : Nat) : Tok (lnT k) := ⟨by show 1 < 2 ^ 20; decide, by show 1 < 2 ^ 40; decide, fun i hi => by
      obtain rfl : i = 0 := by simpa [lnT] using hi
      exact .inl rfl, rfl, fun i hi => by
      obtain rfl : i = 0 := by simpa [lnT] using hi
      show 0 ≤ (0 : Int) ∧ (0 : Int) < 1; decide⟩
theorem ln_eval (k : Nat) (y : List Nat) : evalT (lnT k) y = [k] := rfl
theorem ln_jac (k : Nat) (y : List Nat) : jacT (lnT k) y = [[0]] := rfl
def lnG (k h : Nat) (z : List (List Nat)) : Nat := fop .sub (fop .mul h k) ((z.getD 1 []).getD 0 0)
theorem ln_g (k : Nat) (z : List (List Nat)) (l : List Nat) (h : Nat) (d : List Nat) : gS (lnT k) z l h d = [lnG k h z] := rfl
theorem sz_one (x : Nat) : szP [x] [one1] = if isNan (fop .div (fabs x) one1) = true then finf else fop .div (fabs x) one1 := by
  show (szF [x] [one1] 1).getD finf = _
  simp only [szF, Option.bind_some]
  show (if isNan (fop .div (fabs x) one1) = true then none else some (fop .div (fabs x) one1)).getD finf = _
  split <;> rfl
theorem one_ix : Ix 0 one1 1 := ⟨⟨false, 4503599627370496, -52, by decide +kernel⟩, by
  rw [val_eq (show Ieee.double.read one1 = .number false 4503599627370496 (-52) by decide +kernel)]; decide +kernel⟩
theorem sz_zero {x : Nat} {e : Int} (h : Ix e x 0) : fcmp .le (szP [x] [one1]) 4562146422526312448 = true := by
  have hv := val_fabs h.fin
  have h0 : val x = 0 := by rw [h.val]; simp
  rw [h0] at hv
  have hf : Ix 0 (fabs x) 0 := ⟨hv.1, by rw [hv.2]; decide +kernel⟩
  have hd := Ix.div hf one_ix (by decide) (show (0 : Int) = 0 + 0 by decide) (show (0 : Int) = 0 * 1 by decide) (by decide) (by decide) (by decide)
  rw [sz_one, fin_not_nan hd.fin, if_neg (by decide)]
  have hr : fin 4562146422526312448 ∧ 0 ≤ val 4562146422526312448 := by
    have h : Ieee.double.read 4562146422526312448 = .number false 4503599627370496 (-62) := by decide +kernel
    exact ⟨⟨_, _, _, h⟩, by rw [val_eq h]; decide +kernel⟩
  refine (fcmp_le hd.fin hr.1).2 ?_
  rw [hd.val]
  simpa using hr.2
theorem finAll_one {x : Nat} (h : fin x) : finAll [x] = true := by simp [finAll, fin_finite h]
theorem ln_A (k h : Nat) (z : List (List Nat)) (l : List Nat) (hG : fin (lnG k h z)) : ∃ a, 1 ≤ a ∧ a ≤ 2 ∧ solG (lnT k) z l h [one1] 0 = ([lnG k h z], a, 0) := by
  have hs : fop .sub (lnG k h z) (lnG k h z) = 0 := by
    obtain ⟨s, m, i, hd⟩ := hG
    have ht : Ieee.signed s m 0 + Ieee.signed (!s) m 0 = 0 := by
      cases s <;> simp [Ieee.signed] <;> omega
    have hs : (s && !s) = false := by cases s <;> rfl
    have hw : Ieee.double.write (.number false 0 i) = 0 := by simp [Ieee.Format.write, Ieee.Format.nearest, Ieee.Format.word]
    simp [fop, Ieee.Format.sub, hd, Ieee.Datum.sum, Ieee.Datum.opposite, ht, hs, hw, cf, isNan]
  rw [show solG (lnT k) z l h [one1] 0 = seek (tryA (lnT k) z l h [one1]) 4 1 [0] from rfl]
  rw [seekA_succ, ln_g, finAll_one hG, if_neg (by decide)]
  by_cases h1 : fcmp .le (goneA (lnT k) z l h [one1] [0]) 4562146422526312448 = true
  · rw [if_pos h1]; exact ⟨1, by decide, by decide, rfl⟩
  · rw [if_neg h1, if_neg (by decide), seekA_succ, ln_g, finAll_one hG, if_neg (by decide)]
    have h2 : fcmp .le (goneA (lnT k) z l h [one1] [lnG k h z]) 4562146422526312448 = true := by
      rw [show goneA (lnT k) z l h [one1] [lnG k h z] = szP [fop .sub (lnG k h z) (lnG k h z)] [one1] from rfl, hs]
      exact sz_zero (Ix.zero 0)
    rw [if_pos h2]; exact ⟨2, by decide, by decide, rfl⟩
theorem ln_one_chk : ((List.range 30).all fun j => (List.range 4).all fun q => fop .sub oneW (fop .mul (fop .mul (hW (2 ^ j)) ((ofL 1 (q + 1)).getD 0 0)) 0) == oneW) = true := by kernel_rfl
theorem ln_part : partP [[one1]] 1 1 = some ([[one1]], [0]) := by kernel_rfl
theorem ln_solve (u : Nat) : solveP [[one1]] [0] [u] 1 = [fop .div u one1] := rfl
theorem ln_B (k h : Nat) (z : List (List Nat)) (l : List Nat) (hm : fop .sub oneW (fop .mul (fop .mul h (l.getD 0 0)) 0) = oneW) (e g : Int) (he : -1074 ≤ e ∧ e ≤ 0) (hg : g.natAbs < 2 ^ 40) (hG : Ix e (lnG k h z) g) :
    ∃ D a, 1 ≤ a ∧ a ≤ 2 ∧ solG (lnT k) z l h [one1] 1 = ([D], a, 0) ∧ Ix e D g := by
  have hmat : matT (lnT k) z l h = [[one1]] := by
    show [[fop .sub oneW (fop .mul (fop .mul h (l.getD 0 0)) 0)]] = _
    rw [hm]; rfl
  have hsol : solG (lnT k) z l h [one1] 1 = seek (tryB (lnT k) z l h [one1] [[one1]] [0]) 4 1 [0] := by
    show solB _ _ _ _ _ = _
    unfold solB
    rw [hmat, show (lnT k).n = 1 from rfl, ln_part]
    rfl
  have hdv : ∀ (u : Nat) (a : Int), a.natAbs < 2 ^ 50 → Ix e u a → Ix e (fop .div u one1) a := fun u a ha hu => Ix.div hu one_ix (by decide) (by omega) (by omega) (by omega) (by omega) (by omega)
  -- the tries
  have hx : ∀ d, xB (lnT k) z l h [[one1]] [0] [d] = [fop .div (fop .sub (lnG k h z) d) one1] := fun d => rfl
  have hd : ∀ d, dB (lnT k) z l h [[one1]] [0] [d] = [fop .add d (fop .div (fop .sub (lnG k h z) d) one1)] := fun d => rfl
  generalize lnG k h z = G at hG hx hd
  have i1 := hdv _ g (by omega) ((Ix.sub hG (Ix.zero e) (by omega) he.1 (by omega)).cast (show g - 0 = g by omega))
  have i2 := (Ix.add (Ix.zero e) i1 (by omega) he.1 (by omega)).cast (show 0 + g = g by omega)
  have e0 := hd 0
  have y0 := hx 0
  generalize fop .div (fop .sub G 0) one1 = x1 at i1 i2 e0 y0
  generalize fop .add 0 x1 = d1 at i2 e0
  have i3 := hdv _ 0 (by decide) ((Ix.sub hG i2 (by omega) he.1 (by omega)).cast (show g - g = 0 by omega))
  have i4 := (Ix.add i2 i3 (by omega) he.1 (by omega)).cast (show g + 0 = g by omega)
  have e1 := hd d1
  have y1 := hx d1
  rw [hsol, seekB_succ, e0, finAll_one i2.fin, if_neg (by decide), y0]
  by_cases h1 : fcmp .le (szP [x1] [one1]) 4562146422526312448 = true
  · rw [if_pos h1]; exact ⟨d1, 1, by decide, by decide, rfl, i2⟩
  · rw [if_neg h1, if_neg (by decide), seekB_succ, e1, finAll_one i4.fin, if_neg (by decide), y1, if_pos (sz_zero i3)]
    exact ⟨_, 2, by decide, by decide, rfl, i4⟩
theorem pow_ix (w : Nat) (m : Nat) (e : Int) (h : Ieee.double.read w = .number false 4503599627370496 e) (f : Int) (hf : e + 52 = f) : Ix f w 1 := ⟨⟨_, _, _, h⟩, by
  rw [val_eq h, ← hf, pw52]; simp⟩
theorem hW_ix (j : Nat) (hj : j < 32) : Ix (-30) (hW (2 ^ j)) (2 ^ j : Nat) := by
  have hp : 2 ^ j < 2 ^ 32 := Nat.pow_lt_pow_right (by decide) hj
  generalize 2 ^ j = w at hp
  exact Ix.div (Ix.ofInt (w : Int) (by omega)) (pow_ix _ 0 (-22) (show Ieee.double.read (FloatKind.nearest .f64 1073741824) = .number false 4503599627370496 (-22) by kernel_rfl) 30 (by decide)) (by decide) (by decide) (by omega) (by omega) (by decide) (by decide)
theorem ln_ix (j : Nat) (hj : j < 30) (a b : Int) (ha : a.natAbs ≤ 64) (hb : b.natAbs ≤ 10) (z : List (List Nat)) (hz : (z.getD 1 []).getD 0 0 = fop .div (FloatKind.nearest .f64 b) 4634204016564240384) :
    Ix (-33) (lnG (fop .div (FloatKind.nearest .f64 a) 4620693217682128896) (hW (2 ^ j)) z) ((2 ^ j : Nat) * a - b * 2 ^ 27) ∧ (((2 ^ j : Nat) : Int) * a - b * 2 ^ 27).natAbs < 2 ^ 40 := by
  have hp : 2 ^ j < 2 ^ 30 := Nat.pow_lt_pow_right (by decide) hj
  have hk := Ix.div (Ix.ofInt a (by omega)) (pow_ix 4620693217682128896 0 (-49) (by decide +kernel) 3 (by decide)) (by decide) (show (0 : Int) = -3 + 3 by decide) (show a = a * 1 by omega) (by omega) (by decide) (by decide)
  have h1 := Ix.div (Ix.ofInt b (by omega)) (pow_ix 4634204016564240384 0 (-46) (by decide +kernel) 6 (by decide)) (by decide) (show (0 : Int) = -6 + 6 by decide) (show b = b * 1 by omega) (by omega) (by decide) (by decide)
  have h2 := h1.fine 27
  have hW' := hW_ix j (by omega)
  generalize hW (2 ^ j) = H at hW'
  generalize 2 ^ j = w at hp hW'
  have hm : ((w : Int) * a).natAbs < 2 ^ 37 := by
    rw [Int.natAbs_mul]
    have := Nat.mul_le_mul (show ((w : Int)).natAbs ≤ 2 ^ 30 by omega) ha
    omega
  have h3 := Ix.mul hW' hk (by omega) (by decide) (by decide)
  unfold lnG
  rw [hz]
  generalize (w : Int) * a = p at h3 hm ⊢
  exact ⟨Ix.sub h3 h2 (by omega) (by decide) (by decide), by omega⟩
set_option maxRecDepth 8000 in
theorem l9_CorrLine_con (c y dy method order step : Int) : Con Try.prog 8 [fI c, fI y, fI dy, fI method, fI order, fI step] (fB true) := by
  refine Con_introA A_l9_CorrLine_comp rfl mixed ?_
  simp -implicitDefEqProofs only [xC_skip, evS, evT, evU, hv, effC, reduceCtorEq, ↓reduceIte, Nat.reduceEqDiff, Nat.reduceAdd, Nat.reduceMul, Int.reduceToNat, Int.reduceAdd, Int.reduceSub, Int.reduceMul, Int.reduceNeg, Int.reduceLT, Int.reduceLE, Nat.reduceLT, Nat.reduceLeDiff, A_l9_CorrLine]
  first | refine callG_con (l9_known_con) rfl ?_ | refine callCG_con (l9_known_con) rfl ?_ | refine callSG_con (l9_known_con) rfl ?_
  simp -implicitDefEqProofs only [xC_skip, evS, evT, evU, hv, effC, reduceCtorEq, ↓reduceIte, Nat.reduceEqDiff, Nat.reduceAdd, Nat.reduceMul, Int.reduceToNat, Int.reduceAdd, Int.reduceSub, Int.reduceMul, Int.reduceNeg, Int.reduceLT, Int.reduceLE, Nat.reduceLT, Nat.reduceLeDiff]
  first | refine callG_con (l9_within_con c 129 (by decide) (by decide)) rfl ?_ | refine callCG_con (l9_within_con c 129 (by decide) (by decide)) rfl ?_ | refine callSG_con (l9_within_con c 129 (by decide) (by decide)) rfl ?_
  have c1 := Int.emod_nonneg c (by decide : (129 : Int) ≠ 0)
  have c2 := Int.emod_lt_of_pos c (by decide : (0 : Int) < 129)
  simp -implicitDefEqProofs only [xC_skip, evS, evT, evU, hv, effC, reduceCtorEq, ↓reduceIte, Nat.reduceEqDiff, Nat.reduceAdd, Nat.reduceMul, Int.reduceToNat, Int.reduceAdd, Int.reduceSub, Int.reduceMul, Int.reduceNeg, Int.reduceLT, Int.reduceLE, Nat.reduceLT, Nat.reduceLeDiff]
  first | refine callG_con (l9_within_con method 2 (by decide) (by decide)) rfl ?_ | refine callCG_con (l9_within_con method 2 (by decide) (by decide)) rfl ?_ | refine callSG_con (l9_within_con method 2 (by decide) (by decide)) rfl ?_
  have m1 := Int.emod_nonneg method (by decide : (2 : Int) ≠ 0)
  have m2 := Int.emod_lt_of_pos method (by decide : (0 : Int) < 2)
  generalize method % 2 = m at m1 m2
  simp -implicitDefEqProofs only [xC_skip, evS, evT, evU, hv, effC, reduceCtorEq, ↓reduceIte, Nat.reduceEqDiff, Nat.reduceAdd, Nat.reduceMul, Int.reduceToNat, Int.reduceAdd, Int.reduceSub, Int.reduceMul, Int.reduceNeg, Int.reduceLT, Int.reduceLE, Nat.reduceLT, Nat.reduceLeDiff]
  first | refine callG_con (l9_within_con order 4 (by decide) (by decide)) rfl ?_ | refine callCG_con (l9_within_con order 4 (by decide) (by decide)) rfl ?_ | refine callSG_con (l9_within_con order 4 (by decide) (by decide)) rfl ?_
  have o1 := Int.emod_nonneg order (by decide : (4 : Int) ≠ 0)
  have o2 := Int.emod_lt_of_pos order (by decide : (0 : Int) < 4)
  obtain ⟨q, hq⟩ : ∃ q : Nat, 1 + order % 4 = q := ⟨(1 + order % 4).toNat, by omega⟩
  have hq5 : 1 ≤ q ∧ q ≤ 4 := by omega
  have wq : IntKind.i64.wrap (1 + order % 4) = (q : Int) := by rw [hq]; exact wrapI (by omega) (by omega)
  simp -implicitDefEqProofs only [xC_skip, evS, evT, evU, hv, effC, reduceCtorEq, ↓reduceIte, Nat.reduceEqDiff, Nat.reduceAdd, Nat.reduceMul, Int.reduceToNat, Int.reduceAdd, Int.reduceSub, Int.reduceMul, Int.reduceNeg, Int.reduceLT, Int.reduceLE, Nat.reduceLT, Nat.reduceLeDiff, wq]
  obtain ⟨hof, hofl⟩ := r7_Of_ok m q (by omega)
  first | refine callG_con (hof) rfl ?_ | refine callCG_con (hof) rfl ?_ | refine callSG_con (hof) rfl ?_
  generalize hofe : ofL m q = l at hofl
  simp -implicitDefEqProofs only [xC_skip, evS, evT, evU, hv, effC, reduceCtorEq, ↓reduceIte, Nat.reduceEqDiff, Nat.reduceAdd, Nat.reduceMul, Int.reduceToNat, Int.reduceAdd, Int.reduceSub, Int.reduceMul, Int.reduceNeg, Int.reduceLT, Int.reduceLE, Nat.reduceLT, Nat.reduceLeDiff]
  first | refine callG_con (l9_within_con y 21 (by decide) (by decide)) rfl ?_ | refine callCG_con (l9_within_con y 21 (by decide) (by decide)) rfl ?_ | refine callSG_con (l9_within_con y 21 (by decide) (by decide)) rfl ?_
  have y1 := Int.emod_nonneg y (by decide : (21 : Int) ≠ 0)
  have y2 := Int.emod_lt_of_pos y (by decide : (0 : Int) < 21)
  simp -implicitDefEqProofs only [xC_skip, evS, evT, evU, hv, effC, reduceCtorEq, ↓reduceIte, Nat.reduceEqDiff, Nat.reduceAdd, Nat.reduceMul, Int.reduceToNat, Int.reduceAdd, Int.reduceSub, Int.reduceMul, Int.reduceNeg, Int.reduceLT, Int.reduceLE, Nat.reduceLT, Nat.reduceLeDiff]
  first | refine callG_con (l9_within_con dy 21 (by decide) (by decide)) rfl ?_ | refine callCG_con (l9_within_con dy 21 (by decide) (by decide)) rfl ?_ | refine callSG_con (l9_within_con dy 21 (by decide) (by decide)) rfl ?_
  have d1 := Int.emod_nonneg dy (by decide : (21 : Int) ≠ 0)
  have d2 := Int.emod_lt_of_pos dy (by decide : (0 : Int) < 21)
  simp -implicitDefEqProofs only [xC_skip, evS, evT, evU, hv, effC, reduceCtorEq, ↓reduceIte, Nat.reduceEqDiff, Nat.reduceAdd, Nat.reduceMul, Int.reduceToNat, Int.reduceAdd, Int.reduceSub, Int.reduceMul, Int.reduceNeg, Int.reduceLT, Int.reduceLE, Nat.reduceLT, Nat.reduceLeDiff]
  rw [wrapI (by omega) (by omega), wrapI (by omega) (by omega), wrapI (by omega) (by omega)]
  generalize hkk : fop .div (FloatKind.nearest .f64 (c % 129 - 64)) 4620693217682128896 = k
  generalize FloatKind.nearest .f64 (y % 21 - 10) = a
  generalize hbb : fop .div (FloatKind.nearest .f64 (dy % 21 - 10)) 4634204016564240384 = b
  generalize hZ : [a] :: [b] :: List.replicate (q - 1) [0] = Z
  have zl : Z.length = q + 1 := by rw [← hZ]; simp; omega
  have zg : ∀ i, 2 ≤ i → i < q + 1 → Z.getD i [] = [0] := fun i h1 h2 => by
    rw [← hZ]
    obtain ⟨r, rfl⟩ : ∃ r, i = r + 2 := ⟨i - 2, by omega⟩
    simp [List.getD_eq_getElem?_getD, show r < q - 1 by omega]
  have e2 : dcells 2 (rowsG Z) = [.d (rowD [a]), .d (rowD [b])] := by rw [← hZ]; rfl
  refine WA_forW (n := q + 1) (fun c s => ∃ i, c + i = q + 3 ∧ 2 ≤ i ∧ i ≤ q + 1 ∧ s = ⟨[(5, fI step), (13, fl k), (14, .ptr 5 0 0 3), (15, fI m), (16, fI q), (17, .d (rowD l)), (19, .sl 17 0 0 i 1 i)],
    [(17, [dcells i (rowsG Z)]), (5, [[fI 1, .sl 2 0 0 1 4 4, .sl 3 0 0 1 1 1]]), (3, [[fI 0]]), (2, [[fI 0, fI 0, fI 0, fl k]])]⟩) (s0 := ⟨_, _⟩) ?_ ⟨2, by omega, by omega, by omega, rfl⟩ ?_
  · rw [e2]
    have hz1 : ∀ L L' : Heap, L.get 10 0 = some [fl a] → L'.get 10 0 = none → Fz L L' (.sl 10 0 0 1 1 1) (.d (rowD [a])) := fun L L' h1 h2 => Fz_row (xs := [a]) h1 rfl rfl h2
    have hz2 : ∀ L L' : Heap, L.get 16 0 = some [fl b] → L'.get 16 0 = none → Fz L L' (.sl 16 0 0 1 1 1) (.d (rowD [b])) := fun L L' h1 h2 => Fz_row (xs := [b]) h1 rfl rfl h2
    exact LeT.weak (fun _ h => h) (by simp (maxDischargeDepth := 6) [Fz_rowD, Fz_rowI, Fz_rowsD, FzS_cons, FzS_nil, FzH_cons, FzH_nil, FzF_cons, FzF_nil, FzF_rows, FzA_cons, FzA_nil, FzA_app, FzA_rowV, FzA_dcells, FzA_outC, FzA_data, Fz_d, Fz_nil, Fz_any, Fz_ptr, Fz_sl, Fz_agg, get_cons, get_nil, fam_cons, fam_nil]) (by simp (maxDischargeDepth := 6) [Fz_rowD, Fz_rowI, Fz_rowsD, FzS_cons, FzS_nil, FzH_cons, FzH_nil, FzF_cons, FzF_nil, FzF_rows, FzA_cons, FzA_nil, FzA_app, FzA_rowV, FzA_dcells, FzA_outC, FzA_data, Fz_d, Fz_nil, Fz_any, Fz_ptr, Fz_sl, Fz_agg, get_cons, get_nil, fam_cons, fam_nil, hz1, hz2])
  rintro c' s ⟨i, hc, hi2, hiq, rfl⟩
  have hdl : (dcells i (rowsG Z)).length = i := by rw [dcells_len (esz := 1) i (fun _ _ => rfl)]; omega
  simp -implicitDefEqProofs only [xC_skip, evS, evT, evU, hv, effC, reduceCtorEq, ↓reduceIte, Nat.reduceEqDiff, Nat.reduceAdd, Nat.reduceMul, Int.reduceToNat, Int.reduceAdd, Int.reduceSub, Int.reduceMul, Int.reduceNeg, Int.reduceLT, Int.reduceLE, Nat.reduceLT, Nat.reduceLeDiff, A_l9_CorrLine_L0]
  refine condC_intro (fun hi => ?_) (fun hi => ?_)
  · replace hi := of_decide_eq_true hi
    simp -implicitDefEqProofs only [xC_skip, evS, evT, evU, hv, effC, reduceCtorEq, ↓reduceIte, Nat.reduceEqDiff, Nat.reduceAdd, Nat.reduceMul, Int.reduceToNat, Int.reduceAdd, Int.reduceSub, Int.reduceMul, Int.reduceNeg, Int.reduceLT, Int.reduceLE, Nat.reduceLT, Nat.reduceLeDiff]
    (repeat (with_reducible refine And.intro (by omega) ?_))
    have e3 : dcells (i + 1) (rowsG Z) = dcells i (rowsG Z) ++ [.d (rowD [0])] := by
      rw [dcells_succ, show rowsG Z i = [rowD (Z.getD i [])] from rfl, zg i hi2 (by omega)]; rfl
    have hz3 : ∀ L L' : Heap, L.get 19 0 = some [fl 0] → L'.get 19 0 = none → Fz L L' (.sl 19 0 0 1 1 1) (.d (rowD [0])) := fun L L' h1 h2 => Fz_row (xs := [0]) h1 rfl rfl h2
    refine ⟨c' - 1, _, by omega, ?_, i + 1, by omega, by omega, by omega, rfl⟩
    rw [e3]
    exact LeT.weak (fun _ h => h) (by simp (maxDischargeDepth := 6) [Fz_rowD, Fz_rowI, Fz_rowsD, FzS_cons, FzS_nil, FzH_cons, FzH_nil, FzF_cons, FzF_nil, FzF_rows, FzA_cons, FzA_nil, FzA_app, FzA_rowV, FzA_dcells, FzA_outC, FzA_data, Fz_d, Fz_nil, Fz_any, Fz_ptr, Fz_sl, Fz_agg, get_cons, get_nil, fam_cons, fam_nil]) (by simp (maxDischargeDepth := 6) [Fz_rowD, Fz_rowI, Fz_rowsD, FzS_cons, FzS_nil, FzH_cons, FzH_nil, FzF_cons, FzF_nil, FzF_rows, FzA_cons, FzA_nil, FzA_app, FzA_rowV, FzA_dcells, FzA_outC, FzA_data, Fz_d, Fz_nil, Fz_any, Fz_ptr, Fz_sl, Fz_agg, get_cons, get_nil, fam_cons, fam_nil, hz3])
  · replace hi := of_decide_eq_false hi
    obtain rfl : i = q + 1 := by omega
    simp -implicitDefEqProofs only [xC_skip, evS, evT, evU, hv, effC, reduceCtorEq, ↓reduceIte, Nat.reduceEqDiff, Nat.reduceAdd, Nat.reduceMul, Int.reduceToNat, Int.reduceAdd, Int.reduceSub, Int.reduceMul, Int.reduceNeg, Int.reduceLT, Int.reduceLE, Nat.reduceLT, Nat.reduceLeDiff]
    first | refine callG_con (l9_within_con step 20 (by decide) (by decide)) rfl ?_ | refine callCG_con (l9_within_con step 20 (by decide) (by decide)) rfl ?_ | refine callSG_con (l9_within_con step 20 (by decide) (by decide)) rfl ?_
    have s1 := Int.emod_nonneg step (by decide : (20 : Int) ≠ 0)
    have s2 := Int.emod_lt_of_pos step (by decide : (0 : Int) < 20)
    obtain ⟨j, hj⟩ : ∃ j : Nat, 10 + step % 20 = j := ⟨(10 + step % 20).toNat, by omega⟩
    have hj2 : j < 30 := by omega
    have wj : IntKind.i64.wrap (10 + step % 20) = (j : Int) := by rw [hj]; exact wrapI (by omega) (by omega)
    have wu : 0 ≤ IntKind.u64.wrap (j : Int) := by rw [wrapU (by omega) (by omega)]; omega
    simp -implicitDefEqProofs only [xC_skip, evS, evT, evU, hv, effC, reduceCtorEq, ↓reduceIte, Nat.reduceEqDiff, Nat.reduceAdd, Nat.reduceMul, Int.reduceToNat, Int.reduceAdd, Int.reduceSub, Int.reduceMul, Int.reduceNeg, Int.reduceLT, Int.reduceLE, Nat.reduceLT, Nat.reduceLeDiff, wj, shl_pow j (by omega)]
    refine ⟨wu, ?_⟩
    have z1e : (Z.getD 1 []).getD 0 0 = b := by rw [← hZ]; rfl
    obtain ⟨ix, ixn⟩ := ln_ix j hj2 (c % 129 - 64) (dy % 21 - 10) (by omega) (by omega) Z (by rw [z1e, ← hbb])
    rw [hkk] at ix
    have hw : lnG k (hW (2 ^ j)) Z = fop .sub (fop .mul (fop .div (FloatKind.nearest .f64 ((2 ^ j : Nat) : Int)) 4742290407621132288) k) b := by
      unfold lnG hW; rw [z1e, show FloatKind.nearest .f64 1073741824 = 4742290407621132288 by kernel_rfl]
    have hres : ∃ D a, 1 ≤ a ∧ a ≤ 2 ∧ solG (lnT k) Z l (hW (2 ^ j)) [one1] m = ([D], a, 0) ∧ Ix (-33) D ((2 ^ j : Nat) * (c % 129 - 64) - (dy % 21 - 10) * 2 ^ 27) := by
      obtain rfl | rfl : m = 0 ∨ m = 1 := by omega
      · obtain ⟨a', h1, h2, h3⟩ := ln_A k (hW (2 ^ j)) Z l ix.fin
        exact ⟨_, a', h1, h2, h3, ix⟩
      · have := List.all_eq_true.1 (List.all_eq_true.1 ln_one_chk j (by simpa using hj2)) (q - 1) (by simp; omega)
        rw [show q - 1 + 1 = q by omega, hofe] at this
        exact ln_B k (hW (2 ^ j)) Z l (eq_of_beq this) (-33) _ (by decide) ixn ix
    obtain ⟨D, a', a1, a2, hsg, dix⟩ := hres
    have heq : fcmp .eq D (lnG k (hW (2 ^ j)) Z) = true := Ix.eq dix ix
    rw [hw] at heq
    have ok : Sok (lnT k) Z l [one1] (List.replicate (lnT k).n 0) := ⟨ln_tok k, by omega, fun i hi => by
      rw [← hZ]
      rcases i with _ | _ | i
      · rfl
      · rfl
      · omega, by omega, rfl, rfl⟩
    have hsol := corr_SolveG_ok (lnT k) Z l (hW (2 ^ j)) [one1] ((2 ^ j : Nat) : Int) m (by show 0 < 1; decide) ok (Scale_pow j (by omega)) _ _ hsg
    have zsn : ∀ L : Heap, L.get 17 0 = some (dcells (q + 1) (rowsG Z)) → Snap L (.sl 17 0 0 (q + 1) 1 (q + 1)) (.d (rowsD Z)) := fun L h => by
      rw [show rowsD Z = .bor (q + 1) (rowsG Z) by rw [← zl]; rfl]
      exact snp_data h (fun _ _ => rfl) (by omega)
    refine callG_sum 100 _ (by simp [Heap.next]) hsol ⟨.aggs ⟨.bare _, snap_ops (lnT k).ops rfl, snap_ints [0] rfl, trivial⟩, zsn _ rfl, .bare _, .bare _, .bare _, snp_row rfl rfl rfl, trivial⟩ ?_
    have zc1 : (dcells (q + 1) (rowsG Z)).getD 1 .any = .d (rowD [b]) := by
      have := dcells_get (esz := 1) (q + 1) (get := rowsG Z) (fun _ _ => rfl) 1 0 (by omega) (by decide)
      rw [show 1 * 1 + 0 = 1 from rfl] at this
      rw [this, ← hZ]; rfl
    have k1 : decide ((1 : Int) ≤ (a' : Int)) = true := by simp; omega
    have k2 : decide ((a' : Int) ≤ 2) = true := by simp; omega
    have tn : (lnT k).n = 1 := rfl
    simp -implicitDefEqProofs only [xC_skip, evS, evT, evU, hv, effC, reduceCtorEq, ↓reduceIte, Nat.reduceEqDiff, Nat.reduceAdd, Nat.reduceMul, Int.reduceToNat, Int.reduceAdd, Int.reduceSub, Int.reduceMul, Int.reduceNeg, Int.reduceLT, Int.reduceLE, Nat.reduceLT, Nat.reduceLeDiff, zc1, k1, k2, tn, heq]
    (repeat (with_reducible refine And.intro (by omega) ?_))
    exact endsT_rett rfl (by decide) (by simp [look])
end Go.Ab
