import Derived.Test.YtponkmbigjmmoaaGreatGI
import Derived.Below
import Derived.SizedLaws
import Derived.ChangeSlices
set_option linter.unusedSimpArgs false
set_option linter.unusedVariables false
namespace Go.Ab
open Go Go.ChangeShapes Go.WideShapes Go.RowKit
def IsRow (w : World) (a : Option Addr) (len cap : Nat) (zs : List Int) : Prop :=
 (a = none /\ len = 0 /\ cap = 0 /\ zs = []) \/
 ∃ x, a = some x /\ len <= cap /\ zs.length = cap /\ ∀ i, i < zs.length -> w.cell? (x.add i) = some (.int .i64 (zs.getD i 0))
theorem IsRow.rel {St : Nat -> Prop} {m : Map} {L : Heap} {w : World} {a : Option Addr} {len cap : Nat} {zs : List Int} (h : IsRow w a len cap zs) (hSt : ∀ b, b < w.heap.size -> St b) :
  VRel St m L w (.d (rowI (zs.take len))) (.slice a len cap) := by
 rcases h with ⟨rfl, rfl, rfl, rfl⟩ | ⟨x, rfl, hl, hz, hc⟩
 ·exact .d (.bor0 _ _ _)
 ·by_cases h0 : len = 0
  ·subst h0
   rw [List.take_zero]; exact .d (.bor0 _ _ _)
  have hlen : (zs.take len).length = len := by simp; omega
  have hx : x.spot = none /\ x.block < w.heap.size := by
   have := hc 0 (by omega)
   simp only [Addr.add, if_true, World.cell?] at this
   split at this
   ·rename_i c _ _ hb
    split at this
    ·cases this
    ·rename_i hs
     refine ⟨by simpa using hs, ?_⟩
     exact (Array.getElem?_eq_some_iff.1 hb).1
   ·cases this
  obtain ⟨blk, off, spot⟩ := x
  obtain ⟨rfl, hb⟩ := hx
  have cell : ∀ i, i < len -> w.cell? ⟨blk, off + i, none⟩ = some (.int .i64 (zs.getD i 0)) := by
   intro i hi
   have := hc i (by omega)
   unfold Addr.add at this
   split at this
   ·rename_i e; subst e; exact this
   ·exact this
  unfold rowI
  rw [hlen]
  refine .d (.bor (sz := 1) (λi _ => .int .i64 (zs.getD i 0)) (hSt _ hb) hl (λi hi => rfl) (λi j hi hj => ?_) λi j hi hj => ?_)
  ·obtain rfl : j = 0 := by omega
   have := cell i hi
   rwa [show off + i * 1 + 0 = off + i from by omega]
  ·obtain rfl : j = 0 := by omega
   have : (zs.take len).getD i 0 = zs.getD i 0 := by
    simp only [d2d, List.getElem?_take, if_pos hi]
   simp only [a6T, List.getD_cons_zero, this]
   exact .int _ _
theorem walk_of_con {P : Program} {f : FuncId} {vs : List V} {b : Bool} (h : Con P f vs (fB b)) {cargs : Array Value} {w : World} (hsz : cargs.size = vs.length)
  (hargs : ∀ j, j < vs.length -> VRel (λb => b < w.heap.size) (λ_ _ => none) [] w (vs.getD j .any) (cargs.getD j undef)) :
  Calls P f cargs w λe w' => e = .returned (.bool b) /\ Below w.heap.size w w' := by
 refine (h.2 (λb => b < w.heap.size) (λ_ _ => none) w cargs (Objs.none _ λ_ h => h) hsz hargs).mono ?_
 rintro e w' ⟨v, St', m', rfl, h1, h2, h3, h4, h5, h6⟩
 refine ⟨by rw [h2.bool], ⟨h3.os, h3.tape, h3.output, h3.size, λk hk => h3.block k hk ?_⟩⟩
 rintro ⟨X, r, C, hX, _⟩
 simp [Heap.get, Heap.fam] at hX
theorem sized_len {H : Type} {enc : TypeId × Value -> H} {P : Program} {W : World} {base : Nat} {spare : Nat -> Bool} {held : Bool} {t e : TypeId} {k : IntKind} {a : Option Addr} {len cap : Nat} {d : DataW H} {ps : List MemPlace} {ts : List TypeId} {ds : List (DataW H)} {j : Nat}
  (hsz : (DataW.weightsEach P ts ds).all (· <= reachBytes) = true) (ht : ts[j]? = some t) (hd : ds[j]? = some d) (hu : P.underlying t = some (.slice e)) (he : P.underlying e = some (.int k)) (hc : P.cellsOf e = 1) (hB : P.bytesOf e = 8)
  (h : DataW.Trod enc P W base spare held t (.slice a len cap) d ps) : len < 2 ^ 61 := by
 obtain ⟨fuel, hf⟩ := h
 rcases open_ints hu he hc hf with ⟨hcs, _⟩ | ⟨x, l, c, zs, hcs, _, hl, _, hz, hx, _, _⟩
 ·simp [Value.cells] at hcs
  obtain ⟨rfl, rfl, rfl⟩ := hcs
  decide
 ·simp [Value.cells] at hcs
  obtain ⟨rfl, rfl, rfl⟩ := hcs
  obtain ⟨hx, _⟩ := Prod.mk.inj hx
  subst hx
  have z := sized_slice hsz ht hd hu
  rw [hB] at z
  have hl2 : len <= zs.length := by
   rw [hz]; split
   ·exact hl
   ·exact d2t _
  have h1 : (lits (H := H) k (zs.take len)).length + (lits (H := H) k (zs.drop len)).length = zs.length := by
   simp [lits]; omega
  rw [h1] at z
  have hr : reachBytes <= 140737488351232 := by decide
  omega
end Go.Ab
namespace Go.Ab
open Go
def pw (e : Int) : Rat := (2 : Rat) ^ e
theorem q8 (e : Int) : 0 < pw e := Rat.zpow_pos (by decide)
theorem a2q (a b : Int) : pw (a + b) = pw a * pw b := Rat.zpow_add (by decide) a b
theorem c2x (n : Nat) : pw n = ((2 ^ n : Nat) : Rat) := by
 unfold pw; rw [Rat.zpow_natCast, Rat.natCast_pow]; rfl
theorem D4 : pw 0 = 1 := by unfold pw; exact Rat.zpow_zero 2
theorem N6 (a : Int) : pw (a + 1) = 2 * pw a := by
 rw [a2q]; have : pw 1 = 2 := by unfold pw; exact Rat.zpow_one 2
 rw [this]; grind
theorem a2p (a : Int) : 2 * pw (a - 1) = pw a := by
 have := N6 (a - 1)
 rw [Int.sub_add_cancel] at this; exact this.symm
theorem Q0 (a : Int) (n : Nat) : pw (a + n) = ((2 ^ n : Nat) : Rat) * pw a := by
 rw [a2q, c2x, Rat.mul_comm]
theorem pw52 (a : Int) : pw (a + 52) = 4503599627370496 * pw a := by
 have := Q0 a 52
 simpa using this
theorem pw53 (a : Int) : pw (a + 53) = 9007199254740992 * pw a := by
 have := Q0 a 53
 simpa using this
theorem G8 {a b : Int} (h : a <= b) : pw a <= pw b := by
 obtain ⟨n, rfl⟩ : ∃ n : Nat, b = a + n := ⟨(b - a).toNat, by omega⟩
 rw [Q0]
 have h1 : (1 : Rat) <= ((2 ^ n : Nat) : Rat) := by
  have : 1 <= 2 ^ n := Nat.one_le_two_pow
  exact_mod_cast d2u.2 this
 have := d2p h1 (d2q (q8 a))
 grind
theorem d1v {a b : Int} (h : a < b) : pw a < pw b := by
 have h1 := G8 (show a + 1 <= b by omega)
 have := N6 a
 have := q8 a
 grind
theorem b5F {a b : Int} (h : pw a <= pw b) : a <= b := by
 by_cases e : a <= b
 ·exact e
 ·have := d1v (show b < a by omega); grind
theorem b5E {a b : Int} (h : pw a < pw b) : a < b := by
 by_cases e : a < b
 ·exact e
 ·have := G8 (show b <= a by omega); grind
def dval : Ieee.Datum -> Rat
 | .number s m i => (if s then -(m : Rat) else m) * pw i
 | _ => 0
def val (x : Nat) : Rat := dval (Ieee.double.read x)
def fin (x : Nat) : Prop := ∃ s m i, Ieee.double.read x = .number s m i
def rv (r : Nat) : Rat := if r < 4503599627370496 then (r : Rat) * pw (-1074) else ((4503599627370496 + r % 4503599627370496 : Nat) : Rat) * pw (-1074 + (r / 4503599627370496 - 1 : Nat))
theorem N4 (E kept : Nat) (h : kept <= 9007199254740992) (h2 : E = 0 \/ 4503599627370496 <= kept) : rv (E * 4503599627370496 + kept) = (kept : Rat) * pw (-1074 + E) := by
 unfold rv
 by_cases h3 : E * 4503599627370496 + kept < 4503599627370496
 ·obtain rfl : E = 0 := by omega
  rw [if_pos h3]; simp
 ·rw [if_neg h3]
  by_cases h4 : kept = 9007199254740992
  ·subst h4
   have e1 : (E * 4503599627370496 + 9007199254740992) % 4503599627370496 = 0 := by omega
   have e2 : (E * 4503599627370496 + 9007199254740992) / 4503599627370496 - 1 = E + 1 := by omega
   rw [e1, e2]
   have := N6 (-1074 + E)
   rw [show (-1074 : Int) + ((E + 1 : Nat) : Int) = -1074 + E + 1 from by omega, this]
   grind
  ·by_cases h5 : kept < 4503599627370496
   ·omega
   ·have e1 : (E * 4503599627370496 + kept) % 4503599627370496 = kept - 4503599627370496 := by omega
    have e2 : (E * 4503599627370496 + kept) / 4503599627370496 - 1 = E := by omega
    rw [e1, e2, show 4503599627370496 + (kept - 4503599627370496) = kept from by omega]
theorem u5 : rv 0 = 0 := by unfold rv; simp
theorem s6 (r : Nat) : 0 <= rv r := by
 unfold rv
 split
 ·exact Rat.mul_nonneg Rat.natCast_nonneg (d2q (q8 _))
 ·exact Rat.mul_nonneg Rat.natCast_nonneg (d2q (q8 _))
theorem a9D (r : Nat) : ∃ E kept : Nat, r = E * 4503599627370496 + kept /\ kept < 9007199254740992 /\ (E = 0 \/ 4503599627370496 <= kept) := by
 by_cases h : r < 9007199254740992
 ·exact ⟨0, r, by omega, h, .inl rfl⟩
 ·exact ⟨r / 4503599627370496 - 1, r % 4503599627370496 + 4503599627370496, by omega, by omega, .inr (by omega)⟩
theorem b3B (E kept : Nat) (h : kept < 9007199254740992) (h2 : E = 0 \/ 4503599627370496 <= kept) : rv (E * 4503599627370496 + kept + 1) = rv (E * 4503599627370496 + kept) + pw (-1074 + E) := by
 rw [N4 E kept (by omega) h2, Nat.add_assoc, N4 E (kept + 1) (by omega) (by omega), Rat.natCast_add]
 grind
theorem V5 (r : Nat) : rv r < rv (r + 1) := by
 obtain ⟨E, kept, rfl, h, h2⟩ := a9D r
 rw [b3B E kept h h2]
 have := q8 (-1074 + E)
 grind
theorem D8 {a b : Nat} (h : a <= b) : rv a <= rv b := by
 obtain ⟨d, rfl⟩ : ∃ d, b = a + d := ⟨b - a, by omega⟩
 clear h
 induction d with
 | zero => exact Rat.le_refl
 | succ d ih => have := V5 (a + d); rw [<- Nat.add_assoc]; grind
theorem Y5 {a b : Nat} (h : a < b) : rv a < rv b := by
 have := V5 a
 have := D8 (show a + 1 <= b by omega)
 grind
theorem c67 (r : Nat) : rv (r + 1) <= rv r + rv r * pw (-52) + pw (-1074) := by
 obtain ⟨E, kept, rfl, h, h2⟩ := a9D r
 rw [b3B E kept h h2]
 have hp := q8 (-1074)
 have h52 := q8 (-52)
 have hn := Rat.mul_nonneg (s6 (E * 4503599627370496 + kept)) (d2q h52)
 rcases h2 with rfl | h2
 ·simp only [Int.natCast_zero, Int.add_zero]; grind
 ·rw [N4 E kept (by omega) (.inr h2)] at hn ⊢
  have e := pw52 (-1074 + E - 52)
  rw [Int.sub_add_cancel] at e
  have e2 : pw (-1074 + E) * pw (-52) = pw (-1074 + E - 52) := by rw [<- a2q]; rfl
  have hk : (4503599627370496 : Rat) <= (kept : Rat) := by exact_mod_cast d2u.2 h2
  have h3 := d2p hk (d2q (q8 (-1074 + E - 52)))
  have e3 : (kept : Rat) * pw (-1074 + E) * pw (-52) = kept * pw (-1074 + E - 52) := by rw [Rat.mul_assoc, e2]
  grind
theorem W1 (s : Bool) (r : Nat) (h : r < 9218868437227405312) : Ieee.double.read (Ieee.double.word s r) = if r < 4503599627370496 then .number s r (-1074) else .number s (4503599627370496 + r % 4503599627370496) (-1074 + (r / 4503599627370496 - 1 : Nat)) := by
 have h1 : Ieee.double.signWeight = 9223372036854775808 := rfl
 have h2 : Ieee.double.binade = 4503599627370496 := rfl
 have h3 : Ieee.double.infRung = 9218868437227405312 := rfl
 have h4 : Ieee.double.leastPlace = -1074 := rfl
 unfold Ieee.Format.read Ieee.Format.word
 simp only [h1, h2, h3, h4]
 have e1 : (if s = true then 9223372036854775808 + r else r) % 9223372036854775808 = r := by split <;> omega
 have e2 : ((if s = true then 9223372036854775808 + r else r) / 9223372036854775808 % 2 == 1) = s := by
  cases s
  ·simp; omega
  ·simp; omega
 rw [e1, e2, if_pos h]
theorem m8 (s : Bool) (r : Nat) (h : r < 9218868437227405312) : fin (Ieee.double.word s r) := by
 unfold fin
 rw [W1 s r h]
 split <;> exact ⟨_, _, _, rfl⟩
theorem k6 (s : Bool) (r : Nat) (h : r < 9218868437227405312) : val (Ieee.double.word s r) = if s then -rv r else rv r := by
 unfold val
 rw [W1 s r h]
 unfold rv
 by_cases h1 : r < 4503599627370496
 ·rw [if_pos h1, if_pos h1]
  simp only [dval]; split <;> grind
 ·rw [if_neg h1, if_neg h1]
  simp only [dval]; split <;> grind
theorem a3N {x : Nat} (h : fin x) (hx : x < 2 ^ 64) : ∃ s r, r < 9218868437227405312 /\ x = Ieee.double.word s r := by
 have h1 : Ieee.double.signWeight = 9223372036854775808 := rfl
 have h2 : Ieee.double.binade = 4503599627370496 := rfl
 have h3 : Ieee.double.infRung = 9218868437227405312 := rfl
 obtain ⟨s, m, i, h⟩ := h
 unfold Ieee.Format.read at h
 simp only [h1, h2, h3] at h
 have hr : x % 9223372036854775808 < 9218868437227405312 := by
  split at h
  ·omega
  ·split at h
   ·assumption
   ·split at h <;> cases h
 refine ⟨decide (9223372036854775808 <= x), x % 9223372036854775808, hr, ?_⟩
 unfold Ieee.Format.word
 rw [h1]
 by_cases e : 9223372036854775808 <= x
 ·rw [if_pos (by simpa using e)]; omega
 ·rw [if_neg (by simpa using e)]; omega
theorem r6 (s : Bool) (r : Nat) (h : r < 9218868437227405312) : j7 (Ieee.double.word s r) = false := by
 have h1 : Ieee.double.signWeight = 9223372036854775808 := rfl
 unfold j7 Ieee.Format.word
 rw [h1]
 have e1 : (if s = true then 9223372036854775808 + r else r) % 9223372036854775808 = r := by split <;> omega
 rw [e1]; simp; omega
theorem b4v (neg : Bool) (n drop : Nat) : 2 * (Ieee.Toward.even.cut neg n drop * 2 ^ drop) <= 2 * n + 2 ^ drop /\ 2 * n <= 2 * (Ieee.Toward.even.cut neg n drop * 2 ^ drop) + 2 ^ drop := by
 unfold Ieee.Toward.cut
 simp only
 have hlog : n < 2 ^ (n.log2 + 1) := Nat.lt_log2_self
 by_cases h : drop <= n.log2 + 2
 ·rw [Nat.min_eq_left h, Nat.one_shiftLeft]
  have hg : 0 < 2 ^ drop := Nat.two_pow_pos _
  generalize 2 ^ drop = g at hg
  have h1 := Nat.div_add_mod n g
  have h2 := Nat.mod_lt n hg
  generalize n / g = q at h1
  generalize n % g = t at h1 h2
  have h3 : (q + 1) * g = g * q + g := by rw [Nat.add_mul, Nat.mul_comm]; omega
  have h4 : q * g = g * q := Nat.mul_comm _ _
  by_cases e : (decide (g < 2 * t) || (g == 2 * t && q % 2 == 1)) = true
  ·rw [e]
   simp only [Bool.toNat_true]
   simp only [Bool.or_eq_true, decide_eq_true_eq, Bool.and_eq_true, beq_iff_eq] at e
   omega
  ·have e' : (decide (g < 2 * t) || (g == 2 * t && q % 2 == 1)) = false := by simpa using e
   rw [e']
   simp only [Bool.toNat_false, Nat.add_zero]
   have : ¬ g < 2 * t := λh => e (by simp [h])
   omega
 ·rw [Nat.min_eq_right (by omega), Nat.one_shiftLeft]
  have h5 : 2 ^ (n.log2 + 2) = 2 * 2 ^ (n.log2 + 1) := by rw [Nat.pow_succ]; omega
  have h6 : 2 ^ (n.log2 + 2) <= 2 ^ drop := d2v (by decide) (by omega)
  have h7 : n < 2 ^ (n.log2 + 2) := by omega
  rw [Nat.div_eq_of_lt h7, Nat.mod_eq_of_lt h7]
  have e : (decide (2 ^ (n.log2 + 2) < 2 * n) || (2 ^ (n.log2 + 2) == 2 * n && 0 % 2 == 1)) = false := by simp; omega
  rw [e]
  simp only [Bool.toNat_false, Nat.add_zero, Nat.zero_mul, Nat.mul_zero]
  omega
theorem b9r (neg : Bool) (n : Nat) : Ieee.Toward.even.cut neg n 0 = n := by
 unfold Ieee.Toward.cut
 simp [Nat.mod_one]
end Go.Ab
namespace Go.Ab
open Go
def rabs (x : Rat) : Rat := if x < 0 then -x else x
theorem r8 (x : Rat) : 0 <= rabs x := by unfold rabs; split <;> grind
theorem K3 (x : Rat) : rabs (-x) = rabs x := by unfold rabs; split <;> split <;> grind
theorem j3 {x : Rat} (h : 0 <= x) : rabs x = x := by unfold rabs; split <;> grind
theorem x6 (x : Rat) : x <= rabs x /\ -x <= rabs x := by unfold rabs; split <;> grind
theorem r7 {x b : Rat} (h1 : x <= b) (h2 : -x <= b) : rabs x <= b := by unfold rabs; split <;> grind
theorem U8 (x y : Rat) : rabs (x * y) = rabs x * rabs y := by
 have key : ∀ a b : Rat, 0 <= a -> 0 <= b -> 0 <= a * b := λa b => Rat.mul_nonneg
 unfold rabs
 by_cases h1 : x < 0 <;> by_cases h2 : y < 0
 ·have := key (-x) (-y) (by grind) (by grind)
  rw [if_pos h1, if_pos h2, if_neg (by grind)]; grind
 ·have := key (-x) y (by grind) (by grind)
  rw [if_pos h1, if_neg h2]; split <;> grind
 ·have := key x (-y) (by grind) (by grind)
  rw [if_neg h1, if_pos h2]; split <;> grind
 ·have := key x y (by grind) (by grind)
  rw [if_neg h1, if_neg h2, if_neg (by grind)]
theorem b8F (x y : Rat) : rabs (x + y) <= rabs x + rabs y := by
 have := x6 x; have := x6 y
 exact r7 (by grind) (by grind)
def bigE : Int := 1000
def big : Rat := pw bigE
theorem b8d : bigE = 1000 := rfl
structure Near (r : Nat) (v : Rat) : Prop where
 lt : r < 9214364837600034816
 err : rabs (rv r - v) <= v * pw (-53) + pw (-1075)
 lo : r = 0 \/ rv (r - 1) <= v
 hi : v <= rv (r + 1)
 exact : ∀ (k : Nat) (e : Int), k < 9007199254740992 -> -1074 <= e -> v = (k : Rat) * pw e -> rv r = v
theorem c21 : Near 0 0 := by
 have := q8 (-1075)
 refine ⟨by decide, ?_, .inl rfl, ?_, λk e _ _ h => u5⟩
 ·rw [u5]; refine r7 ?_ ?_ <;> grind
 ·exact s6 _
theorem b5Q (s : Bool) (m : Nat) (i : Int) (hv : (m : Rat) * pw i <= big) : ∃ r, Ieee.double.nearest s m i = Ieee.double.word s r /\ Near r ((m : Rat) * pw i) := by
 by_cases h0 : m = 0
 ·subst h0
  refine ⟨0, by simp [Ieee.Format.nearest], ?_⟩
  have : ((0 : Nat) : Rat) * pw i = 0 := by simp
  rw [this]; exact c21
 have q1 : Ieee.double.fractionBits = 52 := rfl
 have q2 : Ieee.double.leastPlace = -1074 := rfl
 have q3 : Ieee.double.binade = 4503599627370496 := rfl
 have q4 : Ieee.double.infRung = 9218868437227405312 := rfl
 have e0 : Ieee.double.nearest s m i = Ieee.double.word s (min (((max (i + (m.log2 : Int) - (52 : Nat)) (-1074)) - (-1074)).toNat * 4503599627370496 +
   Ieee.Toward.even.cut s (m <<< (i - max (i + (m.log2 : Int) - (52 : Nat)) (-1074)).toNat) (max (i + (m.log2 : Int) - (52 : Nat)) (-1074) - i).toNat) 9218868437227405312) := by
  unfold Ieee.Format.nearest
  rw [if_neg h0, q1, q2, q3, q4]
 have hl1 : 2 ^ m.log2 <= m := Nat.log2_self_le h0
 have hl2 : m < 2 ^ (m.log2 + 1) := Nat.lt_log2_self
 generalize m.log2 = L at e0 hl1 hl2
 generalize hlast : max (i + (L : Int) - (52 : Nat)) (-1074) = last at e0
 generalize hkept : Ieee.Toward.even.cut s (m <<< (i - last).toNat) (last - i).toNat = kept at e0
 have hP := q8 last
 -- v between powers
 have b1 : pw (i + L) <= (m : Rat) * pw i := by
  rw [Q0]
  exact d2p (by exact_mod_cast d2u.2 hl1) (d2q (q8 i))
 have b2 : (m : Rat) * pw i < pw (i + L + 1) := by
  rw [Int.add_assoc, show (L : Int) + 1 = ((L + 1 : Nat) : Int) from by omega, Q0]
  exact Rat.mul_lt_mul_of_pos_right (by exact_mod_cast Rat.natCast_lt_natCast.2 hl2) (q8 i)
 -- kept
 have hk : 2 * ((kept : Rat) * pw last) <= 2 * ((m : Rat) * pw i) + pw last /\ 2 * ((m : Rat) * pw i) <= 2 * ((kept : Rat) * pw last) + pw last := by
  by_cases h : last <= i
  ·have e1 : (last - i).toNat = 0 := by omega
   rw [e1, b9r] at hkept
   have e2 : pw i = ((2 ^ (i - last).toNat : Nat) : Rat) * pw last := by
    have h7 : i = last + ((i - last).toNat : Nat) := by omega
    exact (congrArg pw h7).trans (Q0 _ _)
   have e3 : (kept : Rat) * pw last = (m : Rat) * pw i := by
    rw [<- hkept, Nat.shiftLeft_eq, Rat.natCast_mul, e2]; grind
   grind
  ·have e1 : (i - last).toNat = 0 := by omega
   rw [e1, Nat.shiftLeft_zero] at hkept
   have hc := b4v s m (last - i).toNat
   rw [hkept] at hc
   have e2 : pw last = ((2 ^ (last - i).toNat : Nat) : Rat) * pw i := by
    have h7 : last = i + ((last - i).toNat : Nat) := by omega
    exact (congrArg pw h7).trans (Q0 _ _)
   rw [e2]
   generalize 2 ^ (last - i).toNat = g at hc
   have h1 : (2 : Rat) * ((kept : Rat) * g) <= 2 * m + g := by exact_mod_cast d2u.2 hc.1
   have h2 : (2 : Rat) * m <= 2 * ((kept : Rat) * g) + g := by exact_mod_cast d2u.2 hc.2
   have hi := d2q (q8 i)
   have h3 := d2p h1 hi
   have h4 := d2p h2 hi
   grind
 have hlow : -1074 <= last := by omega
 have hll : i + L <= last + 52 := by omega
 have cast_le : ∀ a b : Nat, (a : Rat) <= (b : Rat) -> a <= b := λa b h => d2u.1 h
 have cast_lt : ∀ a b : Nat, (a : Rat) < (b : Rat) -> a < b := λa b h => Rat.natCast_lt_natCast.1 h
 have k1 : kept <= 9007199254740992 := by
  have h1 := G8 (show i + L + 1 <= last + 53 by omega)
  rw [pw53] at h1
  have h2 : (kept : Rat) * pw last < 9007199254740993 * pw last := by grind
  have h3 := d2s h2 (d2q hP)
  have := cast_lt kept 9007199254740993 (by exact_mod_cast h3)
  omega
 have k2 : last = -1074 \/ (i + L = last + 52 /\ 4503599627370496 <= kept) := by
  by_cases e : last = -1074
  ·exact .inl e
  ·refine .inr ⟨by omega, ?_⟩
   have h1 : i + L = last + 52 := by omega
   rw [h1, pw52] at b1
   have h2 : (4503599627370495 : Rat) * pw last < kept * pw last := by grind
   have h3 := d2s h2 (d2q hP)
   have := cast_lt 4503599627370495 kept (by exact_mod_cast h3)
   omega
 have hbig : last <= 948 := by
  have := b5F (Rat.le_trans b1 hv)
  rw [b8d] at this
  omega
 obtain ⟨E, hE⟩ : ∃ E : Nat, last = -1074 + E := ⟨(last + 1074).toNat, by omega⟩
 have hEk : E = 0 \/ 4503599627370496 <= kept := by omega
 have e1 : (last - -1074).toNat = E := by omega
 have hr : E * 4503599627370496 + kept < 9214364837600034816 := by omega
 have hrv := N4 E kept k1 hEk
 rw [<- hE] at hrv
 rw [e1, Nat.min_eq_left (by omega)] at e0
 refine ⟨_, e0, hr, ?_, ?_, ?_, ?_⟩
 ·rw [hrv]
  have hpv : pw last <= 2 * ((m : Rat) * pw i * pw (-53)) + 2 * pw (-1075) := by
   have hv0 : 0 <= (m : Rat) * pw i * pw (-53) := Rat.mul_nonneg (Rat.mul_nonneg Rat.natCast_nonneg (d2q (q8 i))) (d2q (q8 _))
   rcases k2 with e | ⟨e, _⟩
   ·have := a2p (-1074)
    rw [show (-1074 : Int) - 1 = -1075 from rfl] at this
    rw [e, <- this]; grind
   ·have h1 := d2p b1 (d2q (q8 (-53)))
    rw [e, <- a2q] at h1
    have h2 : last + 52 + -53 = last - 1 := by omega
    have h3 := a2p last
    rw [h2] at h1
    have := q8 (-1075)
    grind
  refine r7 ?_ ?_ <;> grind
 ·by_cases h : E * 4503599627370496 + kept = 0
  ·exact .inl h
  ·right
   by_cases h5 : E = 0 \/ 4503599627370497 <= kept
   ·obtain ⟨q, rfl⟩ : ∃ q, kept = q + 1 := ⟨kept - 1, by omega⟩
    have e3 := N4 E q (by omega) (by omega)
    rw [show E * 4503599627370496 + (q + 1) - 1 = E * 4503599627370496 + q from by omega, e3, <- hE]
    rw [Rat.natCast_add] at hk
    grind
   ·have hk5 : kept = 4503599627370496 := by omega
    subst hk5
    obtain ⟨F, rfl⟩ : ∃ F, E = F + 1 := ⟨E - 1, by omega⟩
    have e3 := N4 F 9007199254740991 (by omega) (by omega)
    rw [show (F + 1) * 4503599627370496 + 4503599627370496 - 1 = F * 4503599627370496 + 9007199254740991 from by omega, e3]
    have e4 : (-1074 : Int) + F = last - 1 := by omega
    have e5 := a2p last
    rw [e4]
    have h6 : ((9007199254740991 : Nat) : Rat) = 9007199254740991 := rfl
    have h7 : ((4503599627370496 : Nat) : Rat) = 4503599627370496 := rfl
    rw [h7] at hk
    rw [h6]
    have := q8 (last - 1)
    grind
 ·by_cases h5 : kept < 9007199254740992
  ·have e3 := b3B E kept h5 hEk
   rw [e3, hrv, <- hE]; grind
  ·have hk5 : kept = 9007199254740992 := by omega
   subst hk5
   have e3 := N4 (E + 1) 4503599627370497 (by omega) (by omega)
   rw [show E * 4503599627370496 + 9007199254740992 + 1 = (E + 1) * 4503599627370496 + 4503599627370497 from by omega, e3]
   have e4 : (-1074 : Int) + ((E + 1 : Nat) : Int) = last + 1 := by omega
   have e5 := N6 last
   rw [e4, e5]
   have h6 : ((9007199254740992 : Nat) : Rat) = 9007199254740992 := rfl
   have h7 : ((4503599627370497 : Nat) : Rat) = 4503599627370497 := rfl
   rw [h6] at hk
   rw [h7]
   grind
 ·intro k e hk3 he hve
  -- the number is a whole number of units of the last place
  have hle : last <= e := by
   have h1 : (k : Rat) * pw e < pw (e + 53) := by
    rw [pw53]
    have h2 : (k : Rat) < 9007199254740992 := by exact_mod_cast Rat.natCast_lt_natCast.2 hk3
    exact Rat.mul_lt_mul_of_pos_right h2 (q8 e)
   have h2 : pw (i + L) < pw (e + 53) := by grind
   have h3 := b5E h2
   omega
  obtain ⟨d, rfl⟩ : ∃ d : Nat, e = last + d := ⟨(e - last).toNat, by omega⟩
  have e4 : (m : Rat) * pw i = ((k * 2 ^ d : Nat) : Rat) * pw last := by
   rw [hve, Q0, Rat.natCast_mul]; grind
  rw [e4] at hk
  rw [hrv, e4]
  generalize k * 2 ^ d = q at hk
  have h1 : (kept : Rat) * pw last < ((q + 1 : Nat) : Rat) * pw last := by rw [Rat.natCast_add]; grind
  have h2 : (q : Rat) * pw last < ((kept + 1 : Nat) : Rat) * pw last := by rw [Rat.natCast_add]; grind
  have h3 := cast_lt _ _ (d2s h1 (d2q hP))
  have h4 := cast_lt _ _ (d2s h2 (d2q hP))
  have : kept = q := by omega
  rw [this]
theorem Near.le {r r1 : Nat} {v : Rat} (h : Near r v) (h1 : v <= rv r1) : rv r <= rv r1 := by
 by_cases hr : r <= r1
 ·exact D8 hr
 ·exfalso
  have h2 := Y5 (show r1 < r by omega)
  have h3 := D8 (show r1 <= r - 1 by omega)
  have h4 : v = rv r1 := by
   rcases h.lo with e | e
   ·omega
   ·grind
  obtain ⟨E, kept, rfl, hk, hE⟩ := a9D r1
  have h5 := N4 E kept (by omega) hE
  have := h.exact kept (-1074 + E) hk (by omega) (by rw [h4, h5])
  grind
end Go.Ab
namespace Go.Ab
open Go
theorem H8 (s : Bool) (m : Nat) (i base : Int) (h : base <= i) : ((Ieee.signed s m (i - base).toNat : Int) : Rat) * pw base = (if s then -(m : Rat) else m) * pw i := by
 have e : pw i = ((2 ^ (i - base).toNat : Nat) : Rat) * pw base := by
  have h7 : i = base + ((i - base).toNat : Nat) := by omega
  exact (congrArg pw h7).trans (Q0 _ _)
 rw [e]
 unfold Ieee.signed
 rw [Nat.shiftLeft_eq]
 generalize 2 ^ (i - base).toNat = g
 have e2 : (((m * g : Nat) : Int) : Rat) = (m : Rat) * g := by rw [Rat.intCast_natCast, Rat.natCast_mul]
 cases s
 ·simp only [Bool.false_eq_true, if_false, e2]; grind
 ·simp only [if_true, Rat.intCast_neg, e2]; grind
theorem B3 {x : Nat} {s : Bool} {m : Nat} {i : Int} (h : Ieee.double.read x = .number s m i) : val x = (if s then -(m : Rat) else m) * pw i := by unfold val; rw [h]; rfl
theorem W4 {x y : Nat} (hx : fin x) (hy : fin y) : (val x < val y /\ Ieee.double.order x y = some .lt) \/ (val x = val y /\ Ieee.double.order x y = some .eq) \/ (val y < val x /\ Ieee.double.order x y = some .gt) := by
 obtain ⟨s, m, i, hx⟩ := hx
 obtain ⟨t, n, j, hy⟩ := hy
 have hb := q8 (min i j)
 rw [B3 hx, B3 hy, <- H8 s m i (min i j) (by omega), <- H8 t n j (min i j) (by omega)]
 unfold Ieee.Format.order
 rw [hx, hy]
 simp only [Ieee.Datum.order]
 generalize Ieee.signed s m (i - min i j).toNat = a
 generalize Ieee.signed t n (j - min i j).toNat = b
 generalize pw (min i j) = p at hb
 rcases Int.lt_trichotomy a b with h | h | h
 ·exact .inl ⟨Rat.mul_lt_mul_of_pos_right (Rat.intCast_lt_intCast.2 h) hb, by rw [Int.compare_eq_lt.2 h]⟩
 ·subst h; exact .inr (.inl ⟨rfl, by rw [Int.compare_eq_eq.2 rfl]⟩)
 ·exact .inr (.inr ⟨Rat.mul_lt_mul_of_pos_right (Rat.intCast_lt_intCast.2 h) hb, by rw [Int.compare_eq_gt.2 h]⟩)
theorem b4k {x y : Nat} (hx : fin x) (hy : fin y) : fcmp .lt x y = true ↔ val x < val y := by
 rcases W4 hx hy with ⟨h, e⟩ | ⟨h, e⟩ | ⟨h, e⟩ <;> simp only [fcmp, e] <;> simp <;> grind
theorem K9 {x y : Nat} (hx : fin x) (hy : fin y) : fcmp .gt x y = true ↔ val y < val x := by
 rcases W4 hx hy with ⟨h, e⟩ | ⟨h, e⟩ | ⟨h, e⟩ <;> simp only [fcmp, e] <;> simp <;> grind
theorem a2D {x y : Nat} (hx : fin x) (hy : fin y) : fcmp .le x y = true ↔ val x <= val y := by
 rcases W4 hx hy with ⟨h, e⟩ | ⟨h, e⟩ | ⟨h, e⟩ <;> simp only [fcmp, e] <;> simp <;> grind
theorem a0s {x y : Nat} (hx : fin x) (hy : fin y) : fcmp .eq x y = true ↔ val x = val y := by
 rcases W4 hx hy with ⟨h, e⟩ | ⟨h, e⟩ | ⟨h, e⟩ <;> simp only [fcmp, e] <;> simp <;> grind
theorem t8 : fin 0 := ⟨false, 0, -1074, by decide⟩
theorem r9 : val 0 = 0 := by
 have h : Ieee.double.read 0 = .number false 0 (-1074) := by decide
 rw [B3 h]; simp
theorem E0 {x : Nat} (h : fin x) : j7 x = false := by
 obtain ⟨s, m, i, h⟩ := h
 rw [<- K2, h]; rfl
theorem V8 {x : Nat} (h : fin x) : p9 x = true := by
 obtain ⟨s, m, i, hd⟩ := h
 rw [<- b2K]
 have e : fop .sub x x = 0 := by
  have ht : Ieee.signed s m 0 + Ieee.signed (!s) m 0 = 0 := by
   cases s <;> simp [Ieee.signed] <;> omega
  have hs : (s && !s) = false := by cases s <;> rfl
  have hw : Ieee.double.write (.number false 0 i) = 0 := by simp [Ieee.Format.write, Ieee.Format.nearest, Ieee.Format.word]
  simp [fop, Ieee.Format.sub, hd, Ieee.Datum.sum, Ieee.Datum.opposite, ht, hs, hw, cf, j7]
 rw [e]; decide
theorem c00 {x : Nat} (h : p9 x = true) : fin x := by
  cases hd : Ieee.double.read x with
  | nan s t => have : j7 x = true := by rw [← K2, hd]; rfl
               simp [p9, this] at h
  | infinity s =>
    rw [<- b2K] at h
    have e : fop .sub x x = qnan := by
      have : ¬ s = !s := by cases s <;> simp
      simp [fop, Ieee.Format.sub, hd, Ieee.Datum.sum, Ieee.Datum.opposite, this]
    rw [e] at h; exact absurd h (by decide)
  | number s m i => exact ⟨s, m, i, hd⟩
theorem b6j (s : Bool) (r : Nat) (h : r < 9214364837600034816) : fin (down (Ieee.double.word s r)) /\ val (down (Ieee.double.word s r)) = if s then -rv (r + 1) else if r = 0 then -rv 1 else rv (r - 1) := by
 have h1 : Ieee.double.signWeight = 9223372036854775808 := rfl
 have hf := m8 s r (by omega)
 have hn := E0 hf
 have hv := k6 s r (by omega)
 have n1 : j7 s8 = false := by decide
 have rd : Ieee.double.read s8 = .infinity true := by decide
 have o1 : fcmp .eq (Ieee.double.word s r) s8 = false := by
  obtain ⟨s', m, i, hd⟩ := hf
  simp [fcmp, Ieee.Format.order, hd, rd, Ieee.Datum.order]
 have o2 : fcmp .gt s8 (Ieee.double.word s r) = false := by
  obtain ⟨s', m, i, hd⟩ := hf
  simp [fcmp, Ieee.Format.order, hd, rd, Ieee.Datum.order]
 unfold down a8L
 rw [hn, n1, o1, o2]
 simp only [Bool.false_eq_true, or_self, if_false]
 by_cases hr : r = 0
 ·subst hr
  have z : fcmp .eq (Ieee.double.word s 0) 0 = true := by
   rw [a0s hf t8, hv, r9, u5]; split <;> rfl
  have e : b1N 1 s8 = Ieee.double.word true 1 := by decide
  rw [if_pos z, e]
  refine ⟨m8 true 1 (by decide), ?_⟩
  rw [k6 true 1 (by decide)]
  simp
 ·have hp : 0 < rv r := by have := Y5 (show 0 < r by omega); rwa [u5] at this
  have z : ¬ fcmp .eq (Ieee.double.word s r) 0 = true := by
   rw [a0s hf t8, hv, r9]; split <;> grind
  rw [if_neg z]
  cases s
  ·have g : fcmp .gt (Ieee.double.word false r) 0 = true := by
    rw [K9 hf t8, hv, r9]; simpa using hp
   have e : Ieee.double.word false r = r := by simp [Ieee.Format.word]
   rw [g]
   have b1 : (false == true) = false := rfl
   rw [b1, e]
   simp only [Bool.false_eq_true, if_false]
   have w : (IntKind.wrap .u64 ((r : Int) - 1)).toNat = r - 1 := by rw [a1r (by omega) (by omega)]; omega
   rw [w, if_neg hr]
   have e2 : r - 1 = Ieee.double.word false (r - 1) := by simp [Ieee.Format.word]
   rw [e2, u7 (r6 false _ (by omega))]
   refine ⟨m8 _ _ (by omega), ?_⟩
   rw [k6 _ _ (by omega)]
   simp [Ieee.Format.word]
  ·have g : fcmp .gt (Ieee.double.word true r) 0 = false := by
    have : ¬ fcmp .gt (Ieee.double.word true r) 0 = true := by
     rw [K9 hf t8, hv, r9]; simp only [if_true]; grind
    simpa using this
   have e : Ieee.double.word true r = 9223372036854775808 + r := by simp [Ieee.Format.word, h1]
   rw [g]
   have b1 : (false == false) = true := rfl
   rw [b1, e]
   simp only [if_true]
   have w : (IntKind.wrap .u64 (((9223372036854775808 + r : Nat) : Int) + 1)).toNat = 9223372036854775808 + (r + 1) := by rw [a1r (by omega) (by omega)]; omega
   rw [w]
   have e2 : 9223372036854775808 + (r + 1) = Ieee.double.word true (r + 1) := by simp [Ieee.Format.word, h1]
   rw [e2, u7 (r6 true _ (by omega))]
   refine ⟨m8 _ _ (by omega), ?_⟩
   rw [k6 _ _ (by omega)]
   simp
theorem c1B (s : Bool) (r : Nat) (h : r < 9214364837600034816) : fin (up (Ieee.double.word s r)) /\ val (up (Ieee.double.word s r)) = if s then (if r = 0 then rv 1 else -rv (r - 1)) else rv (r + 1) := by
 have h1 : Ieee.double.signWeight = 9223372036854775808 := rfl
 have hf := m8 s r (by omega)
 have hn := E0 hf
 have hv := k6 s r (by omega)
 have n1 : j7 finf = false := by decide
 have rd : Ieee.double.read finf = .infinity false := by decide
 have o1 : fcmp .eq (Ieee.double.word s r) finf = false := by
  obtain ⟨s', m, i, hd⟩ := hf
  simp [fcmp, Ieee.Format.order, hd, rd, Ieee.Datum.order]
 have o2 : fcmp .gt finf (Ieee.double.word s r) = true := by
  obtain ⟨s', m, i, hd⟩ := hf
  simp [fcmp, Ieee.Format.order, hd, rd, Ieee.Datum.order]
 unfold up a8L
 rw [hn, n1, o1, o2]
 simp only [Bool.false_eq_true, or_self, if_false]
 by_cases hr : r = 0
 ·subst hr
  have z : fcmp .eq (Ieee.double.word s 0) 0 = true := by
   rw [a0s hf t8, hv, r9, u5]; split <;> rfl
  have e : b1N 1 finf = Ieee.double.word false 1 := by decide
  rw [if_pos z, e]
  refine ⟨m8 false 1 (by decide), ?_⟩
  rw [k6 false 1 (by decide)]
  simp
 ·have hp : 0 < rv r := by have := Y5 (show 0 < r by omega); rwa [u5] at this
  have z : ¬ fcmp .eq (Ieee.double.word s r) 0 = true := by
   rw [a0s hf t8, hv, r9]; split <;> grind
  rw [if_neg z]
  cases s
  ·have g : fcmp .gt (Ieee.double.word false r) 0 = true := by
    rw [K9 hf t8, hv, r9]; simpa using hp
   have e : Ieee.double.word false r = r := by simp [Ieee.Format.word]
   rw [g]
   have b1 : (true == true) = true := rfl
   rw [b1, e]
   simp only [if_true]
   have w : (IntKind.wrap .u64 ((r : Int) + 1)).toNat = r + 1 := by rw [a1r (by omega) (by omega)]; omega
   rw [w]
   have e2 : r + 1 = Ieee.double.word false (r + 1) := by simp [Ieee.Format.word]
   rw [e2, u7 (r6 false _ (by omega))]
   refine ⟨m8 _ _ (by omega), ?_⟩
   rw [k6 _ _ (by omega)]
   simp [Ieee.Format.word]
  ·have g : fcmp .gt (Ieee.double.word true r) 0 = false := by
    have : ¬ fcmp .gt (Ieee.double.word true r) 0 = true := by
     rw [K9 hf t8, hv, r9]; simp only [if_true]; grind
    simpa using this
   have e : Ieee.double.word true r = 9223372036854775808 + r := by simp [Ieee.Format.word, h1]
   rw [g]
   have b1 : (true == false) = false := rfl
   rw [b1, e]
   simp only [Bool.false_eq_true, if_false, if_true]
   have w : (IntKind.wrap .u64 (((9223372036854775808 + r : Nat) : Int) - 1)).toNat = 9223372036854775808 + (r - 1) := by rw [a1r (by omega) (by omega)]; omega
   rw [w, if_neg hr]
   have e2 : 9223372036854775808 + (r - 1) = Ieee.double.word true (r - 1) := by simp [Ieee.Format.word, h1]
   rw [e2, u7 (r6 true _ (by omega))]
   refine ⟨m8 _ _ (by omega), ?_⟩
   rw [k6 _ _ (by omega)]
   simp
structure Rnd (w : Nat) (v : Rat) : Prop where
 fin : fin w
 err : rabs (val w - v) <= rabs v * pw (-53) + pw (-1075)
 dn : Go.Ab.fin (down w) /\ val (down w) <= v
 up : Go.Ab.fin (up w) /\ v <= val (up w)
 exact : ∀ (k : Int) (e : Int), k.natAbs < 9007199254740992 -> -1074 <= e -> v = (k : Rat) * pw e -> val w = v
 le : ∀ r1, rabs v <= rv r1 -> rabs (val w) <= rv r1
 wd : ∃ s r, r < 9214364837600034816 /\ w = Ieee.double.word s r
theorem b41 (s : Bool) (m : Nat) (i : Int) (h : (m : Rat) * pw i <= big) : Rnd (cf (Ieee.double.write (.number s m i))) ((if s then -(m : Rat) else m) * pw i) := by
 obtain ⟨r, e, hn⟩ := b5Q s m i h
 have hl := hn.lt
 have hl2 : r < 9218868437227405312 := by omega
 have e1 : cf (Ieee.double.write (.number s m i)) = Ieee.double.word s r := by
  show cf (Ieee.double.nearest s m i) = _
  rw [e, u7 (r6 s r hl2)]
 rw [e1]
 have hd := b6j s r hl
 have hu := c1B s r hl
 have hv := k6 s r hl2
 have herr := hn.err
 have hlo := hn.lo
 have hhi := hn.hi
 have hex := hn.exact
 have hv0 : 0 <= (m : Rat) * pw i := Rat.mul_nonneg Rat.natCast_nonneg (d2q (q8 i))
 generalize hx : (m : Rat) * pw i = x at herr hlo hhi hex hv0
 have hsv : (if s then -(m : Rat) else m) * pw i = if s then -x else x := by
  rw [<- hx]; split <;> grind
 rw [hsv]
 have r1 : 0 < rv 1 := by have := Y5 (show 0 < 1 by omega); rwa [u5] at this
 refine ⟨m8 s r hl2, ?_, ⟨hd.1, ?_⟩, ⟨hu.1, ?_⟩, ?_, ?_, ⟨s, r, hl, rfl⟩⟩
 ·rw [hv]
  have e3 : rabs (if s then -x else x) = x := by split; (rw [K3]; exact j3 hv0); exact j3 hv0
  rw [e3]
  cases s
  ·exact herr
  ·have : (if true = true then -rv r else rv r) - (if true = true then -x else x) = -(rv r - x) := by simp only [if_true]; grind
   rw [this, K3]; exact herr
 ·rw [hd.2]
  cases s
  ·simp only [Bool.false_eq_true, if_false]
   split
   ·grind
   ·rcases hlo with h | h
    ·exact absurd h ‹_›
    ·exact h
  ·simp only [if_true]; grind
 ·rw [hu.2]
  cases s
  ·simp only [Bool.false_eq_true, if_false]; exact hhi
  ·simp only [if_true]
   split
   ·grind
   ·rcases hlo with h | h
    ·exact absurd h ‹_›
    ·grind
 ·intro k e hk he hkv
  rw [hv]
  have hkn : ((k.natAbs : Nat) : Rat) * pw e = x := by
   have hp := q8 e
   have : ((k.natAbs : Nat) : Rat) = if k < 0 then -(k : Rat) else k := by
    rw [<- Rat.intCast_natCast]
    split
    ·rw [<- Rat.intCast_neg]; exact congrArg (λz : Int => (z : Rat)) (by omega)
    ·exact congrArg (λz : Int => (z : Rat)) (by omega)
   rw [this]
   by_cases hk0 : k < 0
   ·have h1 : (k : Rat) < 0 := by exact_mod_cast Rat.intCast_lt_intCast.2 hk0
    have h2 := Rat.mul_pos (show 0 < -(k : Rat) by grind) hp
    rw [if_pos hk0]; split at hkv <;> grind
   ·have h1 : 0 <= (k : Rat) := by exact_mod_cast Rat.intCast_le_intCast.2 (show 0 <= k by omega)
    have h2 := Rat.mul_nonneg h1 (d2q hp)
    rw [if_neg hk0]; split at hkv <;> grind
  rw [hex k.natAbs e hk he hkn.symm]
 ·intro r1 h1
  have e3 : rabs (if s then -x else x) = x := by split; (rw [K3]; exact j3 hv0); exact j3 hv0
  have e4 : rabs (if s then -rv r else rv r) = rv r := by split; (rw [K3]; exact j3 (s6 r)); exact j3 (s6 r)
  rw [e3] at h1
  rw [hv, e4]
  exact hn.le (by rw [hx]; exact h1)
theorem Rnd.cast {w : Nat} {u v : Rat} (h : Rnd w u) (e : u = v) : Rnd w v := e ▸ h
theorem a9H (s : Bool) (m : Nat) (i : Int) : rabs ((if s then -(m : Rat) else m) * pw i) = (m : Rat) * pw i := by
 have h : 0 <= (m : Rat) * pw i := Rat.mul_nonneg Rat.natCast_nonneg (d2q (q8 i))
 cases s
 ·exact j3 h
 ·have : (if true = true then -(m : Rat) else m) * pw i = -((m : Rat) * pw i) := by simp only [if_true]; grind
  rw [this, K3]; exact j3 h
theorem a6P {s : Bool} {m : Nat} {i : Int} {v : Rat} (e : (if s then -(m : Rat) else m) * pw i = v) (h : rabs v <= big) : Rnd (cf (Ieee.double.write (.number s m i))) v := by
 have := a9H s m i
 rw [e] at this
 exact (b41 s m i (by rw [<- this]; exact h)).cast e
theorem c1R (s t : Bool) (m n : Nat) (i j : Int) {u v : Rat} (hu : u = (if s then -(m : Rat) else m) * pw i) (hv : v = (if t then -(n : Rat) else n) * pw j) (h : rabs (u + v) <= big) :
  ∃ d, Ieee.Datum.sum (.number s m i) (.number t n j) = some d /\ Rnd (cf (Ieee.double.write d)) (u + v) := by
 simp only [Ieee.Datum.sum]
 refine ⟨_, rfl, a6P ?_ h⟩
 rw [hu, hv, <- H8 s m i (min i j) (by omega), <- H8 t n j (min i j) (by omega)]
 generalize Ieee.signed s m (i - min i j).toNat = a
 generalize Ieee.signed t n (j - min i j).toNat = b
 have e : (a : Rat) * pw (min i j) + (b : Rat) * pw (min i j) = ((a + b : Int) : Rat) * pw (min i j) := by rw [Rat.intCast_add]; grind
 rw [e]
 refine congrArg (λz : Rat => z * pw (min i j)) ?_
 by_cases h0 : a + b = 0
 ·rw [h0]; simp
 ·rw [if_neg h0]
  by_cases h1 : a + b < 0
  ·rw [if_pos (by simpa using h1), <- Rat.intCast_natCast, <- Rat.intCast_neg]; exact congrArg (λz : Int => (z : Rat)) (by omega)
  ·rw [if_neg (by simpa using h1), <- Rat.intCast_natCast]; exact congrArg (λz : Int => (z : Rat)) (by omega)
theorem a2z {x y : Nat} (hx : fin x) (hy : fin y) (h : rabs (val x + val y) <= big) : Rnd (fop .add x y) (val x + val y) := by
 obtain ⟨s, m, i, hx⟩ := hx
 obtain ⟨t, n, j, hy⟩ := hy
 obtain ⟨d, h1, h2⟩ := c1R s t m n i j (B3 hx) (B3 hy) h
 have : fop .add x y = cf (Ieee.double.write d) := by simp [fop, Ieee.Format.add, hx, hy, h1]
 rw [this]; exact h2
theorem b7W {x y : Nat} (hx : fin x) (hy : fin y) (h : rabs (val x - val y) <= big) : Rnd (fop .sub x y) (val x - val y) := by
 obtain ⟨s, m, i, hx⟩ := hx
 obtain ⟨t, n, j, hy⟩ := hy
 have e : -val y = (if (!t) = true then -(n : Rat) else n) * pw j := by
  rw [B3 hy]; cases t <;> simp <;> grind
 have e2 : val x - val y = val x + -val y := by grind
 rw [e2] at h ⊢
 obtain ⟨d, h1, h2⟩ := c1R s (!t) m n i j (B3 hx) e h
 have : fop .sub x y = cf (Ieee.double.write d) := by simp [fop, Ieee.Format.sub, hx, hy, Ieee.Datum.opposite, h1]
 rw [this]; exact h2
theorem b0g {x y : Nat} (hx : fin x) (hy : fin y) (h : rabs (val x * val y) <= big) : Rnd (fop .mul x y) (val x * val y) := by
 obtain ⟨s, m, i, hx⟩ := hx
 obtain ⟨t, n, j, hy⟩ := hy
 have : fop .mul x y = cf (Ieee.double.write (.number (s ^^ t) (m * n) (i + j))) := by simp [fop, Ieee.Format.mul, hx, hy, Ieee.Datum.product]
 rw [this]
 refine a6P ?_ h
 rw [B3 hx, B3 hy, a2q, Rat.natCast_mul]
 cases s <;> cases t <;> simp <;> grind
end Go.Ab
namespace Go.Ab
open Go
theorem c2v (m n : Nat) (i j : Int) (hn : n ≠ 0) (q : Rat) (hq : q * ((n : Rat) * pw j) = (m : Rat) * pw i) (more : Nat) (hmore : more = 54 + n.log2 - m.log2) :
  0 <= q /\ rabs (((2 * ((m <<< more) / n) + ((m <<< more) % n != 0).toNat : Nat) : Rat) * pw (i - j - more - 1) - q) <= q * pw (-54) /\
  (∀ (k : Nat) (e : Int), k < 9007199254740992 -> q = (k : Rat) * pw e -> ((2 * ((m <<< more) / n) + ((m <<< more) % n != 0).toNat : Nat) : Rat) * pw (i - j - more - 1) = q) /\
  (q <= 1 -> ((2 * ((m <<< more) / n) + ((m <<< more) % n != 0).toNat : Nat) : Rat) * pw (i - j - more - 1) <= 1) := by
 have hn0 : (0 : Rat) < (n : Rat) := by exact_mod_cast Rat.natCast_pos.2 (by omega)
 have hpj := q8 j
 have hnj : 0 < (n : Rat) * pw j := Rat.mul_pos hn0 hpj
 by_cases h0 : m = 0
 ·subst h0
  have hq0 : q = 0 := by
   have : q * ((n : Rat) * pw j) = 0 := by rw [hq]; simp
   rcases Rat.mul_eq_zero.1 this with h | h
   ·exact h
   ·grind
  subst hq0
  refine ⟨Rat.le_refl, ?_, λ_ _ _ _ => by simp, λ_ => by simp; decide⟩
  simp
  unfold rabs
  grind
 have hD : m <<< more = m * 2 ^ more := Nat.shiftLeft_eq _ _
 have hU : pw i = ((2 ^ more : Nat) : Rat) * pw (i - more) := by
  have h7 : i = (i - more) + (more : Nat) := by omega
  exact (congrArg pw h7).trans (Q0 _ _)
 have hUj : pw (i - more) = pw (i - j - more) * pw j := by rw [<- a2q]; exact congrArg pw (by omega)
 have hUp := q8 (i - j - more)
 have hhalf := a2p (i - j - more)
 -- q by units
 have hqD : q * n = ((m <<< more : Nat) : Rat) * pw (i - j - more) := by
  have h1 : q * n * pw j = ((m <<< more : Nat) : Rat) * pw (i - j - more) * pw j := by
   rw [hD, Rat.natCast_mul]
   have : q * n * pw j = q * (n * pw j) := by grind
   rw [this, hq, hU, hUj]; grind
  have h2 := Rat.mul_eq_zero.1 (show (q * n - ((m <<< more : Nat) : Rat) * pw (i - j - more)) * pw j = 0 by grind)
  rcases h2 with h | h
  ·grind
  ·grind
 have hbig : 9007199254740992 * n < m <<< more := by
  rw [hD]
  have hl1 : 2 ^ m.log2 <= m := Nat.log2_self_le h0
  have hl2 : n < 2 ^ (n.log2 + 1) := Nat.lt_log2_self
  have h1 : 2 ^ (m.log2 + more) <= m * 2 ^ more := by rw [Nat.pow_add]; exact Nat.mul_le_mul_right _ hl1
  have h2 : 2 ^ (53 + (n.log2 + 1)) <= 2 ^ (m.log2 + more) := d2v (by decide) (by omega)
  have h3 : 2 ^ (53 + (n.log2 + 1)) = 9007199254740992 * 2 ^ (n.log2 + 1) := by rw [Nat.pow_add]
  omega
 generalize hDD : m <<< more = D at hqD hbig ⊢
 have hdm := Nat.div_add_mod D n
 have hml := Nat.mod_lt D (show 0 < n by omega)
 generalize hQ : D / n = Q at hdm ⊢
 generalize hR : D % n = R at hdm hml ⊢
 generalize hUe : pw (i - j - more) = U at hqD hUp hhalf
 have hQb : 9007199254740992 <= Q := by
  rw [<- hQ, Nat.le_div_iff_mul_le (by omega)]; omega
 have hDr : (D : Rat) = (n : Rat) * Q + R := by rw [<- hdm, Rat.natCast_add, Rat.natCast_mul]
 have hQr : (9007199254740992 : Rat) <= (Q : Rat) := by exact_mod_cast d2u.2 hQb
 have hR0 : (0 : Rat) <= (R : Rat) := Rat.natCast_nonneg
 have hRn : (R : Rat) < (n : Rat) := by exact_mod_cast Rat.natCast_lt_natCast.2 hml
 -- Q units are no more than q, Q + 1 units more
 have hlo : (Q : Rat) * U <= q := by
  refine Rat.le_of_mul_le_mul_right ?_ hn0
  rw [hqD, hDr]
  have := Rat.mul_nonneg hR0 (d2q hUp)
  grind
 have hhi : q < ((Q : Rat) + 1) * U := by
  refine d2s ?_ (d2q hn0)
  rw [hqD, hDr]
  have := Rat.mul_lt_mul_of_pos_right hRn hUp
  grind
 have hq0 : 0 <= q := by
  have := Rat.mul_nonneg (show 0 <= (Q : Rat) from Rat.natCast_nonneg) (d2q hUp)
  grind
 have hUq : U <= 2 * (q * pw (-54)) := by
  have h1 := d2p hQr (d2q hUp)
  have h2 : (9007199254740992 : Rat) * U <= q := by grind
  have h3 := d2p h2 (d2q (q8 (-54)))
  have h4 := pw53 (-54)
  rw [show (-54 : Int) + 53 = -1 from rfl] at h4
  have h5 := a2p 0
  rw [D4, show (0 : Int) - 1 = -1 from rfl] at h5
  have h6 : (9007199254740992 : Rat) * pw (-54) * U = 1 / 2 * U := by rw [<- h4]; grind
  grind
 by_cases hr : R = 0
 ·subst hr
  have e : ((0 : Nat) != 0).toNat = 0 := rfl
  rw [e, Nat.add_zero]
  have hqe : q = (Q : Rat) * U := by
   have h1 : (q - Q * U) * n = 0 := by
    have : q * n = ((n : Rat) * Q + (0 : Nat)) * U := by rw [hqD, hDr]
    have z : ((0 : Nat) : Rat) = 0 := rfl
    rw [z] at this
    grind
   rcases Rat.mul_eq_zero.1 h1 with h | h <;> grind
  have he : ((2 * Q : Nat) : Rat) * pw (i - j - more - 1) = q := by
   rw [Rat.natCast_mul, hqe]
   have : ((2 : Nat) : Rat) = 2 := rfl
   rw [this]; grind
  rw [he]
  refine ⟨hq0, ?_, λ_ _ _ _ => rfl, λh => h⟩
  have h0 : q - q = 0 := by grind
  rw [h0]
  have := Rat.mul_nonneg hq0 (d2q (q8 (-54)))
  unfold rabs; simpa using this
 ·have e : (R != 0).toNat = 1 := by simp [hr]
  rw [e]
  have he : ((2 * Q + 1 : Nat) : Rat) * pw (i - j - more - 1) = ((Q : Rat) + 1 / 2) * U := by
   rw [Rat.natCast_add, Rat.natCast_mul]
   have h2 : ((2 : Nat) : Rat) = 2 := rfl
   have h1 : ((1 : Nat) : Rat) = 1 := rfl
   rw [h1, h2]; grind
  rw [he]
  have hRpos : (0 : Rat) < (R : Rat) := by exact_mod_cast Rat.natCast_pos.2 (by omega)
  have hlo2 : (Q : Rat) * U < q := by
   refine d2s ?_ (d2q hn0)
   rw [hqD, hDr]
   have := Rat.mul_pos hRpos hUp
   grind
  refine ⟨hq0, r7 (by grind) (by grind), λk e' hk hke => ?_, λh1 => ?_⟩
  rotate_left
  ·have hle : i - j - more <= 0 := by
    refine b5F ?_
    rw [hUe, D4]
    have h2 := d2p hQr (d2q hUp)
    grind
   have h7 : (0 : Int) = (i - j - more) + ((-(i - j - more)).toNat : Nat) := by omega
   have h8 := (congrArg pw h7).trans (Q0 _ _)
   rw [D4, hUe] at h8
   generalize 2 ^ (-(i - j - (more : Int))).toNat = g at h8
   have h9 : (Q : Rat) * U < (g : Rat) * U := by grind
   have h10 := Rat.natCast_lt_natCast.1 (d2s h9 (d2q hUp))
   have h11 : ((Q + 1 : Nat) : Rat) <= (g : Rat) := d2u.2 h10
   rw [Rat.natCast_add] at h11
   have h12 : ((1 : Nat) : Rat) = 1 := rfl
   have h13 := d2p h11 (d2q hUp)
   grind
  -- q cannot be so short a number
  exfalso
  have hkr : (k : Rat) < 9007199254740992 := by exact_mod_cast Rat.natCast_lt_natCast.2 hk
  have hlt : i - j - more < e' := by
   refine b5E ?_
   rw [hUe]
   have h1 : (9007199254740992 : Rat) * U < 9007199254740992 * pw e' := by
    have h2 := d2p hQr (d2q hUp)
    have h3 := Rat.mul_lt_mul_of_pos_right hkr (q8 e')
    grind
   grind
  obtain ⟨d, rfl⟩ : ∃ d : Nat, e' = (i - j - more) + d := ⟨(e' - (i - j - more)).toNat, by omega⟩
  rw [Q0, hUe] at hke
  have hke2 : q = ((k * 2 ^ d : Nat) : Rat) * U := by rw [Rat.natCast_mul, hke]; grind
  rw [hke2] at hlo2 hhi
  have h3 := d2s hlo2 (d2q hUp)
  have h4 := d2s hhi (d2q hUp)
  have h5 := Rat.natCast_lt_natCast.1 h3
  have h6 : ((k * 2 ^ d : Nat) : Rat) < ((Q + 1 : Nat) : Rat) := by rw [Rat.natCast_add]; exact h4
  have h7 := Rat.natCast_lt_natCast.1 h6
  omega
structure Quo (w : Nat) (q : Rat) : Prop where
 fin : Go.Ab.fin w
 err : rabs (val w - q) <= rabs q * pw (-52) + pw (-1075)
 exact : ∀ (k : Int) (e : Int), k.natAbs < 9007199254740992 -> -1074 <= e -> q = (k : Rat) * pw e -> val w = q
 one : rabs q <= 1 -> rabs (val w) <= 1
theorem b87 {q : Rat} (h : rabs q <= big) : rabs q * pw (-54) <= rabs q := by
 have h1 := G8 (show (-54 : Int) <= 0 by decide)
 rw [D4] at h1
 have := d2w h1 (r8 q)
 grind
theorem c3W {x y : Nat} (hx : fin x) (hy : fin y) (h0 : val y ≠ 0) {q : Rat} (hq : q * val y = val x) (h : rabs q + rabs q <= big) : Quo (fop .div x y) q := by
 obtain ⟨s, m, i, hx⟩ := hx
 obtain ⟨t, n, j, hy⟩ := hy
 have vx := B3 hx
 have vy := B3 hy
 have ax : rabs (val x) = (m : Rat) * pw i := by rw [vx]; exact a9H s m i
 have ay : rabs (val y) = (n : Rat) * pw j := by rw [vy]; exact a9H t n j
 have hn : n ≠ 0 := by
  rintro rfl
  have : ((0 : Nat) : Rat) = 0 := rfl
  rw [this] at vy
  apply h0; rw [vy]; split <;> grind
 have haq : rabs q * ((n : Rat) * pw j) = (m : Rat) * pw i := by rw [<- ay, <- ax, <- U8, hq]
 obtain ⟨p1, p2, p3, p4⟩ := c2v m n i j hn (rabs q) haq (54 + n.log2 - m.log2) rfl
 have e : fop .div x y = cf (Ieee.double.write (.number (s ^^ t) (2 * ((m <<< (54 + n.log2 - m.log2)) / n) + ((m <<< (54 + n.log2 - m.log2)) % n != 0).toNat) (i - j - (54 + n.log2 - m.log2 : Nat) - 1))) := by
  have q1 : Ieee.double.fractionBits = 52 := rfl
  simp [fop, Ieee.Format.div, hx, hy, Ieee.Datum.quotient, hn, q1]
 generalize 54 + n.log2 - m.log2 = more at p2 p3 p4 e
 generalize 2 * ((m <<< more) / n) + ((m <<< more) % n != 0).toNat = d at p2 p3 p4 e
 generalize i - j - (more : Int) - 1 = c at p2 p3 p4 e
 -- the sign
 have hsg : q = if (s ^^ t) = true then -rabs q else rabs q := by
  have hm0 : 0 <= (m : Rat) * pw i := by rw [<- ax]; exact r8 _
  have hn0 : 0 < (n : Rat) * pw j := Rat.mul_pos (by exact_mod_cast Rat.natCast_pos.2 (by omega)) (q8 j)
  have vx' : val x = if s then -((m : Rat) * pw i) else (m : Rat) * pw i := by rw [vx]; split <;> grind
  have vy' : val y = if t then -((n : Rat) * pw j) else (n : Rat) * pw j := by rw [vy]; split <;> grind
  rw [vx', vy'] at hq
  generalize (m : Rat) * pw i = M at hq hm0
  generalize (n : Rat) * pw j = Nn at hq hn0
  have pos : ∀ z : Rat, 0 <= z * Nn -> 0 <= z := λz hz => by
   by_cases h : 0 <= z
   ·exact h
   ·have := Rat.mul_pos (show 0 < -z by grind) hn0; grind
  cases s <;> cases t <;> simp at hq ⊢
  ·exact (j3 (pos q (by rw [hq]; exact hm0))).symm
  ·have := j3 (pos (-q) (by grind)); rw [K3] at this; grind
  ·have := j3 (pos (-q) (by grind)); rw [K3] at this; grind
  ·exact (j3 (pos q (by grind))).symm
 have hdb : (d : Rat) * pw c <= 2 * rabs q := by
  have := x6 ((d : Rat) * pw c - rabs q)
  have := b87 (q := q) (by have := r8 q; grind)
  grind
 have hw := b41 (s ^^ t) d c (by grind)
 rw [<- e] at hw
 have hd0 : 0 <= (d : Rat) * pw c := Rat.mul_nonneg Rat.natCast_nonneg (d2q (q8 c))
 have hvd : (if (s ^^ t) = true then -(d : Rat) else d) * pw c = if (s ^^ t) = true then -((d : Rat) * pw c) else (d : Rat) * pw c := by split <;> grind
 rw [hvd] at hw
 have har : rabs (if (s ^^ t) = true then -((d : Rat) * pw c) else (d : Rat) * pw c) = (d : Rat) * pw c := by
  split
  ·rw [K3]; exact j3 hd0
  ·exact j3 hd0
 generalize (d : Rat) * pw c = z at hw hd0 har p2 p3 p4 hdb
 refine ⟨hw.fin, ?_, λk e' hk he hke => ?_, λh1 => ?_⟩
 rotate_left 2
 ·have e1 : rv 4607182418800017408 = 1 := by
   have := N4 1022 4503599627370496 (by decide) (by decide)
   rw [show 1022 * 4503599627370496 + 4503599627370496 = 4607182418800017408 from rfl] at this
   rw [this]
   have h3 := Q0 (-1074 + (1022 : Nat)) 52
   have h4 : (-1074 : Int) + ((1022 : Nat) : Int) + ((52 : Nat) : Int) = 0 := by decide
   rw [h4, D4] at h3
   exact h3.symm
  have := hw.le 4607182418800017408 (by rw [har, e1]; exact p4 h1)
  rwa [e1] at this
 ·have herr := hw.err
  rw [har] at herr
  have h1 : rabs ((if (s ^^ t) = true then -z else z) - q) <= rabs q * pw (-54) := by
   cases hst : (s ^^ t)
   ·rw [hst] at hsg; simp at hsg ⊢; rw [hsg, j3 (r8 q)]; exact p2
   ·rw [hst] at hsg; simp at hsg ⊢
    have e1 : -z - q = -(z - rabs q) := by grind
    rw [e1, K3]; exact p2
  have h2 := b8F (val (fop .div x y) - (if (s ^^ t) = true then -z else z)) ((if (s ^^ t) = true then -z else z) - q)
  have e2 : val (fop .div x y) - (if (s ^^ t) = true then -z else z) + ((if (s ^^ t) = true then -z else z) - q) = val (fop .div x y) - q := by grind
  rw [e2] at h2
  have h3 : z * pw (-53) <= rabs q * pw (-53) + rabs q * pw (-54) := by
   have h4 : z <= rabs q + rabs q * pw (-54) := by have := x6 (z - rabs q); grind
   have h5 := d2p h4 (d2q (q8 (-53)))
   have h6 := b87 (q := q) (by have := r8 q; grind)
   have h7 : pw (-53) <= 1 := by rw [<- D4]; exact G8 (by decide)
   have h8 : 0 <= rabs q * pw (-54) := Rat.mul_nonneg (r8 q) (d2q (q8 _))
   have h9 := d2w h7 h8
   grind
  have h10 := a2p (-52)
  have h11 := a2p (-53)
  rw [show (-52 : Int) - 1 = -53 from rfl] at h10
  rw [show (-53 : Int) - 1 = -54 from rfl] at h11
  have h12 : rabs q * pw (-52) = 2 * (rabs q * pw (-53)) := by rw [<- h10]; grind
  have h13 : rabs q * pw (-53) = 2 * (rabs q * pw (-54)) := by rw [<- h11]; grind
  grind
 ·have hk2 : rabs q = ((k.natAbs : Nat) : Rat) * pw e' := by
   rw [hke, U8, j3 (d2q (q8 e'))]
   refine congrArg (λz : Rat => z * pw e') ?_
   by_cases hk0 : k < 0
   ·have h1 : (k : Rat) < 0 := by exact_mod_cast Rat.intCast_lt_intCast.2 hk0
    unfold rabs
    rw [if_pos h1, <- Rat.intCast_natCast, <- Rat.intCast_neg]; exact congrArg (λz : Int => (z : Rat)) (by omega)
   ·have h1 : ¬ (k : Rat) < 0 := by
     have : 0 <= (k : Rat) := by exact_mod_cast Rat.intCast_le_intCast.2 (show 0 <= k by omega)
     grind
    unfold rabs
    rw [if_neg h1, <- Rat.intCast_natCast]; exact congrArg (λz : Int => (z : Rat)) (by omega)
  have hz := p3 k.natAbs e' hk hk2
  rw [hz, <- hsg] at hw
  exact hw.exact k e' hk he hke
structure Ix (e : Int) (x : Nat) (k : Int) : Prop where
 fin : Go.Ab.fin x
 val : Go.Ab.val x = (k : Rat) * pw e
theorem b3E (k : Int) : rabs (k : Rat) = ((k.natAbs : Nat) : Rat) := by
 by_cases hk0 : k < 0
 ·have h1 : (k : Rat) < 0 := by exact_mod_cast Rat.intCast_lt_intCast.2 hk0
  unfold rabs
  rw [if_pos h1, <- Rat.intCast_natCast, <- Rat.intCast_neg]; exact congrArg (λz : Int => (z : Rat)) (by omega)
 ·have h1 : ¬ (k : Rat) < 0 := by
   have : 0 <= (k : Rat) := by exact_mod_cast Rat.intCast_le_intCast.2 (show 0 <= k by omega)
   grind
  unfold rabs
  rw [if_neg h1, <- Rat.intCast_natCast]; exact congrArg (λz : Int => (z : Rat)) (by omega)
theorem b5Y {k e : Int} (hk : k.natAbs < 9007199254740992) (he : e <= 900) : rabs ((k : Rat) * pw e) + rabs ((k : Rat) * pw e) <= big := by
 rw [U8, j3 (d2q (q8 e)), b3E]
 have h1 : ((k.natAbs : Nat) : Rat) <= 9007199254740992 := by exact_mod_cast d2u.2 (Nat.le_of_lt hk)
 have h2 := d2p h1 (d2q (q8 e))
 rw [<- pw53] at h2
 have h3 := G8 (show e + 53 + 1 <= bigE by rw [b8d]; omega)
 rw [N6] at h3
 unfold big
 grind
theorem Ix.add {e : Int} {x y : Nat} {a b : Int} (hx : Ix e x a) (hy : Ix e y b) (h : (a + b).natAbs < 9007199254740992) (h1 : -1074 <= e) (h2 : e <= 900) : Ix e (fop .add x y) (a + b) := by
 have ev : Go.Ab.val x + Go.Ab.val y = ((a + b : Int) : Rat) * pw e := by rw [hx.val, hy.val, Rat.intCast_add]; grind
 have hb := b5Y (e := e) h h2
 have := r8 (((a + b : Int) : Rat) * pw e)
 have r := a2z hx.fin hy.fin (by rw [ev]; grind)
 exact ⟨r.fin, (r.exact _ e h h1 ev).trans ev⟩
theorem Ix.sub {e : Int} {x y : Nat} {a b : Int} (hx : Ix e x a) (hy : Ix e y b) (h : (a - b).natAbs < 9007199254740992) (h1 : -1074 <= e) (h2 : e <= 900) : Ix e (fop .sub x y) (a - b) := by
 have ev : Go.Ab.val x - Go.Ab.val y = ((a - b : Int) : Rat) * pw e := by rw [hx.val, hy.val, Rat.intCast_sub]; grind
 have hb := b5Y (e := e) h h2
 have := r8 (((a - b : Int) : Rat) * pw e)
 have r := b7W hx.fin hy.fin (by rw [ev]; grind)
 exact ⟨r.fin, (r.exact _ e h h1 ev).trans ev⟩
theorem Ix.div {e f g : Int} {x y : Nat} {a b c : Int} (hx : Ix e x a) (hy : Ix f y b) (hb0 : b ≠ 0) (he : e = g + f) (hc : a = c * b) (h : c.natAbs < 9007199254740992) (h1 : -1074 <= g) (h2 : g <= 900) : Ix g (fop .div x y) c := by
 have hp := q8 f
 have hy0 : Go.Ab.val y ≠ 0 := by
  rw [hy.val]
  intro h0
  rcases Rat.mul_eq_zero.1 h0 with h0 | h0
  ·exact hb0 (Rat.intCast_eq_zero_iff.1 h0)
  ·grind
 have ev : ((c : Rat) * pw g) * Go.Ab.val y = Go.Ab.val x := by rw [hx.val, hy.val, hc, he, a2q, Rat.intCast_mul]; grind
 have r := c3W hx.fin hy.fin hy0 ev (b5Y h h2)
 exact ⟨r.fin, r.exact _ g h h1 rfl⟩
theorem Ix.ofInt (n : Int) (h : n.natAbs < 9007199254740992) : Ix 0 (FloatKind.nearest .f64 n) n := by
 have e : (if decide (n < 0) = true then -((n.natAbs : Nat) : Rat) else ((n.natAbs : Nat) : Rat)) = (n : Rat) := by
  by_cases h0 : n < 0
  ·rw [if_pos (by simpa using h0), <- Rat.intCast_natCast, <- Rat.intCast_neg]; exact congrArg (λz : Int => (z : Rat)) (by omega)
  ·rw [if_neg (by simpa using h0), <- Rat.intCast_natCast]; exact congrArg (λz : Int => (z : Rat)) (by omega)
 have r := a6P (s := decide (n < 0)) (m := n.natAbs) (i := 0) (v := (n : Rat) * pw 0) (by rw [e]) (by
  have := b5Y (e := 0) h (by decide)
  have := r8 ((n : Rat) * pw 0)
  grind)
 have hnn : j7 (FloatKind.nearest .f64 n) = false := by
  obtain ⟨r, e, hn⟩ := b5Q (decide (n < 0)) n.natAbs 0 (by
   have h1 := b5Y (e := 0) h (by decide)
   have h2 := r8 ((n : Rat) * pw 0)
   rw [U8, j3 (d2q (q8 0)), b3E] at h1 h2
   grind)
  show j7 (Ieee.double.nearest (decide (n < 0)) n.natAbs 0) = false
  rw [e]; exact r6 _ _ (by have := hn.lt; omega)
 have e2 : cf (Ieee.double.write (.number (decide (n < 0)) n.natAbs 0)) = FloatKind.nearest .f64 n := u7 hnn
 rw [e2] at r
 exact ⟨r.fin, r.exact n 0 h (by decide) rfl⟩
theorem c6r {x : Nat} (h : fin x) : L5 x < 9218868437227405312 /\ ∃ s : Bool, val x = if s then -rv (L5 x) else rv (L5 x) := by
 have h1 : Ieee.double.signWeight = 9223372036854775808 := rfl
 have h2 : Ieee.double.binade = 4503599627370496 := rfl
 have h3 : Ieee.double.infRung = 9218868437227405312 := rfl
 have h4 : Ieee.double.leastPlace = -1074 := rfl
 obtain ⟨s, m, i, h⟩ := h
 have hv := B3 h
 unfold L5
 unfold Ieee.Format.read at h
 simp only [h1, h2, h3, h4] at h
 have hr : x % 9223372036854775808 < 9218868437227405312 := by
  split at h
  ·omega
  ·split at h
   ·assumption
   ·split at h <;> cases h
 refine ⟨hr, s, ?_⟩
 rw [hv]
 unfold rv
 split at h
 ·rename_i e
  rw [if_pos e]
  cases h
  split <;> grind
 ·rename_i e
  rw [if_neg e]
  cases h
  split <;> grind
theorem b3n {x : Nat} (h : fin x) : fin (fabs x) /\ val (fabs x) = rabs (val x) := by
 obtain ⟨hr, s, hv⟩ := c6r h
 have e : L5 x = Ieee.double.word false (L5 x) := by simp [Ieee.Format.word]
 unfold fabs
 rw [e, u7 (r6 false _ hr)]
 refine ⟨m8 false _ hr, ?_⟩
 rw [k6 false _ hr, hv]
 have := s6 (L5 x)
 cases s
 ·simp; exact (j3 this).symm
 ·simp; rw [K3]; exact (j3 this).symm
end Go.Ab
namespace Go.Ab
open Go
theorem c9R : rv 1 = pw (-1074) := by
 unfold rv
 rw [if_pos (by decide)]
 have : ((1 : Nat) : Rat) = 1 := rfl
 rw [this]; grind
theorem Rnd.gap {w : Nat} {v : Rat} (h : Rnd w v) : val w - val (down w) <= rabs (val w) * pw (-52) + pw (-1074) /\ val (down w) <= val w /\ val (Ab.up w) - val w <= rabs (val w) * pw (-52) + pw (-1074) /\ val w <= val (Ab.up w) := by
 obtain ⟨s, r, hr, rfl⟩ := h.wd
 have hd := (b6j s r hr).2
 have hu := (c1B s r hr).2
 have hv := k6 s r (by omega)
 have hn := s6 r
 have g := c67 r
 have l := V5 r
 have hp := q8 (-1074)
 have hp2 := q8 (-52)
 have ha : rabs (val (Ieee.double.word s r)) = rv r := by
  rw [hv]; cases s
  ·exact j3 hn
  ·simp only [if_true]; rw [K3]; exact j3 hn
 have hz := Rat.mul_nonneg hn (d2q hp2)
 have low : r ≠ 0 -> rv r - rv (r - 1) <= rv r * pw (-52) + pw (-1074) /\ rv (r - 1) <= rv r := by
  intro h0
  have g1 := c67 (r - 1)
  have l1 := V5 (r - 1)
  rw [show r - 1 + 1 = r from by omega] at g1 l1
  have := d2p (d2q l1) (d2q hp2)
  constructor <;> grind
 have h0 : r = 0 -> rv r = 0 /\ rv 1 = pw (-1074) := λe => by rw [e]; exact ⟨u5, c9R⟩
 rw [hd, hu, ha, hv]
 cases s
 ·simp only [Bool.false_eq_true, if_false]
  by_cases e : r = 0
  ·rw [if_pos e]
   have := h0 e
   refine ⟨?_, ?_, ?_, ?_⟩ <;> grind
  ·rw [if_neg e]
   have := low e
   refine ⟨?_, ?_, ?_, ?_⟩ <;> grind
 ·simp only [if_true]
  by_cases e : r = 0
  ·rw [if_pos e]
   have := h0 e
   refine ⟨?_, ?_, ?_, ?_⟩ <;> grind
  ·rw [if_neg e]
   have := low e
   refine ⟨?_, ?_, ?_, ?_⟩ <;> grind
structure Abt (p : Nat × Nat) (v d : Rat) : Prop where
 f1 : fin p.1
 f2 : fin p.2
 lo : val p.1 <= v
 hi : v <= val p.2
 w1 : v - val p.1 <= d
 w2 : val p.2 - v <= d
def eps : Rat := pw (-36)
theorem a67 : 0 < eps := q8 _
theorem b5n {x : Rat} (h : rabs x <= 4096) : rabs x * pw (-53) + pw (-1075) <= pw (-40) /\ rabs x * pw (-52) + pw (-1074) <= pw (-39) := by
 have hx := r8 x
 have h12 : pw 12 = 4096 := by have := c2x 12; simpa using this
 rw [<- h12] at h
 have h1 := d2p h (d2q (q8 (-53)))
 have h2 := d2p h (d2q (q8 (-52)))
 rw [<- a2q, show (12 : Int) + -53 = -41 from rfl] at h1
 rw [<- a2q, show (12 : Int) + -52 = -40 from rfl] at h2
 have h3 := G8 (show (-1075 : Int) <= -41 by decide)
 have h4 := G8 (show (-1074 : Int) <= -40 by decide)
 have h5 := N6 (-41)
 have h6 := N6 (-40)
 rw [show (-41 : Int) + 1 = -40 from rfl] at h5
 rw [show (-40 : Int) + 1 = -39 from rfl] at h6
 constructor <;> grind
theorem c7u : eps = 8 * pw (-39) /\ eps = 16 * pw (-40) /\ pw (-39) <= 1 := by
 have h5 := N6 (-37)
 have h6 := N6 (-38)
 have h7 := N6 (-39)
 have h8 := N6 (-40)
 rw [show (-37 : Int) + 1 = -36 from rfl] at h5
 rw [show (-38 : Int) + 1 = -37 from rfl] at h6
 rw [show (-39 : Int) + 1 = -38 from rfl] at h7
 rw [show (-40 : Int) + 1 = -39 from rfl] at h8
 have h1 := G8 (show (-39 : Int) <= 0 by decide)
 rw [D4] at h1
 unfold eps
 refine ⟨?_, ?_, h1⟩ <;> grind
theorem A0 {x : Rat} (h : rabs x <= 4096) : rabs x <= big := by
 have h12 : pw 12 = 4096 := by have := c2x 12; simpa using this
 have := G8 (show (12 : Int) <= bigE by rw [b8d]; decide)
 unfold big; grind
theorem Rnd.small {w : Nat} {v : Rat} (h : Rnd w v) (hv : rabs v <= 4000) : rabs (val w - v) <= pw (-40) /\ v - val (down w) <= eps /\ val (down w) <= v /\ val (Ab.up w) - v <= eps /\ v <= val (Ab.up w) /\ val (down w) <= val w /\ val w <= val (Ab.up w) := by
 have h1 := b5n (x := v) (by grind)
 have h2 : rabs (val w - v) <= pw (-40) := Rat.le_trans h.err h1.1
 have h3 := x6 (val w - v)
 have h4 := c7u
 have h5 := q8 (-40)
 have h6 : rabs (val w) <= 4096 := by
  have h7 := b8F v (val w - v)
  rw [show v + (val w - v) = val w from by grind] at h7
  have h8 := N6 (-40)
  rw [show (-40 : Int) + 1 = -39 from rfl] at h8
  grind
 have h7 := b5n h6
 have h8 := h.gap
 have h9 := h.dn.2
 have h10 := h.up.2
 refine ⟨h2, ?_, h9, ?_, h10, h8.2.1, h8.2.2.2⟩ <;> grind
theorem a95 {lo hi : Nat} (h1 : fin lo) (h2 : fin hi) (h : val lo <= val hi) : F0 lo hi = (lo, hi) := by
 unfold F0
 rw [if_pos ((a2D h1 h2).2 h)]
theorem b0z {x : Nat} (h : fin x) : Abt (x, x) (val x) 0 := by
 refine ⟨h, h, Rat.le_refl, Rat.le_refl, ?_, ?_⟩ <;> grind
theorem c9d {p q : Nat × Nat} {u v d e : Rat} (hp : Abt p u d) (hq : Abt q v e) (hu : rabs u <= 1900) (hv : rabs v <= 1900) (hd : d <= 1) (he : e <= 1) : Abt (z4 p q) (u - v) (d + e + eps) := by
 obtain ⟨a1, a2, a3, a4, a5, a6⟩ := hp
 obtain ⟨b1, b2, b3, b4, b5, b6⟩ := hq
 have c1 := x6 u
 have c2 := x6 v
 have k1 : rabs (val p.1 - val q.2) <= 4000 := r7 (by grind) (by grind)
 have k2 : rabs (val p.2 - val q.1) <= 4000 := r7 (by grind) (by grind)
 have r1 := b7W a1 b2 (A0 (by grind))
 have r2 := b7W a2 b1 (A0 (by grind))
 have s1 := r1.small k1
 have s2 := r2.small k2
 unfold z4
 rw [a95 r1.dn.1 r2.up.1 (by grind)]
 refine ⟨r1.dn.1, r2.up.1, ?_, ?_, ?_, ?_⟩ <;> grind
end Go.Ab
namespace Go.Ab
open Go
def tabR (g : Nat -> Nat) (n : Nat) : List Nat := (List.range n).map g
def a42 (g : Nat -> Nat) (n i : Nat) : List Nat := (List.range n).map λr => if r < i then g r else 0
theorem k8 (g : Nat -> Nat) (n : Nat) : (tabR g n).length = n := by simp [tabR]
theorem a55 (g : Nat -> Nat) (n i : Nat) : (a42 g n i).length = n := by simp [a42]
theorem a5x (g : Nat -> Nat) (n i : Nat) (h : i < n) : (tabR g n).getD i 0 = g i := by simp [tabR, d2d, h]
theorem a3P (g : Nat -> Nat) (n : Nat) : a42 g n 0 = List.replicate n 0 := by
 refine List.ext_getElem? λj => ?_
 by_cases h : j < n <;> simp [a42, h]
theorem a56 (g : Nat -> Nat) (n : Nat) : a42 g n n = tabR g n := by
 refine List.map_congr_left λj hj => ?_
 rw [if_pos (by simpa using hj)]
theorem a54 (g : Nat -> Nat) (n i : Nat) (hi : i < n) : (a42 g n i).set i (g i) = a42 g n (i + 1) := by
 refine List.ext_getElem? λj => ?_
 simp only [a42, List.getElem?_set, List.length_map, List.length_range, List.getElem?_map]
 by_cases h1 : i = j
 ·subst h1; simp [hi]
 ·by_cases h2 : j < n
  ·have h3 : (List.range n)[j]? = some j := by simp [h2]
   rw [h3, if_neg h1]
   simp only [Option.map_some]
   by_cases h4 : j < i
   ·rw [if_pos h4, if_pos (by omega)]
   ·rw [if_neg h4, if_neg (by omega)]
  ·have h3 : (List.range n)[j]? = none := by simp; omega
   rw [h3, if_neg h1]; rfl
theorem J6 (g : Nat -> Nat) (n : Nat) : rowV (tabR g (n + 1)) = rowV (tabR g n) ++ [fl (g n)] := by simp [tabR, List.range_succ]
theorem b2k {g f : Nat -> Nat} {n : Nat} (h : ∀ i, i < n -> g i = f i) : tabR g n = tabR f n := List.map_congr_left λi hi => h i (by simpa using hi)
theorem LeT.move {N : Nat -> Prop} {nt : Nat} {sls : Sl} {L : Heap} {Y : Nat} {cells : List V} (X : Nat) (hYX : Y ≠ X) (hY : L.fam Y = none) (hX : L.fam X = none) (hN : ¬ N Y) :
  Le N (T.s nt ⟨sls, (Y, [cells]) :: L⟩) (T.s nt ⟨renS (absF Y X 0) sls, (X, [cells.map (V.ren (absF Y X 0))]) :: Heap.renH (absF Y X 0) L⟩) :=
 (LeT.empty (X := X) (L1 := [(Y, [cells])]) (L2 := L) (by simp [d6, hX, hYX.symm])).trans (LeT.absorb (fam := []) hYX hY hX hN)
theorem b0c (b : Nat) (L : Heap) (X r : Nat) : (L.old b).get X r = if X < b then L.get X r else none := by
 unfold Heap.get
 rw [b7A]
 split <;> rfl
theorem a6V {L : Heap} {X Z q : Nat} {xs : List Nat} {c : List V} (h : Heap.get [(X, [rowV xs])] Z q = some c) : Z = X /\ q = 0 /\ c = rowV xs := by
 rw [d8, g5] at h
 split at h
 ·rename_i e; subst e
  rcases q with _ | q <;> simp at h
  exact ⟨rfl, rfl, h.symm⟩
 ·cases h
theorem b6d {N : Nat -> Prop} {nt : Nat} {res : List (Nat × Option (Nat × Bool))} {X n : Nat} {xs : List Nat} {s : T} (hN : ∀ X, ¬ N X) (hr : ResV (s.s nt) res (.sl X 0 0 n 1 n)) (hL : s.L = [(X, [rowV xs])]) : M4 N nt res (.sl X 0 0 n 1 n) [(X, [rowV xs])] .ret s := by
 refine a3Q hN hr hL (.sl (by simp [d8]) rfl) (a60 λZ q cells hX v hv' => ?_)
 obtain ⟨_, _, rfl⟩ := a6V (L := []) hX
 exact a5N hv' _ _ _
theorem b2V {P : Program} {f : FuncId} {vs : List V} {X n : Nat} {xs : List Nat} (h : AC P f vs [] [(X, [rowV xs])] (.sl X 0 0 n 1 n)) (hn : xs.length = n) : Con P f vs (.d (rowD xs)) :=
 a00 h (.d (Z4 (λY q h => by simp [g5] at h) (by simp [d8]) hn rfl))
theorem a5v {P : Program} {f : FuncId} {vs : List V} {X n : Nat} {xs : List Nat} (h : AC P f vs [] [(X, [rowV xs])] (.sl X 0 0 n 1 n)) : AC P f vs [] [(0, [rowV xs])] (.sl 0 0 0 n 1 n) := by
 refine c61 h (Le.ren (sl := [.sl X 0 0 n 1 n]) (λ_ r => (0, r)) (λ_ r => (X, r)) ?_ ?_ (λ_ _ h => h.elim))
 ·intro Z r c h
  obtain ⟨rfl, rfl, rfl⟩ := a6V (L := []) h
  simp [d8, V.ren]
 ·intro Z r c h
  obtain ⟨rfl, rfl, rfl⟩ := a6V (L := []) h
  simp [d8]
end Go.Ab
namespace Go.Ab
open Go
def Kp (L : Heap) (v : V) : Prop := ∀ L0, LeV L0 L (λX q => (X, q)) v v
def KpA (L : Heap) (c : List V) : Prop := ∀ v ∈ c, Kp L v
def KpF (L : Heap) (f : List (List V)) : Prop := ∀ c ∈ f, KpA L c
def KpH (L : Heap) (H : Heap) : Prop := ∀ p ∈ H, KpF L p.2
def KpS (L : Heap) (s : Sl) : Prop := ∀ p ∈ s, Kp L p.2
section
variable {L : Heap}
theorem d1c : Kp L .any := λ_ => .any _
theorem b8n : Kp L .nil := λ_ => .nil
theorem Kp_d (x : D) : Kp L (.d x) := λ_ => .d (.d _)
theorem d1b (X r off ver : Nat) (h : L.get X r ≠ none) : Kp L (.ptr X r off ver) := λ_ => .ptr h rfl
theorem d13 (X r off n esz ver : Nat) (h : L.get X r ≠ none) : Kp L (.sl X r off n esz ver) := λ_ => .sl h rfl
theorem KpA.at {xs : List V} (h : KpA L xs) (L0 : Heap) (j : Nat) : LeV L0 L (λX q => (X, q)) (xs.getD j .any) (xs.getD j .any) := by
 by_cases hj : j < xs.length
 ·rw [d2d, d2f hj]; exact h _ (List.getElem_mem hj) L0
 ·rw [d2d, d2n (by omega)]; exact .any _
theorem d1d (xs : List V) (h : KpA L xs) : Kp L (.agg xs) := λ_ => .agg rfl λj _ => h.at _ j
theorem d1a (xs : List V) (h : KpA L xs) : Kp L (.tup xs) := λ_ => .tup rfl λj _ => h.at _ j
theorem d14 (g : FuncId) (a b : List V) (h : KpA L a) (h2 : KpA L b) : Kp L (.fn g a b) := λ_ => .fn rfl rfl (λj _ => h.at _ j) (λj _ => h2.at _ j)
theorem a0x : KpA L [] := λ_ h => by cases h
theorem G5 (v : V) (c : List V) : KpA L (v :: c) ↔ Kp L v /\ KpA L c := by simp [KpA]
theorem c9u (a b : List V) : KpA L (a ++ b) ↔ KpA L a /\ KpA L b := by
 simp only [KpA, List.mem_append]
 exact ⟨λh => ⟨λv hv => h v (.inl hv), λv hv => h v (.inr hv)⟩, λh v hv => hv.elim (h.1 v) (h.2 v)⟩
theorem b4H (xs : List Nat) : KpA L (rowV xs) := λv hv L0 => a5N hv _ _ _
theorem c4F (xs : List Int) : KpA L (k7 xs) := λv hv L0 => b5T hv _ _ _
theorem c9t (X o n len : Nat) (h : ∀ r, r < n -> L.get X (r + o) ≠ none) : KpA L (hdo X o n len) := λv hv L0 => by
 obtain ⟨j, hj, rfl⟩ := List.mem_map.1 hv
 exact .sl (h j (by simpa using hj)) rfl
theorem c9s : KpF L [] := λ_ h => by cases h
theorem c6T (c : List V) (f : List (List V)) : KpF L (c :: f) ↔ KpA L c /\ KpF L f := by simp [KpF]
theorem c6R (A : List (List Nat)) : KpF L (A.map rowV) := λc hc => by
 obtain ⟨x, _, rfl⟩ := List.mem_map.1 hc
 exact b4H x
theorem c9r : KpH L [] := λ_ h => by cases h
theorem c6Q (p : Nat × List (List V)) (H : Heap) : KpH L (p :: H) ↔ KpF L p.2 /\ KpH L H := by simp [KpH]
theorem c9q : KpS L [] := λ_ h => by cases h
theorem c6P (p : Nat × V) (s : Sl) : KpS L (p :: s) ↔ Kp L p.2 /\ KpS L s := by simp [KpS]
end
theorem V9 (k : Nat -> Bool) (L : Heap) (X : Nat) : Heap.fam (L.filter λp => k p.1) X = if k X = true then L.fam X else none := by
 induction L with
 | nil => simp [d9]
 | cons p L ih =>
  rw [List.filter_cons]
  by_cases hk : k p.1 = true
  ·rw [if_pos hk, d6, d6, ih]
   by_cases h : X = p.1
   ·subst h; simp [hk]
   ·simp [h]
  ·rw [if_neg hk, ih, d6]
   by_cases h : X = p.1
   ·subst h; simp [hk]
   ·simp [h]
theorem V7 {L : Heap} {X r : Nat} {c : List V} (h : L.get X r = some c) : ∃ p ∈ L, c ∈ p.2 := by
 induction L with
 | nil => simp [g5] at h
 | cons p L ih =>
  rw [d8] at h
  split at h
  ·exact ⟨p, by simp, List.mem_of_getElem? h⟩
  ·obtain ⟨q, hq, hc⟩ := ih h
   exact ⟨q, by simp [hq], hc⟩
theorem LeT.only {N : Nat -> Prop} {nt : Nat} (k : Nat -> Bool) {sls : Sl} {L L' : Heap} (hN : ∀ Y, ¬ N Y) (hL : (L.filter λp => k p.1) = L') (hs : KpS L' sls) (hc : KpH L' L') : Le N (T.s nt ⟨sls, L⟩) (T.s nt ⟨sls, L'⟩) := by
 refine LeT.drop hN (λp hp => hs p hp L) λX r c h => ⟨?_, λv hv => ?_⟩
 ·subst hL
  unfold Heap.get at h ⊢
  rw [V9] at h
  split at h
  ·exact h
  ·cases h
 ·obtain ⟨p, hp, hcp⟩ := V7 h
  exact hc p hp c hcp v hv L
theorem m5 {N : Nat -> Prop} {nt : Nat} (k : Nat -> Bool) {res : List (Nat × Option (Nat × Bool))} {s : T} {r : V} {L' : Heap} (hN : ∀ X, ¬ N X) (h : ResV (s.s nt) res r) (hL : (s.L.filter λp => k p.1) = L') (hr : Kp L' r) (hc : KpH L' L') : M4 N nt res r L' .ret s := by
 refine ⟨r, λX q => (X, q), h, ⟨rfl, λi hi => ?_, λX q c hX => ⟨c, ?_, rfl, λj hj => ?_⟩, λX q Y p _ _ e => by simpa using e, λX q h => absurd h (hN X)⟩⟩
 ·obtain rfl : i = 0 := by simpa using hi
  exact hr _
 ·subst hL
  unfold Heap.get at hX ⊢
  rw [V9] at hX
  split at hX
  ·exact hX
  ·cases hX
 ·obtain ⟨p, hp, hcp⟩ := V7 hX
  exact KpA.at (hc p hp c hcp) _ j
def Snaps (L : Heap) : List V -> List V -> Prop
 | [], [] => True
 | a :: as, b :: bs => Snap L a b /\ Snaps L as bs
 | _, _ => False
theorem Snaps.at {L : Heap} {vs us : List V} (h : Snaps L vs us) : us.length = vs.length /\ ∀ j, j < us.length -> Snap L (vs.getD j .any) (us.getD j .any) := by
 induction vs generalizing us with
 | nil => cases us with
  | nil => exact ⟨rfl, λj hj => by simp at hj⟩
  | cons u us => exact h.elim
 | cons v vs ih => cases us with
  | nil => exact h.elim
  | cons u us =>
   obtain ⟨h1, h2⟩ := ih h.2
   refine ⟨by simp [h1], λj hj => ?_⟩
   cases j with
   | zero => exact h.1
   | succ j => exact h2 j (by simpa using hj)
theorem Snap.aggs {L : Heap} {vs us : List V} (h : Snaps L vs us) : Snap L (.agg vs) (.agg us) := .agg h.at.1 λj hj => h.at.2 j (by rw [h.at.1]; exact hj)
theorem Snap.bare {L : Heap} (x : D) : Snap L (.d x) (.d x) := .d x
theorem Snap.box {L : Heap} {X : Nat} {v : V} {x : D} (h : L.get X 0 = some [v]) (hv : Snap L v (.d x)) : Snap L (.ptr X 0 0 1) (.d (.bptr [x])) :=
 .ptr h rfl (by simp) (by simp) λj hj => by
  obtain rfl : j = 0 := by simpa using hj
  exact hv
theorem Snap.fun1 {L : Heap} {f : FuncId} {v : V} {x : D} (hv : Snap L v (.d x)) : Snap L (.fn f [] [v]) (.d (.fn f [] [x])) :=
 .fn rfl rfl (λj hj => by simp at hj) λj hj => by
  obtain rfl : j = 0 := by simpa using hj
  exact hv
theorem Snap.fun2 {L : Heap} {f : FuncId} {v v2 : V} {x x2 : D} (hv : Snap L v (.d x)) (hv2 : Snap L v2 (.d x2)) : Snap L (.fn f [] [v, v2]) (.d (.fn f [] [x, x2])) :=
 .fn rfl rfl (λj hj => by simp at hj) λj hj => by
  rcases j with _ | j
  ·exact hv
  ·obtain rfl : j = 0 := by simp at hj; omega
   exact hv2
theorem F7 {P : Program} {g : FuncId} {vs : List V} {L : Heap} {K : V -> Heap -> Prop} {n : Nat} {xs : List Nat} (k : Nat) (us : List V) (hk : L.next <= k) (h : AC P g us [] [(0, [rowV xs])] (.sl 0 0 0 n 1 n))
  (hs : Snaps L vs us) (hK : K (.sl k 0 0 n 1 n) ((k, [rowV xs]) :: L)) : b1U P g vs L K := by
 refine B7 (a6N k hk (us := us) h hs.at.1 (.inr ⟨hs.at.2, .sl .., λX q cells hX j hj => ?_⟩)) ?_
 ·obtain ⟨_, _, rfl⟩ := a6V (L := []) hX
  rw [d2d, List.getElem?_map]
  cases xs[j]? with
  | none => exact .any
  | some x => exact .flt x
 ·have e : Heap.up k [(0, [rowV xs])] = [(k, [rowV xs])] := by
   simp [Heap.up, rowV, V.ren]
  rw [e]
  simpa [V.ren, upF] using hK
theorem B6 {P : Program} {g : FuncId} {vs : List V} {L : Heap} {K : V -> Heap -> Prop} {r : V} (us : List V) (h : Con P g us r) (hs : Snaps L vs us) (hr : Scalar r) (hK : K r L) : b1U P g vs L K :=
 b2Q (us := us) h hs.at.1 hs.at.2 hr hK
theorem a6f {P : Program} {g : FuncId} {vs : List V} {L : Heap} {K : V -> Heap -> Prop} {n nm k : Nat} {xs : List Nat} (us : List V) (h : AC P g us [] [(0, [rowV xs])] (.sl 0 0 0 n 1 n))
  (hs : Snaps (L.old (nm - k)) vs us) (hf : L.fam nm = none) (hK : K (.sl nm 0 0 n 1 n) (L.ins nm [rowV xs])) : b4M P nm k g vs L K := by
 refine b8c (us := us) h hs.at.1 hs.at.2 (.sl ..) ?_ hf ?_
 ·intro q cells hc j hj
  rcases q with _ | q
  case succ => simp at hc
  obtain rfl : rowV xs = cells := by simpa using hc
  rw [d2d, List.getElem?_map]
  cases xs[j]? with
  | none => exact .any
  | some x => exact .flt x
 ·have e : Y8 nm [rowV xs] = [rowV xs] := by
   simp [Y8, rowV, V.ren]
  rw [e]
  simpa [V.ren, toF] using hK
theorem b9a (f : FuncId) (X r off ver : Nat) : fnOf f [] [.ptr X r off ver] = .fn f [] [.ptr X r off ver] := rfl
theorem a2A (f : FuncId) (X r off ver Y q o ve : Nat) : fnOf f [] [.ptr X r off ver, .ptr Y q o ve] = .fn f [] [.ptr X r off ver, .ptr Y q o ve] := rfl
theorem a3M (f : FuncId) (X r off ver : Nat) : fnOf f [.ptr X r off ver] [] = .fn f [.ptr X r off ver] [] := rfl
theorem m7 {N : Nat -> Prop} {nt : Nat} (k : Nat -> Bool) {res : List (Nat × Option (Nat × Bool))} {s : T} {r : V} {L' : Heap} (hN : ∀ X, N X -> k X = true) (h : ResV (s.s nt) res r) (hL : (s.L.filter λp => k p.1) = L') (hr : Kp L' r) (hc : KpH L' L') : M4 N nt res r L' .ret s := by
 have hg : ∀ X r, k X = true -> L'.get X r = s.L.get X r := by
  intro X r hk
  subst hL
  unfold Heap.get
  rw [V9, if_pos hk]
 refine ⟨r, λX q => (X, q), h, ⟨rfl, λi hi => ?_, λX q c hX => ⟨c, ?_, rfl, λj hj => ?_⟩, λX q Y p _ _ e => by simpa using e, λX q h hx => ⟨rfl, by rw [hg X q (hN X h)]; exact hx⟩⟩⟩
 ·obtain rfl : i = 0 := by simpa using hi
  exact hr _
 ·subst hL
  unfold Heap.get at hX ⊢
  rw [V9] at hX
  split at hX
  ·exact hX
  ·cases hX
 ·obtain ⟨p, hp, hcp⟩ := V7 hX
  exact KpA.at (hc p hp c hcp) _ j
theorem j6 {N : Nat -> Prop} {nt : Nat} {res : List (Nat × Option (Nat × Bool))} {s : T} {d : V} (r : V) (hN : ∀ X, ¬ N X) (h : ResV (s.s nt) res r) (hr : LeV s.L [] (λX r => (X, r)) r d) : M4 N nt res d [] .ret s := by
 refine ⟨r, λX r => (X, r), h, ⟨rfl, λi hi => ?_, λX q c hX => by simp [g5] at hX, λX q Y p hX => by simp [g5] at hX, λX q h => absurd h (hN X)⟩⟩
 obtain rfl : i = 0 := by simpa using hi
 exact hr
theorem LeV.agg3 {L L' : Heap} {ρ : Nat -> Nat -> Nat × Nat} {a b c a' b' c' : V} (h1 : LeV L L' ρ a a') (h2 : LeV L L' ρ b b') (h3 : LeV L L' ρ c c') : LeV L L' ρ (.agg [a, b, c]) (.agg [a', b', c']) := by
 refine .agg rfl λj hj => ?_
 have hj : j < 3 := by simpa using hj
 rcases j with _ | _ | _ | j
 ·exact h1
 ·exact h2
 ·exact h3
 ·omega
theorem g8 {nt t n : Nat} {g : Bool} {s : T} {r : V} {X row off ver : Nat} {cells : List V} (ht : t < nt) (h1 : look s.sl t = .ptr X row off ver) (h2 : s.L.get X row = some cells) (h3 : cells.length = ver) (h4 : off + n <= cells.length)
  (h5 : r = ldv g n off cells) : ResV (s.s nt) [(t, some (n, g))] r := K1 ht h1 h2 h3 h4 h5
theorem LeT.perm {N : Nat -> Prop} {nt : Nat} {sls : Sl} {L L' : Heap} (hN : ∀ Y, ¬ N Y) (hL : ∀ X, L'.fam X = none \/ L'.fam X = L.fam X) (hs : KpS L' sls) (hc : KpH L' L') : Le N (T.s nt ⟨sls, L⟩) (T.s nt ⟨sls, L'⟩) := by
 refine LeT.drop hN (λp hp => hs p hp L) λX r c h => ⟨?_, λv hv => ?_⟩
 ·unfold Heap.get at h ⊢
  rcases hL X with h1 | h1
  ·rw [h1] at h; cases h
  ·rw [<- h1]; exact h
 ·obtain ⟨p, hp, hcp⟩ := V7 h
  exact hc p hp c hcp v hv L
end Go.Ab
namespace Go.Ab
open Go
def Fz (L L' : Heap) (v v' : V) : Prop := LeV L L' (λX q => (X, q)) v v'
def FzA (L L' : Heap) : List V -> List V -> Prop
 | [], [] => True
 | v :: c, v' :: c' => Fz L L' v v' /\ FzA L L' c c'
 | _, _ => False
def FzF (L L' : Heap) : List (List V) -> List (List V) -> Prop
 | [], [] => True
 | c :: f, c' :: f' => FzA L L' c c' /\ FzF L L' f f'
 | _, _ => False
def FzH (L L' : Heap) : Heap -> Prop
 | [] => True
 | (X, f') :: H => (∃ f, L.fam X = some f /\ FzF L L' f f') /\ FzH L L' H
def FzS (L L' : Heap) : Sl -> Sl -> Prop
 | [], [] => True
 | (i, v) :: s, (j, v') :: s' => (i = j /\ Fz L L' v v') /\ FzS L L' s s'
 | _, _ => False
section
variable {L L' : Heap}
theorem Fz_d (x : D) : Fz L L' (.d x) (.d x) := .d (.d _)
theorem c9w (xs : List Nat) : Fz L L' (.d (.bor xs.length (rowG xs))) (.d (rowD xs)) := .d (.d _)
theorem c9v (xs : List Int) : Fz L L' (.d (.bor xs.length (a6T xs))) (.d (rowI xs)) := .d (.d _)
theorem c6U (xs : List (List Nat)) : Fz L L' (.d (.bor xs.length (a1w xs))) (.d (g6 xs)) := .d (.d _)
theorem c7D : Fz L L' .nil .nil := .nil
theorem d1m (v : V) : Fz L L' v .any := .any _
theorem d1g (X r off ver : Nat) (h : L'.get X r ≠ none) : Fz L L' (.ptr X r off ver) (.ptr X r off ver) := .ptr h rfl
theorem d15 (X r off n esz ver : Nat) (h : L'.get X r ≠ none) : Fz L L' (.sl X r off n esz ver) (.sl X r off n esz ver) := .sl h rfl
theorem a72 {c c' : List V} (h : FzA L L' c c') : c'.length = c.length /\ ∀ j, j < c.length -> Fz L L' (c.getD j .any) (c'.getD j .any) := by
 induction c generalizing c' with
 | nil => cases c' with
  | nil => exact ⟨rfl, λj hj => by simp at hj⟩
  | cons u us => exact h.elim
 | cons v vs ih => cases c' with
  | nil => exact h.elim
  | cons u us =>
   obtain ⟨h1, h2⟩ := ih h.2
   refine ⟨by simp [h1], λj hj => ?_⟩
   cases j with
   | zero => exact h.1
   | succ j => exact h2 j (by simpa using hj)
theorem d1q {c c' : List V} (h1 : c'.length = c.length) (h2 : ∀ j, j < c.length -> Fz L L' (c.getD j .any) (c'.getD j .any)) : FzA L L' c c' := by
 induction c generalizing c' with
 | nil => cases c' with
  | nil => trivial
  | cons u us => simp at h1
 | cons v vs ih => cases c' with
  | nil => simp at h1
  | cons u us => exact ⟨h2 0 (by simp), ih (by simpa using h1) λj hj => h2 (j + 1) (by simpa using hj)⟩
theorem D5 (c c' : List V) (h : FzA L L' c c') : Fz L L' (.agg c) (.agg c') := .agg (a72 h).1 (a72 h).2
theorem b8p : FzA L L' [] [] := trivial
theorem b4L (v v' : V) (c c' : List V) : FzA L L' (v :: c) (v' :: c') ↔ Fz L L' v v' /\ FzA L L' c c' := Iff.rfl
theorem b4K {c : List V} (h : KpA L' c) : FzA L L' c c := by
 induction c with
 | nil => trivial
 | cons v c ih => exact ⟨h v (by simp) L, ih λw hw => h w (by simp [hw])⟩
theorem c9A {a a' b b' : List V} (h1 : FzA L L' a a') (h2 : FzA L L' b b') : FzA L L' (a ++ b) (a' ++ b') := by
 induction a generalizing a' with
 | nil => cases a' with
  | nil => exact h2
  | cons u us => exact h1.elim
 | cons v vs ih => cases a' with
  | nil => exact h1.elim
  | cons u us => exact ⟨h1.1, ih h1.2⟩
theorem b9C (xs : List Nat) : FzA L L' (rowV xs) (rowV xs) := b4K (b4H xs)
theorem b9D (ds : List D) : FzA L L' (ds.map .d) (ds.map .d) := b4K λv hv => by
 obtain ⟨x, _, rfl⟩ := List.mem_map.1 hv
 exact Kp_d x
theorem b9B (ds : List D) : KpA L (ds.map .d) := λv hv => by
 obtain ⟨x, _, rfl⟩ := List.mem_map.1 hv
 exact Kp_d x
theorem c9z : FzF L L' [] [] := trivial
theorem c6Z (c c' : List V) (f f' : List (List V)) : FzF L L' (c :: f) (c' :: f') ↔ FzA L L' c c' /\ FzF L L' f f' := Iff.rfl
theorem c6Y (A : List (List Nat)) : FzF L L' (A.map rowV) (A.map rowV) := by
 induction A with
 | nil => trivial
 | cons a A ih => exact ⟨b9C a, ih⟩
theorem d1p {f f' : List (List V)} (h : FzF L L' f f') : ∀ (r : Nat) (c' : List V), (f'[r]? : Option (List V)) = some c' -> ∃ c : List V, (f[r]? : Option (List V)) = some c /\ FzA L L' c c' := by
  induction f generalizing f' with
  | nil => cases f' with
    | nil => intro r c' hc; simp at hc
    | cons u us => exact h.elim
  | cons v vs ih => cases f' with
    | nil => exact h.elim
    | cons u us =>
      intro r c' hc
      cases r with
      | zero => exact ⟨v, rfl, by obtain rfl : u = c' := by simpa using hc
                                  exact h.1⟩
      | succ r => exact ih h.2 r c' (by simpa using hc)
theorem c9y : FzH L L' [] := trivial
theorem c6X (X : Nat) (f' : List (List V)) (H : Heap) : FzH L L' ((X, f') :: H) ↔ (∃ f, L.fam X = some f /\ FzF L L' f f') /\ FzH L L' H := Iff.rfl
theorem d1n {H : Heap} (h : FzH L L' H) : ∀ X r c', H.get X r = some c' -> ∃ c, L.get X r = some c /\ FzA L L' c c' := by
 induction H with
 | nil => intro X r c' hc; simp [g5] at hc
 | cons p H ih =>
  obtain ⟨Y, f'⟩ := p
  intro X r c' hc
  rw [d8] at hc
  split at hc
  ·rename_i e
   have e : X = Y := e
   subst e
   obtain ⟨f, hf, hF⟩ := h.1
   obtain ⟨c, h1, h2⟩ := d1p hF r c' hc
   refine ⟨c, ?_, h2⟩
   unfold Heap.get; rw [hf]; exact h1
  ·exact ih h.2 X r c' hc
theorem c9x : FzS L L' [] [] := trivial
theorem c6W (i j : Nat) (v v' : V) (s s' : Sl) : FzS L L' ((i, v) :: s) ((j, v') :: s') ↔ (i = j /\ Fz L L' v v') /\ FzS L L' s s' := Iff.rfl
theorem c6V {s s' : Sl} (h : FzS L L' s s') (i : Nat) : Fz L L' (look s i) (look s' i) := by
 induction s generalizing s' with
 | nil => cases s' with
  | nil => exact .any _
  | cons u us => exact h.elim
 | cons p s ih => cases s' with
  | nil => exact h.elim
  | cons q s' =>
   obtain ⟨k, v⟩ := p
   obtain ⟨k', v'⟩ := q
   obtain ⟨⟨rfl, hv⟩, h2⟩ := h
   simp only [look]
   split
   ·exact hv
   ·exact ih h2
theorem b0C {Y r n ver : Nat} {xs : List Nat} (h : L.get Y r = some (rowV xs)) (hn : xs.length = n) (hv : n = ver) (h' : L'.get Y r = none) : Fz L L' (.sl Y r 0 n 1 ver) (.d (rowD xs)) :=
 .d (Z4 (λZ q hZ e => by cases e; exact hZ h') h hn hv)
theorem LeT.weak {N : Nat -> Prop} {nt : Nat} {s s' : Sl} (hN : ∀ Y, ¬ N Y) (hs : FzS L L' s s') (hc : FzH L L' L') : Le N (T.s nt ⟨s, L⟩) (T.s nt ⟨s', L'⟩) := by
 refine Le.of_wk (λX q => (X, q)) ⟨by simp [T.s, y9], λi hi => ?_, λX r c hX => ?_, λX r Y q _ _ e => by simpa using e, λX r h => absurd h (hN X)⟩
 ·simp only [T.s] at hi ⊢
  rw [y9] at hi
  rw [z2 _ hi, z2 _ hi]
  exact c6V hs i
 ·obtain ⟨c0, h1, h2⟩ := d1n hc X r c hX
  exact ⟨c0, h1, (a72 h2).1, (a72 h2).2⟩
end
def g7 (n : Nat) (get : Nat -> List D) : List V := (z8 n get).map .d
theorem b4t (n : Nat) (get : Nat -> List D) : z8 (n + 1) get = z8 n get ++ get n := by
 simp [z8, List.range_succ]
theorem b72 {get : Nat -> List D} {esz : Nat} : ∀ n, (∀ i, i < n -> (get i).length = esz) -> (z8 n get).length = n * esz
 | 0, _ => by simp [z8]
 | n + 1, h => by
  rw [b4t, List.length_append, b72 n λi hi => h i (by omega), h n (by omega), Nat.succ_mul]
theorem b73 {get : Nat -> List D} {esz : Nat} : ∀ n, (∀ i, i < n -> (get i).length = esz) -> ∀ i j, i < n -> j < esz -> (z8 n get)[i * esz + j]? = (get i)[j]?
 | 0, _, i, j, hi, _ => by omega
 | n + 1, h, i, j, hi, hj => by
  have hl := b72 n λi hi => h i (by omega)
  rw [b4t]
  by_cases e : i < n
  ·rw [d2g, b73 n (λi hi => h i (by omega)) i j e hj]
   rw [hl]
   have : (i + 1) * esz <= n * esz := Nat.mul_le_mul_right _ e
   rw [Nat.succ_mul] at this
   omega
  ·obtain rfl : i = n := by omega
   rw [d2j (by omega), hl, Nat.add_sub_cancel_left]
theorem a2E {n : Nat} {g g' : Nat -> List D} (h : ∀ i, i < n -> g i = g' i) : z8 n g = z8 n g' := by
 unfold z8
 induction n with
 | zero => rfl
 | succ n ih => rw [List.range_succ, List.flatMap_append, List.flatMap_append, ih λi hi => h i (by omega)]; simp [h n (by omega)]
theorem u9 {get : Nat -> List D} {esz : Nat} (n : Nat) (h : ∀ i, i < n -> (get i).length = esz) : (g7 n get).length = n * esz := by
 unfold g7; rw [List.length_map]; exact b72 n h
theorem E1 (n : Nat) (get : Nat -> List D) : g7 (n + 1) get = g7 n get ++ (get n).map .d := by
 unfold g7; rw [b4t, List.map_append]
theorem P0 {get : Nat -> List D} {esz : Nat} (n : Nat) (h : ∀ i, i < n -> (get i).length = esz) (i j : Nat) (hi : i < n) (hj : j < esz) : (g7 n get).getD (i * esz + j) .any = .d ((get i).getD j default) := by
 unfold g7
 rw [d2d, List.getElem?_map, b73 n h i j hi hj]
 have : j < (get i).length := by rw [h i hi]; exact hj
 simp [d2d, this]
theorem c03 (n : Nat) (get : Nat -> List D) : (g7 n get).all V.isCell = true := by
 rw [List.all_eq_true]
 intro v hv
 obtain ⟨x, _, rfl⟩ := List.mem_map.1 hv
 rfl
theorem c5q (f : Nat -> Nat -> Nat × Nat) (ds : List D) : (ds.map V.d).map (V.ren f) = ds.map V.d := by
 rw [List.map_map]; exact List.map_congr_left λx _ => by simp [V.ren]
theorem b2t (f : Nat -> Nat -> Nat × Nat) (n : Nat) (get : Nat -> List D) : (g7 n get).map (V.ren f) = g7 n get := c5q f _
theorem c1t {L : Heap} (n : Nat) (get : Nat -> List D) : KpA L (g7 n get) := b9B _
theorem c1u {L L' : Heap} (n : Nat) (get : Nat -> List D) : FzA L L' (g7 n get) (g7 n get) := b9D _
theorem a3D {L : Heap} {X r n esz ver : Nat} {get : Nat -> List D} (h : L.get X r = some (g7 n get)) (hg : ∀ i, i < n -> (get i).length = esz) (hv : n * esz = ver) : Snap L (.sl X r 0 n esz ver) (.d (.bor n get)) := by
 have hl := u9 n hg
 refine .sl h (by omega) (by omega) hg λi j hi hj => ?_
 rw [Nat.zero_add, P0 n hg i j hi hj]
 exact .d _
theorem y6 {L : Heap} {f : Nat -> Nat -> Prop} {X r n esz ver : Nat} {get : Nat -> List D} (hf : f X r) (h : L.get X r = some (g7 n get)) (hg : ∀ i, i < n -> (get i).length = esz) (hv : n * esz = ver) : SnapF L f (.sl X r 0 n esz ver) (.bor n get) := by
 have hl := u9 n hg
 refine .sl (λ_ => hf) h (by omega) (by omega) hg λi j hi hj => ?_
 rw [Nat.zero_add, P0 n hg i j hi hj]
 exact .d _
theorem a1G {P : Program} {g : FuncId} {vs : List V} {L : Heap} {K : V -> Heap -> Prop} {r : V} {nm k : Nat} (us : List V) (h : Con P g us r) (hs : Snaps (L.old (nm - k)) vs us) (hr : Scalar r) (hK : K r L) : b4M P nm k g vs L K :=
 b8b (us := us) h hs.at.1 hs.at.2 hr hK
def outC (n : Nat) (g : Nat -> D) (i : Nat) : List V := (List.range n).map λj => if j < i then .d (g j) else .nil
theorem a5K (n : Nat) (g : Nat -> D) (i : Nat) : (outC n g i).length = n := by simp [outC]
theorem b5K (n : Nat) (g : Nat -> D) : repl n [V.nil] = outC n g 0 := by
 unfold repl outC
 induction n with
 | zero => rfl
 | succ n ih =>
  rw [List.range_succ, List.map_append, <- ih, List.replicate_succ']
  simp
theorem b8N (n : Nat) (g : Nat -> D) : outC n g n = g7 n λi => [g i] := by
 unfold outC g7 z8
 have : (List.range n).flatMap (λi => [g i]) = (List.range n).map g := by
  induction n with
  | zero => rfl
  | succ n ih => rw [List.range_succ, List.flatMap_append, List.map_append, ih]; simp
 rw [this, List.map_map]
 refine List.map_congr_left λj hj => ?_
 have : j < n := by simpa using hj
 simp [this]
theorem b8M (n : Nat) (g : Nat -> D) (i j : Nat) : (outC n g i).getD j .any = if j < n then (if j < i then .d (g j) else .nil) else .any := by
 unfold outC
 rw [d2d]
 by_cases h : j < n
 ·simp [h]
 ·simp [h]
theorem b9A {L : Heap} (n : Nat) (g : Nat -> D) (i : Nat) : KpA L (outC n g i) := λv hv => by
 obtain ⟨j, _, rfl⟩ := List.mem_map.1 hv
 split
 ·exact Kp_d _
 ·exact b8n
theorem c60 {L L' : Heap} (n : Nat) (g : Nat -> D) (i : Nat) : FzA L L' (outC n g i) (outC n g i) := b4K (b9A n g i)
theorem a71 {L L' : Heap} (n : Nat) (g : Nat -> D) (i : Nat) (v : V) (hv : Fz L L' v (.d (g i))) : FzA L L' ((outC n g i).set i v) (outC n g (i + 1)) := by
 refine d1q (by simp [a5K]) λj hj => ?_
 rw [List.length_set, a5K] at hj
 rw [b8M, if_pos hj]
 by_cases e : i = j
 ·subst e
  rw [d2d, List.getElem?_set_self (by rw [a5K]; exact hj), if_pos (by omega)]
  exact hv
 ·rw [d2d, List.getElem?_set_ne e, <- d2d, b8M, if_pos hj]
  by_cases h : j < i
  ·rw [if_pos h, if_pos (by omega)]; exact Fz_d _
  ·rw [if_neg h, if_neg (by omega)]; exact c7D
theorem L7 {L : Heap} {X n len : Nat} {A : List (List Nat)} (h : L.fam X = some (A.map rowV)) (hl : n <= A.length) : KpA L (hdo X 0 n len) := c9t X 0 n len λr hr => by
 unfold Heap.get
 rw [h]
 simp
 omega
theorem b7T (Y X i len : Nat) (h : Y ≠ X) : (hdo X 0 i len ++ [V.sl Y 0 0 len 1 len]).map (V.ren (absF Y X i)) = hdo X 0 (i + 1) len := by
 have e : hdo X 0 (i + 1) len = hdo X 0 i len ++ [.sl X i 0 len 1 len] := by
  simp [hdo, List.range_succ]
 rw [e, List.map_append]
 congr 1
 ·refine b4f _ X 0 i len X 0 λj hj => ?_
  have : ¬ (X = Y /\ j + 0 = 0) := λe => h e.1.symm
  simp only [absF, if_neg this]
 ·simp [V.ren, absF]
theorem c3X (f : FuncId) (X r off ver Y q o ve Z p u w : Nat) : fnOf f [] [.ptr X r off ver, .ptr Y q o ve, .ptr Z p u w] = .fn f [] [.ptr X r off ver, .ptr Y q o ve, .ptr Z p u w] := rfl
theorem c6q (f : FuncId) (X r off ver : Nat) (a b : D) : fnOf f [] [.ptr X r off ver, .d a, .d b] = .fn f [] [.ptr X r off ver, .d a, .d b] := rfl
theorem Snap.fun3 {L : Heap} {f : FuncId} {v v2 v3 : V} {x x2 x3 : D} (hv : Snap L v (.d x)) (hv2 : Snap L v2 (.d x2)) (hv3 : Snap L v3 (.d x3)) : Snap L (.fn f [] [v, v2, v3]) (.d (.fn f [] [x, x2, x3])) :=
 .fn rfl rfl (λj hj => by simp at hj) λj hj => by
  rcases j with _ | _ | j
  ·exact hv
  ·exact hv2
  ·obtain rfl : j = 0 := by simp at hj; omega
   exact hv3
theorem c7j (X n len : Nat) : hd X n n len = hdo X 0 n len := by
 unfold hd hdo
 refine List.map_congr_left λj hj => ?_
 have : j < n := by simpa using hj
 rw [if_pos this, Nat.add_zero]
theorem B0 {P : Program} {g : FuncId} {vs : List V} {L : Heap} {K : V -> Heap -> Prop} {X Y n len : Nat} {A : List (List Nat)} (k : Nat) (us : List V) (hk : L.next <= k) (h : AC P g us [] [(X, A.map rowV), (Y, [hdo X 0 n len])] (.sl Y 0 0 n 1 n))
  (hs : Snaps L vs us) (hK : K (.sl (Y + k) 0 0 n 1 n) ((X + k, A.map rowV) :: (Y + k, [hdo (X + k) 0 n len]) :: L)) : b1U P g vs L K := by
 refine B7 (a6N k hk (us := us) h hs.at.1 (.inr ⟨hs.at.2, .sl .., λZ q cells hX j hj => ?_⟩)) ?_
 ·rw [d8, d8, g5] at hX
  split at hX
  ·rw [List.getElem?_map] at hX
   obtain ⟨xs, h1, rfl⟩ := Option.map_eq_some_iff.1 hX
   rw [d2d, List.getElem?_map]
   cases xs[j]? with
   | none => exact .any
   | some x => exact .flt x
  ·split at hX
   ·rcases q with _ | q
    ·simp at hX; subst hX
     rw [y8] at hj
     rw [u6 _ _ _ _ _ hj]
     exact .sl ..
    ·simp at hX
   ·cases hX
 ·have hh : (hdo X 0 n len).map (V.ren (upF k)) = hdo (X + k) 0 n len := b4f _ X 0 n len (X + k) 0 (λj _ => rfl)
  have hf : (A.map rowV).map (λc => c.map (V.ren (upF k))) = A.map rowV := a2n _ A
  simpa only [Heap.up, V.ren, hh, hf, upF, List.map_cons, List.map_nil, List.cons_append, List.nil_append] using hK
theorem b93 (L : Heap) (ds : List D) : Snaps L (ds.map V.d) (ds.map V.d) := by
 induction ds with
 | nil => trivial
 | cons c ds ih => exact ⟨.bare c, ih⟩
theorem D9 {L : Heap} {X : Nat} (h : L.fam X = none) (r : Nat) : L.get X r = none := by unfold Heap.get; rw [h]; rfl
theorem c4H {L L' : Heap} {H r0 X o n len ver : Nat} {A : List (List Nat)} (h : L.get H r0 = some (hdo X o n len)) (hA : ∀ r, r < n -> L.get X (r + o) = some (rowV (A.getD r [])) /\ (A.getD r []).length = len) (hn : A.length = n) (hv : n = ver)
  (h1 : L'.fam H = none) (h2 : L'.fam X = none) : Fz L L' (.sl H r0 0 n 1 ver) (.d (g6 A)) :=
 .d (b94 (λY q hY e => by cases e; exact hY (D9 h1 _)) (λr hr Y q hY e => by cases e; exact hY (D9 h2 _)) h hA hn hv)
theorem H3 {L L' : Heap} {Y r n ver : Nat} {xs : List Int} (h : L.get Y r = some (k7 xs)) (hn : xs.length = n) (hv : n = ver) (h' : L'.fam Y = none) : Fz L L' (.sl Y r 0 n 1 ver) (.d (rowI xs)) :=
 .d (a5C (λZ q hZ e => by cases e; exact hZ (D9 h' _)) h hn hv)
end Go.Ab
namespace Go.Ab
open Go
def i_P (k d a n : Nat) : II := ⟨k, some d, none, [], [], .h (.padd (.t a) n)⟩
def i_M (k d a : Nat) : II := ⟨k, some d, none, [], [], .h (.mov (.t a))⟩
def i_L (k d a n : Nat) : II := ⟨k, some d, none, [], [], .load (.t a) n false⟩
def i_A (k d a n : Nat) : II := ⟨k, some d, none, [], [], .load (.t a) n true⟩
def i_S (k a b n : Nat) : II := ⟨k, none, none, [], [], .store (.t a) (.t b) n⟩
def i_X (k d : Nat) (i : Inst) : II := ⟨k, some d, none, [], [], i⟩
def g_T (k d g : Nat) (i : Inst) : II := ⟨k, some d, some (g, true), [], [], i⟩
def g_F (k d g : Nat) (i : Inst) : II := ⟨k, some d, some (g, false), [], [], i⟩
def kF (n : Nat) : Opd := .k (.d (.fn n [] []))
def kI (n : Int) : Opd := .k (.d (.int .i64 n))
def i_I (k d a b n : Nat) : II := ⟨k, some d, none, [], [], .h (.idx (.t a) (.t b) n)⟩
def i_F (k d : Nat) (o : FOp) (a b : Nat) : II := ⟨k, some d, none, [], [], .h (.fbin o (.t a) (.t b))⟩
def i_N (k d : Nat) (o : BinOp) (a b : Nat) : II := ⟨k, some d, none, [], [], .h (.ibin o (.t a) (.t b))⟩
def i_B (k d : Nat) (o : BinOp) (a : Nat) (n : Int) : II := ⟨k, some d, none, [], [], .h (.ibin o (.t a) (.k (.d (.int .i64 n))))⟩
def i_K (k d : Nat) (n : Int) : II := ⟨k, some d, none, [], [], .h (.mov (.k (.d (.int .i64 n))))⟩
def z_4 : List V := [.d (.flt 0), .d (.flt 0), .d (.flt 0), .d (.flt 0)]
def z_5 : List V := [.d (.flt 0), .d (.flt 0), .d (.flt 0), .d (.flt 0), .d (.flt 0)]
def z_18 : List V := [.d (.flt 0), .d (.flt 0), .d (.flt 0), .d (.flt 0), .d (.flt 0), .d (.flt 0), .d (.flt 0), .d (.flt 0), .d (.flt 0), .d (.flt 0), .d (.flt 0), .d (.flt 0), .d (.flt 0), .d (.flt 0), .d (.flt 0), .d (.flt 0), .d (.flt 0), .d (.flt 0)]
def z_20 : List V := [.d (.flt 0), .d (.flt 0), .d (.flt 0), .d (.flt 0), .d (.flt 0), .d (.flt 0), .d (.flt 0), .d (.flt 0), .d (.flt 0), .d (.flt 0), .d (.flt 0), .d (.flt 0), .d (.flt 0), .d (.flt 0), .d (.flt 0), .d (.flt 0), .d (.flt 0), .d (.flt 0), .d (.flt 0), .d (.flt 0)]
set_option linter.defProp false in
def evI := And.intro @c7L (And.intro evS (And.intro evT (And.intro evU (And.intro @i_P.eq_1 (And.intro @i_M.eq_1 (And.intro @i_L.eq_1 (And.intro @i_A.eq_1 (And.intro @i_S.eq_1 (And.intro @i_X.eq_1 (And.intro @i_I.eq_1 (And.intro @i_F.eq_1 (And.intro @i_N.eq_1 (And.intro @i_B.eq_1 (And.intro @i_K.eq_1 (And.intro @kF.eq_1 (And.intro @kI.eq_1 (And.intro @g_T.eq_1 (And.intro @g_F.eq_1 (And.intro @z_4.eq_1 (And.intro @z_5.eq_1 (And.intro @z_18.eq_1 @z_20.eq_1)))))))))))))))))))))
set_option linter.defProp false in
def kpS := (And.intro @c6P (And.intro @c9q (And.intro @c6Q (And.intro @c9r (And.intro @c6T (And.intro @c9s (And.intro @c6R (And.intro @G5 (And.intro @a0x (And.intro @c9u (And.intro @b4H (And.intro @c4F (And.intro @c1t (And.intro @b9A (And.intro @d1c (And.intro @b8n (And.intro @Kp_d (And.intro @d1b (And.intro @d13 (And.intro @d1d (And.intro @d1a (And.intro @d14 (And.intro @d8 @g5)))))))))))))))))))))))
set_option linter.defProp false in
def fzS := (And.intro @c9w (And.intro @c9v (And.intro @c6U (And.intro @c6W (And.intro @c9x (And.intro @c6X (And.intro @c9y (And.intro @c6Z (And.intro @c9z (And.intro @c6Y (And.intro @b4L (And.intro @b8p (And.intro @c9A (And.intro @b9C (And.intro @c1u (And.intro @c60 (And.intro @b9D (And.intro @Fz_d (And.intro @c7D (And.intro @d1m (And.intro @d1g (And.intro @d15 (And.intro @D5 (And.intro @d8 (And.intro @g5 (And.intro @d6 @d9))))))))))))))))))))))))))
structure Cv (P Q : Prop) : Prop where
 h : Q -> P
theorem ev {P Q : Prop} (h : Q) (e : Cv P Q := by simp -implicitDefEqProofs only [Go.Ab.evI, Go.Ab.hv, Go.Ab.effC, reduceCtorEq, ↓reduceIte, Nat.reduceEqDiff, Nat.reduceAdd, Nat.reduceMul, Int.reduceToNat, Int.reduceAdd, Int.reduceSub, Int.reduceMul, Int.reduceNeg, Int.reduceLT, Int.reduceLE, Nat.reduceLT, Nat.reduceLeDiff]; exact ⟨id⟩) : P := e.h h
theorem evx {A P Q : Prop} (a : A) (h : Q) (e : A -> Cv P Q := by intro x; simp -implicitDefEqProofs only [Go.Ab.evI, Go.Ab.hv, Go.Ab.effC, reduceCtorEq, ↓reduceIte, Nat.reduceEqDiff, Nat.reduceAdd, Nat.reduceMul, Int.reduceToNat, Int.reduceAdd, Int.reduceSub, Int.reduceMul, Int.reduceNeg, Int.reduceLT, Int.reduceLE, Nat.reduceLT, Nat.reduceLeDiff, x]; exact ⟨id⟩) : P := (e a).h h
theorem evb {P Q : Prop} (h : Q) (e : Cv P Q := by simp -implicitDefEqProofs only [Go.Ab.evI, Go.Ab.hv, Go.Ab.effC, reduceCtorEq, ↓reduceIte, Nat.reduceEqDiff, Nat.reduceAdd, Nat.reduceMul, Int.reduceToNat, Int.reduceAdd, Int.reduceSub, Int.reduceMul, Int.reduceNeg, Int.reduceLT, Int.reduceLE, Nat.reduceLT, Nat.reduceLeDiff, Int.reduceBEq]; exact ⟨id⟩) : P := e.h h
theorem evbx {A P Q : Prop} (a : A) (h : Q) (e : A -> Cv P Q := by intro x; simp -implicitDefEqProofs only [Go.Ab.evI, Go.Ab.hv, Go.Ab.effC, reduceCtorEq, ↓reduceIte, Nat.reduceEqDiff, Nat.reduceAdd, Nat.reduceMul, Int.reduceToNat, Int.reduceAdd, Int.reduceSub, Int.reduceMul, Int.reduceNeg, Int.reduceLT, Int.reduceLE, Nat.reduceLT, Nat.reduceLeDiff, Int.reduceBEq, x]; exact ⟨id⟩) : P := (e a).h h
end Go.Ab
