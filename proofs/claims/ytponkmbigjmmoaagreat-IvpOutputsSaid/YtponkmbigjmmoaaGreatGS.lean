import Derived.Test.YtponkmbigjmmoaaGreatGR
set_option linter.unusedSimpArgs false
set_option linter.unusedVariables false
set_option maxRecDepth 8000
namespace Go.Ab
open Go Go.Proofs
def N9 (c : List Nat) (s : Nat) : Nat -> Nat
 | 0 => c.getD (c.length - 1) 0
 | m + 1 => fop .add (fop .mul (N9 c s m) s) (c.getD (c.length - 2 - m) 0)
abbrev atN (z : List (List Nat)) (n s : Nat) : List Nat := atP z (z.length - 1) n s
theorem c3N (z : List (List Nat)) (s i : Nat) (h0 : 0 < z.length) : ∀ c, c < z.length -> hor z (z.length - 1) s i c = N9 (colT z i) s c := by
 intro c
 induction c with
 | zero =>
  intro _
  unfold hor N9
  rw [V0, a7a _ _ _ (by omega)]; rfl
 | succ c ih =>
  intro hc
  unfold hor N9
  rw [ih (by omega), V0, a7a _ _ _ (by omega), show z.length - 1 - 1 - c = z.length - 2 - c by omega]; rfl
theorem c87 (z : List (List Nat)) (n s i : Nat) (hi : i < n) (h0 : 0 < z.length) : (atN z n s).getD i 0 = N9 (colT z i) s (z.length - 1) := by
 unfold atN atP
 rw [a5x _ _ _ hi, c3N z s i h0 _ (by omega)]
def offP (z : List (List Nat)) (i s told : Nat) : Nat := Q4 (z4 (valC (colT z i) s) (pt told))
theorem d02 {p : Iv} {v d : Rat} (h : Abt p v d) : Fi p := ⟨h.f1, h.f2⟩
theorem c9g {p : Iv} {v d : Rat} (h : Abt p v d) : Enc p v := ⟨h.f1, h.f2, h.lo, h.hi⟩
theorem c6L {p q : Iv} {u v d e : Rat} (hp : Abt p u d) (hq : Abt q v e) (hu : rabs u <= 1900) (hv : rabs v <= 1900) (hd : d <= 1) (he : e <= 1) : Abt (y7 p q) (u + v) (d + e + eps) := by
 obtain ⟨a1, a2, a3, a4, a5, a6⟩ := hp
 obtain ⟨b1, b2, b3, b4, b5, b6⟩ := hq
 have c1 := x6 u
 have c2 := x6 v
 have k1 : rabs (val p.1 + val q.1) <= 4000 := r7 (by grind) (by grind)
 have k2 : rabs (val p.2 + val q.2) <= 4000 := r7 (by grind) (by grind)
 have r1 := a2z a1 b1 (A0 (by grind))
 have r2 := a2z a2 b2 (A0 (by grind))
 have s1 := r1.small k1
 have s2 := r2.small k2
 unfold y7
 rw [a95 r1.dn.1 r2.up.1 (by grind)]
 refine ⟨r1.dn.1, r2.up.1, ?_, ?_, ?_, ?_⟩ <;> grind
theorem c6K {p : Iv} {x : Nat} {u d : Rat} (hp : Abt p u d) (hw : Wf p) (hc : cw x) (hx : fin x) (h1 : rabs (val x) <= 1) (hu : rabs u <= 1000) (hd : d <= 1) : Abt (s9 p (pt x)) (u * val x) (d + eps) := by
 have c1 := x6 u
 have c2 := x6 (val x)
 have near : ∀ y, fin y -> val y - u <= d -> u - val y <= d -> rabs (val y * val x) <= 2000 /\ val y * val x - u * val x <= d /\ u * val x - val y * val x <= d := λy hy g1 g2 => by
  have h3 := U8 (val y - u) (val x)
  have h4 : rabs (val y - u) <= d := r7 (by grind) (by grind)
  have h5 := d2w h1 (r8 (val y - u))
  have h6 := U8 u (val x)
  have h7 := d2w h1 (r8 u)
  have h8 := x6 ((val y - u) * val x)
  have h9 := x6 (u * val x)
  exact ⟨r7 (by grind) (by grind), by grind, by grind⟩
 have w1 := hp.w1
 have w2 := hp.w2
 have l1 := hp.lo
 have l2 := hp.hi
 obtain ⟨n1, n2, n3⟩ := near p.1 hp.f1 (by grind) w1
 obtain ⟨m1, m2, m3⟩ := near p.2 hp.f2 w2 (by grind)
 have r1 := b0g hp.f1 hx (A0 (by grind))
 have r2 := b0g hp.f2 hx (A0 (by grind))
 have s1 := r1.small (by grind)
 have s2 := r2.small (by grind)
 obtain ⟨a, b, e, ha, hb, fa, fb, la, lb, hall⟩ := b8x [fop .mul p.1 x, fop .mul p.1 x, fop .mul p.2 x, fop .mul p.2 x] (fop .mul p.1 x) (fop .mul p.1 x) (λz hz => by simp at hz; rcases hz with rfl | rfl <;> first | exact r1.fin | exact r2.fin) r1.fin r1.fin
 have ha : a = fop .mul p.1 x \/ a = fop .mul p.2 x := by
  rcases ha with h | h
  ·exact .inl h
  ·simp only [List.mem_cons, List.not_mem_nil, or_false] at h
   rcases h with h | h | h | h <;> simp [h]
 have hb : b = fop .mul p.1 x \/ b = fop .mul p.2 x := by
  rcases hb with h | h
  ·exact .inl h
  ·simp only [List.mem_cons, List.not_mem_nil, or_false] at h
   rcases h with h | h | h | h <;> simp [h]
 have pa : fin (down a) /\ val (down a) <= val a /\ u * val x - val (down a) <= d + eps := by
  rcases ha with rfl | rfl
  ·exact ⟨r1.dn.1, by grind, by grind⟩
  ·exact ⟨r2.dn.1, by grind, by grind⟩
 have pb : fin (up b) /\ val b <= val (up b) /\ val (up b) - u * val x <= d + eps := by
  rcases hb with rfl | rfl
  ·exact ⟨r1.up.1, by grind, by grind⟩
  ·exact ⟨r2.up.1, by grind, by grind⟩
 have ee : s9 p (pt x) = (down a, up b) := by
  have : s9 p (pt x) = Y4 [fop .mul p.1 x, fop .mul p.1 x, fop .mul p.2 x, fop .mul p.2 x] (fop .mul p.1 x) (fop .mul p.1 x) := rfl
  rw [this, e, a95 pa.1 pb.1 (by grind)]
 have F : Fi (s9 p (pt x)) := by rw [ee]; exact ⟨pa.1, pb.1⟩
 have E := c33 (c9g hp) (b9m hx) hw (b5G hc) F
 have elo := E.lo
 have ehi := E.hi
 rw [ee] at elo ehi ⊢
 exact ⟨pa.1, pb.1, elo, ehi, pa.2.2, pb.2.2⟩
theorem c0R {c : List Nat} (hc : ∀ i, cw (c.getD i 0)) (hf : ∀ i, fin (c.getD i 0)) (hb : ∀ i, rabs (val (c.getD i 0)) <= 100) {s : Nat} (hs : cw s) (sf : fin s) (s1 : rabs (val s) <= 1) :
  ∀ m, m < 9 -> ∃ e, rabs e <= 100 * ((m + 1 : Nat) : Rat) /\ Abt (valK c s m) e (2 * (m : Rat) * eps) /\ fin (N9 c s m) /\ rabs (val (N9 c s m) - e) <= 2 * (m : Rat) * eps := by
 intro m
 induction m with
 | zero =>
  intro _
  refine ⟨val (c.getD (c.length - 1) 0), ?_, ?_, hf _, ?_⟩
  ·have := hb (c.length - 1)
   have e : ((0 + 1 : Nat) : Rat) = 1 := rfl
   rw [e]; grind
  ·have := b0z (hf (c.length - 1))
   have e : 2 * ((0 : Nat) : Rat) * eps = 0 := by have : ((0 : Nat) : Rat) = 0 := rfl; rw [this]; grind
   rw [e]; exact this
  ·show rabs (val (c.getD (c.length - 1) 0) - val (c.getD (c.length - 1) 0)) <= _
   have e : 2 * ((0 : Nat) : Rat) * eps = 0 := by have : ((0 : Nat) : Rat) = 0 := rfl; rw [this]; grind
   rw [e]
   exact r7 (by grind) (by grind)
 | succ m ih =>
  intro hm
  obtain ⟨e, e1, e2, e3, e4⟩ := ih (by omega)
  have ep := a67
  have eq := c7u
  have p40 := q8 (-40)
  have q1 : ((m + 1 : Nat) : Rat) <= 8 := by
   have := d2u.2 (show m + 1 <= 8 by omega)
   exact this
  have q2 : ((m + 1 + 1 : Nat) : Rat) = ((m + 1 : Nat) : Rat) + 1 := Rat.natCast_add _ _
  have q3 : ((m + 1 : Nat) : Rat) = (m : Rat) + 1 := Rat.natCast_add _ _
  have q0 : (0 : Rat) <= (m : Rat) := Rat.natCast_nonneg
  have eps1 : 20 * eps <= 1 := by
   have h1 := G8 (show (-31 : Int) <= 0 by decide)
   rw [D4] at h1
   have h2 := Q0 (-36) 5
   rw [show (-36 : Int) + (5 : Nat) = -31 from rfl] at h2
   have h3 : ((2 ^ 5 : Nat) : Rat) = 32 := rfl
   have : eps = pw (-36) := rfl
   grind
  have dm : 2 * (m : Rat) * eps <= 14 * eps := by
   have := d2p (show 2 * (m : Rat) <= 14 by grind) (d2q ep)
   exact this
  obtain ⟨wf, _⟩ := c7R hc s m
  have a1 := c6K e2 wf hs sf s1 (by grind) (by grind)
  have hcb := hb (c.length - 2 - m)
  have cc := x6 (val (c.getD (c.length - 2 - m) 0))
  have ce := x6 e
  have es : rabs (e * val s) <= rabs e := by
   rw [U8]
   have := d2w s1 (r8 e)
   grind
  have ces := x6 (e * val s)
  have a2 := c6L a1 (b0z (hf (c.length - 2 - m))) (by grind) (by grind) (by grind) (by decide)
  -- the number that is told
  have hh := x6 (val (N9 c s m) - e)
  have hs2 : rabs ((val (N9 c s m) - e) * val s) <= 2 * (m : Rat) * eps := by
   rw [U8]
   have := d2w s1 (r8 (val (N9 c s m) - e))
   grind
  have hs3 := x6 ((val (N9 c s m) - e) * val s)
  have hm1 : rabs (val (N9 c s m) * val s) <= 1000 := r7 (by grind) (by grind)
  have r1 := b0g e3 sf (A0 (by grind))
  have t1 := (r1.small (by grind)).1
  have u1 := x6 (val (fop .mul (N9 c s m) s) - val (N9 c s m) * val s)
  have hm2 : rabs (val (fop .mul (N9 c s m) s) + val (c.getD (c.length - 2 - m) 0)) <= 2000 := r7 (by grind) (by grind)
  have r2 := a2z r1.fin (hf (c.length - 2 - m)) (A0 (by grind))
  have t2 := (r2.small (by grind)).1
  have u2 := x6 (val (fop .add (fop .mul (N9 c s m) s) (c.getD (c.length - 2 - m) 0)) - (val (fop .mul (N9 c s m) s) + val (c.getD (c.length - 2 - m) 0)))
  refine ⟨e * val s + val (c.getD (c.length - 2 - m) 0), r7 (by grind) (by grind), ?_, r2.fin, ?_⟩
  ·have ed : 2 * (m : Rat) * eps + eps + 0 + eps = 2 * ((m + 1 : Nat) : Rat) * eps := by rw [q3]; grind
   rw [<- ed]; exact a2
  ·have ed : 2 * ((m + 1 : Nat) : Rat) * eps = 2 * (m : Rat) * eps + 2 * eps := by rw [q3]; grind
   rw [ed]
   show rabs (val (fop .add (fop .mul (N9 c s m) s) (c.getD (c.length - 2 - m) 0)) - _) <= _
   exact r7 (by grind) (by grind)
theorem c9f {p : Iv} {v d : Rat} (h : Abt p v d) : fin (Q4 p) /\ 0 <= val (Q4 p) /\ val (Q4 p) <= rabs v + d := by
 obtain ⟨m0, m1, m2, m3⟩ := c8y (d02 h)
 have a1 := x6 v
 have w1 := h.w1
 have w2 := h.w2
 have l1 := h.lo
 have l2 := h.hi
 have r1 := r8 (val p.1)
 refine ⟨m0, by grind, ?_⟩
 rcases m3 with e | e
 ·rw [e]; exact r7 (by grind) (by grind)
 ·rw [e]; exact r7 (by grind) (by grind)
theorem c2R {c : List Nat} (hc : ∀ i, cw (c.getD i 0)) (hf : ∀ i, fin (c.getD i 0)) (hb : ∀ i, rabs (val (c.getD i 0)) <= 100) {s : Nat} (hs : cw s) (sf : fin s) (s1 : rabs (val s) <= 1) (h9 : c.length <= 9) :
  fin (Q4 (z4 (valC c s) (pt (N9 c s (c.length - 1))))) /\ 0 <= val (Q4 (z4 (valC c s) (pt (N9 c s (c.length - 1))))) /\ val (Q4 (z4 (valC c s) (pt (N9 c s (c.length - 1))))) <= 33 * eps := by
 obtain ⟨e, e1, e2, e3, e4⟩ := c0R hc hf hb hs sf s1 (c.length - 1) (by omega)
 have ep := a67
 have q1 : ((c.length - 1 + 1 : Nat) : Rat) <= 9 := by
  have := d2u.2 (show c.length - 1 + 1 <= 9 by omega)
  exact this
 have q2 : ((c.length - 1 : Nat) : Rat) <= 8 := by
  have := d2u.2 (show c.length - 1 <= 8 by omega)
  exact this
 have q0 : (0 : Rat) <= ((c.length - 1 : Nat) : Rat) := Rat.natCast_nonneg
 have dm : 2 * ((c.length - 1 : Nat) : Rat) * eps <= 16 * eps := d2p (show 2 * ((c.length - 1 : Nat) : Rat) <= 16 by grind) (d2q ep)
 have eps1 : 20 * eps <= 1 := by
  have h1 := G8 (show (-31 : Int) <= 0 by decide)
  rw [D4] at h1
  have h2 := Q0 (-36) 5
  rw [show (-36 : Int) + (5 : Nat) = -31 from rfl] at h2
  have h3 : ((2 ^ 5 : Nat) : Rat) = 32 := rfl
  have : eps = pw (-36) := rfl
  grind
 have ce := x6 e
 have ch := x6 (val (N9 c s (c.length - 1)) - e)
 have a := c9d e2 (b0z e3) (by grind) (r7 (by grind) (by grind)) (by grind) (by decide)
 obtain ⟨m1, m2, m3⟩ := c9f a
 refine ⟨m1, m2, ?_⟩
 have : rabs (e - val (N9 c s (c.length - 1))) <= 2 * ((c.length - 1 : Nat) : Rat) * eps := r7 (by grind) (by grind)
 have m3' : val (Q4 (z4 (valC c s) (pt (N9 c s (c.length - 1))))) <= rabs (e - val (N9 c s (c.length - 1))) + (2 * ((c.length - 1 : Nat) : Rat) * eps + 0 + eps) := m3
 grind
theorem c5z {c : List Nat} (hc : ∀ i, cw (c.getD i 0)) : ∀ k, k < 9 -> Fi (Y7 (ofM c) k) -> ∀ j, j <= k -> fin (c.getD j 0) := by
 intro k
 induction k with
 | zero =>
  intro hk h j hj
  obtain rfl : j = 0 := by omega
  unfold Y7 at h
  rw [a9Q c 0 (by omega)] at h
  exact h.1
 | succ k ih =>
  intro hk h j hj
  unfold Y7 at h
  rw [a9Q c (k + 1) hk] at h
  obtain ⟨g1, g2⟩ := b6a (b3M hc k) (c7b _ _) h
  obtain ⟨g3, g4⟩ := c7r (b5G (hc _)) (c68 (c9V (s := 0) (by decide) (by decide) (k + 1))).2 g2
  by_cases e : j = k + 1
  ·subst e; exact g3.1
  ·exact ih (by omega) g1 j (by omega)
theorem c8g (k : Nat) (j : Nat) : Pwr j (if j = k then (if k % 2 = 0 then 1 else -1) else 0) := by
 unfold Pwr
 by_cases e : j = k
 ·subst e
  rw [if_pos rfl]
  exact ⟨λh => by rw [if_pos h]; exact ⟨by decide, by decide⟩, λh => by rw [if_neg (by omega)]; exact ⟨by decide, by decide⟩⟩
 ·rw [if_neg e]
  exact ⟨λ_ => ⟨by decide, by decide⟩, λ_ => ⟨by decide, by decide⟩⟩
theorem c5a (f : Nat -> Rat) (x : Rat) : ∀ k, 0 < k -> ∀ n, sumT f (λj => if j = k then x else 0) n = if k <= n then f 0 + f k * x else f 0 := by
 intro k hk n
 induction n with
 | zero => rw [if_neg (by omega)]; rfl
 | succ n ih =>
  rw [sumT, ih]
  by_cases h1 : k <= n
  ·rw [if_pos h1, if_neg (show ¬ n + 1 = k by omega), if_pos (show k <= n + 1 by omega)]; grind
  ·rw [if_neg h1]
   by_cases h2 : n + 1 = k
   ·subst h2; rw [if_pos rfl, if_pos (show n + 1 <= n + 1 by omega)]
   ·rw [if_neg h2, if_neg (show ¬ k <= n + 1 by omega)]; grind
theorem c1T (f : Nat -> Rat) : ∀ n, sumT f (λ_ => 0) n = f 0 := by
 intro n
 induction n with
 | zero => rfl
 | succ n ih => rw [sumT, ih]; grind
theorem c09 {t : Tp} {box : List Iv} {z : List (List Nat)} {h w e r i : Nat} {y : List Nat} {R : Bnd × Int} (hz : Cw z) (hz9 : z.length <= 9) (hi : i < t.n) (hb : Fi (mG box i)) {v : Rat} (hb1 : val (mG box i).1 = v - 16) (hb2 : val (mG box i).2 = v + 16) (hv : rabs v <= 50)
  (hs : PSpec t box z h y w e r R) (h0 : 0 < h /\ h < 9218868437227405312) : ∀ j, fin ((colT z i).getD j 0) /\ rabs (val ((colT z i).getD j 0)) <= 100 := by
 have hr0 : 0 < r := by have := hs.b.er; have := hs.e0; omega
 obtain ⟨f, v0, t1, _, t3⟩ := c1D hs.b.hr hr0 hs.b.ins hi hb
 rw [c4j z t.n i hi] at t1 t3
 have hc := λk => c7x hz i k
 have hl := V0 z i
 have lv := x6 v
 intro j
 have c0 := t3 _ (b8E hc (u := λ_ => 0) (λk => ⟨λ_ => ⟨by decide, by decide⟩, λ_ => ⟨by decide, by decide⟩⟩) t1)
 rw [c1T] at c0
 by_cases hj : j < 9
 ·have F : fin ((colT z i).getD j 0) := by
   have t1' := t1
   unfold rngM c0g at t1'
   rw [b8R] at t1'
   obtain ⟨g1, _⟩ := b6a (b3M hc 8) (b5G L4 : Wf ((0, 0) : Iv)) t1'
   exact c5z hc 8 (by omega) g1 j (by omega)
  refine ⟨F, ?_⟩
  by_cases h00 : j = 0
  ·subst h00
   have e : cf9 (colT z i) 0 = val ((colT z i).getD 0 0) := rfl
   rw [e] at c0
   exact r7 (by grind) (by grind)
  ·have c1 := t3 _ (b8E hc (c8g j) t1)
   rw [c5a _ _ j (by omega) 8, if_pos (by omega)] at c1
   have e : cf9 (colT z i) j = val ((colT z i).getD j 0) := rfl
   rw [e] at c1
   by_cases h2 : j % 2 = 0
   ·rw [if_pos h2] at c1; exact r7 (by grind) (by grind)
   ·rw [if_neg h2] at c1; exact r7 (by grind) (by grind)
 ·have : (colT z i).getD j 0 = 0 := by rw [d2d, d2n (by omega)]; rfl
  rw [this]
  exact ⟨t8, by rw [r9]; exact r7 (by decide) (by decide)⟩
structure Ou where
 pos : Int
 y : List Nat
 bound : Nat
structure Rn where
 s : Sta
 last : List Nat
 bound : Nat
 att : Nat
 next : Nat
def sP (v : Nd) (a : Int) : Nat := fop .div (FloatKind.nearest .f64 (a - v.pos)) (FloatKind.nearest .f64 v.step)
def outB (v : Nd) (n : Nat) (s b : Nat) (i : Nat) : Nat := up (fop .add b (offP v.z i s ((atN v.z n s).getD i 0)))
def outP (v : Nd) (n : Nat) (b : Nat) (a : Int) : Ou := ⟨a, atN v.z n (sP v a), A5 (outB v n (sP v a) b) (n - 1)⟩
def a9K (outs : List Int) (pos : Int) (k : Nat) : List Int := (outs.drop k).takeWhile λa => decide (a <= pos)
def A3 (p : Pb) (v : Nd) (b k : Nat) : List Ou := (a9K p.outs v.pos k).map (outP v p.t.n b)
def bdR (p : Pb) (r : Rn) : Bnd × Int := bndP p.t p.box (tryP p r.s).n.z (hW (tryP p r.s).n.step.toNat) r.last r.bound
def errR (p : Pb) (r : Rn) : Int := if (bdR p r).2 = 0 /\ fcmp .gt (bdR p r).1.bound p.cap = true then 8 else (bdR p r).2
def c1E (p : Pb) (r : Rn) : Rn := ⟨(tryP p r.s).s, (tryP p r.s).n.z.getD 0 [], (bdR p r).1.bound, r.att + 1, r.next + (A3 p (tryP p r.s).n (bdR p r).1.bound r.next).length⟩
def B2 (p : Pb) (r : Rn) : Rn × List Ou × Int :=
 if p.most <= r.att then (r, [], 6) else
 if (tryP p r.s).e ≠ 0 \/ (tryP p r.s).taken = false then (⟨(tryP p r.s).s, r.last, r.bound, r.att + 1, r.next⟩, [], (tryP p r.s).e) else
 if errR p r ≠ 0 then (⟨r.s, r.last, r.bound, r.att + 1, r.next⟩, [], errR p r) else
 (c1E p r, A3 p (tryP p r.s).n (bdR p r).1.bound r.next, 0)
theorem G7 (p : Pb) (r : Rn) : (p.most <= r.att /\ B2 p r = (r, [], 6)) \/
  (r.att < p.most /\ ((tryP p r.s).e ≠ 0 \/ (tryP p r.s).taken = false) /\ B2 p r = (⟨(tryP p r.s).s, r.last, r.bound, r.att + 1, r.next⟩, [], (tryP p r.s).e)) \/
  (r.att < p.most /\ (tryP p r.s).e = 0 /\ (tryP p r.s).taken = true /\ errR p r ≠ 0 /\ B2 p r = (⟨r.s, r.last, r.bound, r.att + 1, r.next⟩, [], errR p r)) \/
  (r.att < p.most /\ (tryP p r.s).e = 0 /\ (tryP p r.s).taken = true /\ (bdR p r).2 = 0 /\ fcmp .gt (bdR p r).1.bound p.cap = false /\ B2 p r = (c1E p r, A3 p (tryP p r.s).n (bdR p r).1.bound r.next, 0)) := by
 unfold B2
 by_cases h1 : p.most <= r.att
 ·left; rw [if_pos h1]; exact ⟨h1, rfl⟩
 ·right
  rw [if_neg h1]
  by_cases h2 : (tryP p r.s).e ≠ 0 \/ (tryP p r.s).taken = false
  ·left; rw [if_pos h2]; exact ⟨by omega, h2, rfl⟩
  ·right
   rw [if_neg h2]
   have h3 : (tryP p r.s).e = 0 /\ (tryP p r.s).taken = true := by
    refine ⟨?_, ?_⟩
    ·by_cases e : (tryP p r.s).e = 0
     ·exact e
     ·exact absurd (.inl e) h2
    ·cases e : (tryP p r.s).taken with
     | true => rfl
     | false => exact absurd (.inr e) h2
   by_cases h4 : errR p r ≠ 0
   ·left; rw [if_pos h4]; exact ⟨by omega, h3.1, h3.2, h4, rfl⟩
   ·right
    rw [if_neg h4]
    have h5 : errR p r = 0 := by simpa using h4
    have h6 : (bdR p r).2 = 0 /\ fcmp .gt (bdR p r).1.bound p.cap = false := by
     unfold errR at h5
     split at h5
     ·cases h5
     ·rename_i h7
      refine ⟨h5, ?_⟩
      cases e : fcmp .gt (bdR p r).1.bound p.cap with
      | false => rfl
      | true => exact absurd ⟨h5, e⟩ h7
    exact ⟨by omega, h3.1, h3.2, h6.1, h6.2, rfl⟩
def t7 (p : Pb) (r : Rn) : List Ou := if r.s.n.pos = 0 then ((p.outs.drop r.next).takeWhile λa => decide (a = 0)).map λ_ => ⟨0, p.y, 0⟩ else []
def goK (p : Pb) : Nat -> Rn × List Ou × Int -> Rn × List Ou × Int
 | 0, x => x
 | k + 1, x => if x.2.2 = 0 /\ x.1.s.n.pos < p.fin then goK p k ((B2 p x.1).1, x.2.1 ++ (B2 p x.1).2.1, (B2 p x.1).2.2) else x
def goP (p : Pb) (r : Rn) (most : Nat) : Rn × List Ou × Int := goK p most (⟨r.s, r.last, r.bound, r.att, r.next + (t7 p r).length⟩, t7 p r, 0)
def p7 (p : Pb) : Rn := ⟨a70 p, p.y, 0, 0, 0⟩
def a1W (p : Pb) : Rn × List Ou × Int :=
 let x := goP p (p7 p) p.most.toNat
 (x.1, x.2.1, if x.2.2 = 0 /\ x.1.s.n.pos < p.fin then 6 else x.2.2)
structure RInv (p : Pb) (k : Nat) (r : Rn) : Prop where
 s : Inv p k r.s
 last : r.last.length = p.t.n
 bound : Pw r.bound
 next : r.next <= p.outs.length
theorem b2T {p : Pb} (hp : Pk2 p) : RInv p 0 (p7 p) := ⟨c4s hp.pk, hp.pk.yl, Nat.zero_le _, Nat.zero_le _⟩
theorem b2v (outs : List Int) (pos : Int) (k : Nat) : k + (a9K outs pos k).length <= outs.length \/ outs.length < k := by
 by_cases h : outs.length < k
 ·exact .inr h
 ·left
  have h1 := (List.takeWhile_prefix (l := outs.drop k) λa => decide (a <= pos)).length_le
  rw [List.length_drop] at h1
  unfold a9K
  omega
theorem a7N {q : Int -> Bool} : ∀ (l : List Int) (i : Nat), i <= (l.takeWhile q).length -> (i < (l.takeWhile q).length ↔ i < l.length /\ q (l.getD i 0) = true) := by
 intro l
 induction l with
 | nil => intro i hi; simp at hi ⊢
 | cons a l ih =>
  intro i hi
  by_cases ha : q a = true
  ·rw [List.takeWhile_cons_of_pos ha] at hi ⊢
   rcases i with _ | i
   ·simp [ha]
   ·have := ih i (by simpa using hi)
    simpa using this
  ·rw [List.takeWhile_cons_of_neg ha] at hi ⊢
   have hi0 : i = 0 := by simpa using hi
   subst hi0
   simp [ha]
theorem b3u {q : Int -> Bool} : ∀ (l : List Int) (i : Nat), i < (l.takeWhile q).length -> (l.takeWhile q).getD i 0 = l.getD i 0 := by
 intro l
 induction l with
 | nil => intro i hi; simp at hi
 | cons a l ih =>
  intro i hi
  by_cases ha : q a = true
  ·rw [List.takeWhile_cons_of_pos ha] at hi ⊢
   rcases i with _ | i
   ·rfl
   ·have := ih i (by simpa using hi)
    simpa using this
  ·rw [List.takeWhile_cons_of_neg ha] at hi
   simp at hi
theorem c59 {p : Pb} {k : Nat} {s : Sta} (h : Inv p k s) : Inv p (k + 1) s := ⟨h.ok, by have := h.pos; omega, by have := h.good; omega, h.fails, h.slow, h.lo, h.hi⟩
theorem b5b {p : Pb} {k : Nat} {r : Rn} (hp : Pk2 p) (hr : RInv p k r) (hk : k < 100000) : RInv p (k + 1) (B2 p r).1 := by
 have hs := b3q hp.pk hr.s hk
 have mono := c59 hr.s
 rcases G7 p r with ⟨_, e⟩ | ⟨_, _, e⟩ | ⟨_, _, _, _, e⟩ | ⟨_, _, ht, h1, h2, e⟩ <;> rw [e]
 ·exact ⟨mono, hr.last, hr.bound, hr.next⟩
 ·exact ⟨hs, hr.last, hr.bound, hr.next⟩
 ·exact ⟨mono, hr.last, hr.bound, hr.next⟩
 ·have hb := a9z hp hr.s ht r.last r.bound hr.last hr.bound
  refine ⟨hs, ?_, ?_, ?_⟩
  ·exact hb.rk.2 0 (by have := hb.rk.1; omega)
  ·have hg := c1g p.t p.box (tryP p r.s).n.z (hW (tryP p r.s).n.step.toNat) r.last r.bound hr.bound (by obtain ⟨j, hj, hst⟩ := hb.step; rw [hst, Int.toNat_natCast]; exact c8T j hj)
   rcases hg with ⟨_, _, _, _, _, n5, _⟩ | ⟨e, _⟩
   ·exact Nat.le_of_lt n5
   ·show Pw (bndP _ _ _ _ _ _).1.bound
    rw [e]; exact Nat.zero_le _
  ·have h2 := b2v p.outs (tryP p r.s).n.pos r.next
   have h3 := hr.next
   show r.next + (A3 _ _ _ _).length <= _
   unfold A3
   rw [List.length_map]
   omega
def B1 : CA := (.seq (.reg [i_X 0 2 (.h (.mov (.k .nil)))] [0]) (.seq (.seq (.reg [i_M 0 3 0, i_X 1 4 (.h (.nilq false (.t 3)))] [0, 4]) (.cond (.t 4) (.seq (.reg [i_X 0 2 (.h (.mov (.k .nil)))] [2]) .ret) .skip)) (.seq (.reg [i_X 0 5 (.bslice [] 0 1 [] 31), i_M 1 6 0, i_X 2 7 (.app (.t 5) (.t 6) 1 8), i_M 3 2 7] [2]) .ret)))
theorem F8 : f7 Tryz.prog 57 = some ⟨8, [(2, none)], B1.strip⟩ := by kernel_rfl
def v9 : CA := (.seq (.reg [i_X 0 2 (.h (.mov (.k .nil)))] [0]) (.seq (.seq (.reg [i_M 0 3 0, i_X 1 4 (.h (.nilq false (.t 3)))] [0, 4]) (.cond (.t 4) (.seq (.reg [i_X 0 2 (.h (.mov (.k .nil)))] [2]) .ret) .skip)) (.seq (.reg [i_X 0 5 (.bslice [] 0 3 [] 67), i_M 1 6 0, i_X 2 7 (.app (.t 5) (.t 6) 3 40), i_M 3 2 7] [2]) .ret)))
theorem y5 : f7 Tryz.prog 55 = some ⟨8, [(2, none)], v9.strip⟩ := by kernel_rfl
def a8d : CA := (.seq (.reg [i_N 0 26 .lss 25 24] [0, 1, 6, 7, 24, 25, 26]) (.seq (.cond (.t 26) .skip (.exit 2)) (.seq (.block 3 (.seq (.reg [i_M 0 27 25, i_M 1 8 27] [0, 1, 6, 7, 8, 24, 25]) (.reg [i_M 0 28 6, i_M 1 29 8, i_M 2 30 6, i_M 3 31 8, i_I 4 32 30 31 1, i_L 5 33 32 1, i_M 6 34 1, i_F 7 35 .mul 33 34, i_M 8 36 0, i_M 9 37 7, i_I 10 38 36 37 1, i_L 11 39 38 1, i_M 12 40 8, i_I 13 41 39 40 1, i_L 14 42 41 1, i_F 15 43 .add 35 42, i_I 16 44 28 29 1, i_S 17 44 43 1] [0, 1, 6, 7, 24, 25]))) (.reg [i_B 0 45 .add 25 1, i_M 1 25 45] [0, 1, 6, 7, 24, 25]))))
def a8f : CA := (.seq (.seq (.reg [i_M 0 19 7, i_B 1 20 .geq 19 0] [0, 1, 6, 7, 20]) (.cond (.t 20) .skip (.exit 0))) (.seq (.block 1 (.seq (.reg [i_M 0 23 6, i_X 1 24 (.h (.len (.t 23))), i_K 2 25 0] [0, 1, 6, 7, 24, 25]) (.block 2 (.loop a8d)))) (.reg [i_M 0 21 7, i_B 1 22 .sub 21 1, i_M 2 7 22] [0, 1, 6, 7])))
def b6H : CA := (.seq (.reg [i_X 0 4 (.h (.mov (.k .nil)))] [0, 1]) (.seq (.reg [i_M 0 9 0, i_X 1 10 (.h (.len (.t 9))), i_B 2 11 .sub 10 1, i_M 3 5 11] [0, 1, 5]) (.seq (.reg [i_M 0 12 0, i_M 1 13 5, i_I 2 14 12 13 1, i_L 3 15 14 1, i_X 4 16 (.app (.k .nil) (.t 15) 1 8), i_M 5 6 16] [0, 1, 5, 6]) (.seq (.seq (.reg [i_M 0 17 5, i_B 1 18 .sub 17 1, i_M 2 7 18] [0, 1, 6, 7]) (.block 0 (.loop a8f))) (.seq (.reg [i_M 0 46 6, i_M 1 4 46] [4]) .ret)))))
theorem b13 : f7 Tryz.prog 154 = some ⟨47, [(4, none)], b6H.strip⟩ := by kernel_rfl
def b09 : CA := (.seq (.reg [i_X 0 2 (.alloc [fl 0, fl 0] 83)] [0, 2]) (.seq (.reg [i_M 0 3 0, i_M 1 4 0, i_X 2 5 (.h (.build [fl 0, fl 0] [(0, (1, (.t 3))), (1, (1, (.t 4)))])), i_S 3 2 5 2] [2]) .ret))
theorem a9b : f7 Tryz.prog 207 = some ⟨6, [(2, (some (2, true)))], b09.strip⟩ := by kernel_rfl
def a8x : CA := (.seq (.seq (.reg [i_M 0 27 12, i_B 1 28 .geq 27 0] [0, 1, 2, 3, 9, 11, 12, 28]) (.cond (.t 28) .skip (.exit 0))) (.seq (.block 1 (.reg [i_A 0 31 11 2, i_M 1 32 9, i_M 2 33 2, i_X 3 34 (.callS 3 (.t 32) [(.t 33)]), i_X 4 35 (.callS 0 (kF 208) [(.t 31), (.t 34)]), i_M 5 36 9, i_M 6 37 0, i_M 7 38 12, i_I 8 39 37 38 1, i_L 9 40 39 1, i_M 10 41 1, i_I 11 42 40 41 1, i_L 12 43 42 1, i_X 13 44 (.callA (.t 36) [(.t 43)]), i_X 14 45 (.callA (kF 200) [(.t 35), (.t 44)]), i_S 15 11 45 2] [0, 1, 2, 3, 9, 11, 12])) (.reg [i_M 0 29 12, i_B 1 30 .sub 29 1, i_M 2 12 30] [0, 1, 2, 3, 9, 11, 12])))
def b6N : CA := (.seq (.reg [i_X 0 8 (.h (.mov (.k (.d (.flt 0)))))] [0, 1, 2, 3]) (.seq (.reg [i_X 0 9 (.h (.mov (kF 207)))] [0, 1, 2, 3, 9]) (.seq (.reg [i_M 0 13 0, i_X 1 14 (.h (.len (.t 13))), i_B 2 15 .sub 14 1, i_M 3 10 15] [0, 1, 2, 3, 9, 10]) (.seq (.reg [i_M 0 16 9, i_M 1 17 0, i_M 2 18 10, i_I 3 19 17 18 1, i_L 4 20 19 1, i_M 5 21 1, i_I 6 22 20 21 1, i_L 7 23 22 1, i_X 8 24 (.callA (.t 16) [(.t 23)]), i_X 9 11 (.alloc [fl 0, fl 0] 83), i_S 10 11 24 2] [0, 1, 2, 3, 9, 10, 11]) (.seq (.seq (.reg [i_M 0 25 10, i_B 1 26 .sub 25 1, i_M 2 12 26] [0, 1, 2, 3, 9, 11, 12]) (.block 0 (.loop a8x))) (.seq (.reg [i_A 0 46 11 2, i_M 1 47 9, i_M 2 48 3, i_X 3 49 (.callS 3 (.t 47) [(.t 48)]), i_X 4 50 (.callA (kF 190) [(.t 46), (.t 49)]), i_X 5 51 (.callA (kF 192) [(.t 50)]), i_M 6 8 51] [8]) .ret))))))
theorem b19 : f7 Tryz.prog 155 = some ⟨52, [(8, none)], b6N.strip⟩ := by kernel_rfl
theorem W8 (xs : List Nat) (h0 : 0 < xs.length) (h1 : xs.length < 2 ^ 40) : Con Tryz.prog 57 [.d (rowD xs)] (.d (rowD xs)) := by
 refine b7 F8 rfl f5 ?_
 refine evx @B1.eq_1 ?_
 exact ⟨h0, by omega, j6 (.sl 0 0 0 xs.length 1 xs.length) (λ_ h => h) (f8 (by decide) rfl) (b0C rfl rfl rfl (g5 _ _))⟩
def mixR (f g : Nat -> Nat) (i : Nat) : Nat -> Nat := λk => if k < i then g k else f k
theorem c8t (f g : Nat -> Nat) (n i : Nat) : (tabR (mixR f g i) n).set i (g i) = tabR (mixR f g (i + 1)) n := by
 refine List.ext_getElem? λj => ?_
 unfold tabR mixR
 simp only [List.getElem?_set, List.length_map, List.length_range, List.getElem?_map]
 by_cases h : i = j
 ·subst h
  by_cases hi : i < n
  ·simp [hi]
  ·simp [hi]
 ·by_cases hj : j < n
  ·have h3 : (List.range n)[j]? = some j := by simp [hj]
   rw [if_neg h, h3]
   simp only [Option.map_some]
   by_cases h4 : j < i
   ·rw [if_pos h4, if_pos (by omega)]
   ·rw [if_neg h4, if_neg (by omega)]
  ·have h3 : (List.range n)[j]? = none := by simp; omega
   rw [if_neg h, h3]; rfl
theorem c5Q (f g : Nat -> Nat) (n : Nat) : tabR (mixR f g 0) n = tabR f n := b2k λi _ => by simp [mixR]
theorem c8u (f g : Nat -> Nat) (n : Nat) : tabR (mixR f g n) n = tabR g n := b2k λi hi => by simp [mixR, hi]
theorem c1P (xs : List Nat) (n : Nat) (h : xs.length = n) : tabR (λi => xs.getD i 0) n = xs := by
 subst h
 refine List.ext_getElem? λj => ?_
 unfold tabR
 rw [List.getElem?_map]
 by_cases hj : j < xs.length
 ·simp [hj, d2d]
 ·simp [hj]
theorem b7B (z : List (List Nat)) (q n s : Nat) (hz : Rk (q + 1) n z) (hq : q < 1000) (hn0 : 0 < n) (hn : n < 2 ^ 40) : Con Tryz.prog 154 [.d (g6 z), fl s] (.d (rowD (atP z q n s))) := by
 have hl := hz.1
 have hq0 := hz.2 q (by omega)
 have wq : IntKind.i64.wrap ((q + 1 : Nat) - 1) = (q : Int) := by rw [f0 (by omega) (by omega)]; omega
 have wq1 : IntKind.i64.wrap ((q : Int) - 1) = ((q : Int) - 1 - (0 : Nat)) := by rw [f0 (by omega) (by omega)]; omega
 refine b7 b13 rfl f5 ?_
 refine evx @b6H.eq_1 ?_
 rw [hl]
 refine evx (And.intro wq wq1) ?_
 have e0 : z.getD q [] = tabR (λi => hor z q s i 0) n := (c1P _ n hq0).symm
 refine ⟨by omega, ?_⟩
 rw [hq0, e0]
 refine r5 (n := q) (λk t => ∃ c, k + c = q /\ t = ⟨[(0, .d (.bor (q + 1) (a1w z))), (1, fl s), (6, .sl 4 0 0 n 1 n), (7, fI ((q : Int) - 1 - (c : Nat)))], [(4, [rowV (tabR (λi => hor z q s i c) n)])]⟩) ⟨0, by omega, rfl⟩ ?_
 rintro k t ⟨c, hc, rfl⟩
 refine evx @a8f.eq_1 ?_
 refine b9 (λh => ?_) (λh => ?_)
 ·replace h := d2b h
  refine ev ?_
  have hj : ((q : Int) - 1 - (c : Nat)).toNat = q - 1 - c := by omega
  have hzj := hz.2 (q - 1 - c) (by omega)
  have wc : IntKind.i64.wrap ((q : Int) - 1 - (c : Nat) - 1) = (q : Int) - 1 - ((c + 1 : Nat) : Int) := by rw [f0 (by omega) (by omega)]; omega
  rw [<- c5Q (λi => hor z q s i c) (λi => hor z q s i (c + 1)) n]
  refine r5 (n := n) (λk t => ∃ i : Nat, k + i = n /\ t = ⟨[(0, .d (.bor (q + 1) (a1w z))), (1, fl s), (6, .sl 4 0 0 n 1 n), (7, fI ((q : Int) - 1 - (c : Nat))), (24, fI n), (25, fI i)], [(4, [rowV (tabR (mixR (λi => hor z q s i c) (λi => hor z q s i (c + 1)) i) n)])]⟩) ⟨0, by omega, rfl⟩ ?_
  rintro k2 t ⟨i, hi, rfl⟩
  refine evx @a8d.eq_1 ?_
  refine b9 (λh2 => ?_) (λh2 => ?_)
  ·replace h2 := d2b h2
   have wi : IntKind.i64.wrap ((i : Int) + 1) = ((i + 1 : Nat) : Int) := by rw [f0 (by omega) (by omega)]; omega
   have hlen := k8 (mixR (λi => hor z q s i c) (λi => hor z q s i (c + 1)) i) n
   have gi : (rowV (tabR (mixR (λi => hor z q s i c) (λi => hor z q s i (c + 1)) i) n)).getD i .any = fl (hor z q s i c) := by
    rw [j8 _ _ (by rw [hlen]; exact h2), a5x _ _ _ h2]; simp [mixR]
   refine evx (And.intro gi (And.intro hj wi)) ?_
   refine ⟨h2, ⟨hlen, by omega⟩, ⟨by omega, by omega⟩, by omega, h2, ⟨hlen, by omega⟩, k2 - 1, by omega, i + 1, by omega, ?_⟩
   rw [<- c8t]
   rfl
  ·replace h2 := d2c h2
   refine evx wc ?_
   exact ⟨k - 1, by omega, c + 1, by omega, by rw [show i = n by omega, c8u]⟩
 ·replace h := d2c h
  refine ev ?_
  have ec : c = q := by omega
  subst ec
  exact j6 (.sl 4 0 0 n 1 n) (λ_ h => h) (f8 (by decide) rfl) (b0C rfl (k8 _ _) rfl (g5 _ _))
theorem U9 (x : Nat) : Con Tryz.prog 207 [fl x] (ivV (x, x)) := by
 refine b7 a9b rfl f5 ?_
 refine evx @b09.eq_1 ?_
 exact f9 rfl (by decide) rfl rfl rfl (by simp) (by simp [ldv])
theorem b7R (z : List (List Nat)) (q n i s told : Nat) (hz : Rk (q + 1) n z) (hq : q < 1000) (hi : i < n) (hn : n < 2 ^ 40) : Con Tryz.prog 155 [.d (g6 z), fI i, fl s, fl told] (fl (offP z i s told)) := by
 have hl := hz.1
 have hcl := V0 z i
 have hr := λk h => hz.2 k h
 have hca := λk h => a7a z i k h
 have w1 : IntKind.i64.wrap ((z.length : Int) - 1) = (q : Int) := by rw [f0 (by omega) (by omega)]; omega
 have r0 := hr q (by omega)
 unfold offP valC
 rw [hcl, hl, show q + 1 - 1 = q from rfl]
 refine b7 b19 rfl f5 ?_
 refine evx @b6N.eq_1 ?_
 refine evx w1 ?_
 repeat with_reducible refine andO ?_
 refine a0 (U9 ((z.getD q []).getD i 0)) rfl ?_
 refine ev ?_
 have e0 : valK (colT z i) s 0 = pt ((z.getD q []).getD i 0) := by rw [valK, hcl, hl, show q + 1 - 1 = q from rfl, hca q (by omega)]
 have e1 : (z.getD q []).getD i 0 = (valK (colT z i) s 0).1 := by rw [e0]; rfl
 have e2 : (z.getD q []).getD i 0 = (valK (colT z i) s 0).2 := by rw [e0]; rfl
 have e5 : IntKind.i64.wrap ((q : Int) - 1) = (q : Int) - 1 - ((0 : Nat) : Int) := by rw [f0 (by omega) (by omega)]; omega
 rw [e5]
 refine j5 (n := q) (λc t => ∃ k, c + k = q /\ t = ⟨[(0, .d (g6 z)), (1, fI i), (2, fl s), (3, fl told), (9, .d (.fn 207 [] [])), (11, .ptr 9 0 0 2), (12, fI ((q : Int) - 1 - (k : Int)))],
  [(9, [[fl (valK (colT z i) s k).1, fl (valK (colT z i) s k).2]])]⟩) (Le.refl _) ⟨0, by omega, by rw [<- e1, <- e2]; rfl⟩ ?_
 rintro c t ⟨k, hc, rfl⟩
 refine evx @a8x.eq_1 ?_
 refine b9 (λh => ?_) (λh => ?_)
 ·replace h := d2b h
  obtain ⟨j, hj⟩ : ∃ j : Nat, (q : Int) - 1 - (k : Int) = j := ⟨q - 1 - k, by omega⟩
  have hj2 : j = (colT z i).length - 2 - k := by omega
  have rj := hr j (by omega)
  rw [hj]
  refine evx (And.intro @g6.eq_1 @a1w.eq_1) ?_
  refine d5 (U9 s) rfl ?_
  refine ev ?_
  refine d5 (u8 (valK (colT z i) s k) (pt s)) rfl ?_
  refine evx (And.intro @g6.eq_1 @a1w.eq_1) ?_
  repeat with_reducible refine andO ?_
  refine a0 (U9 ((z.getD j []).getD i 0)) rfl ?_
  refine ev ?_
  refine a0 (v7 (s9 (valK (colT z i) s k) (pt s)) (pt ((z.getD j []).getD i 0))) rfl ?_
  have e1 : y7 (s9 (valK (colT z i) s k) (pt s)) (pt ((z.getD j []).getD i 0)) = valK (colT z i) s (k + 1) := by
   rw [b42, <- hj2, hca j (by omega)]
  rw [e1]
  refine ev ?_
  rw [show IntKind.i64.wrap ((j : Int) - 1) = (q : Int) - 1 - ((k + 1 : Nat) : Int) by rw [f0 (by omega) (by omega)]; omega]
  exact ⟨c - 1, _, by omega, Le.refl _, k + 1, by omega, by first | rfl | (rw [hl]; rfl)⟩
 ·replace h := d2c h
  obtain rfl : k = q := by omega
  refine ev ?_
  refine d5 (U9 told) rfl ?_
  refine ev ?_
  refine a0 (D3 (valK (colT z i) s k) (pt told)) rfl ?_
  refine ev ?_
  refine a0 (a3K (z4 (valK (colT z i) s k) (pt told))) rfl ?_
  refine ev ?_
  exact g9
def Q9 : CA := (.seq (.seq (.reg [i_M 0 2 0, i_X 1 3 (.h (.nilck (.t 2))), i_P 2 4 3 13, i_P 3 5 4 0, i_P 4 6 5 0, i_P 5 7 6 0, i_L 6 8 7 1, i_B 7 9 .eql 8 0, i_M 8 10 9, g_T 9 11 10 (.h (.mov (.t 0))), g_T 10 12 10 (.h (.nilck (.t 11))), g_T 11 13 10 (.h (.padd (.t 12) 13)), g_T 12 14 10 (.h (.padd (.t 13) 11)), g_T 13 15 10 (.load (.t 14) 1 false), g_T 14 16 10 (.h (.mov (.t 0))), g_T 15 17 10 (.h (.nilck (.t 16))), g_T 16 18 10 (.h (.padd (.t 17) 0)), g_T 17 19 10 (.h (.padd (.t 18) 12)), g_T 18 20 10 (.load (.t 19) 1 false), g_T 19 21 10 (.h (.len (.t 20))), g_T 20 22 10 (.h (.ibin .lss (.t 15) (.t 21))), i_X 21 23 (.h (.pick (.t 10) (.t 22) (.k (.d (.bool false))))), i_M 22 24 23, g_T 23 25 24 (.h (.mov (.t 0))), g_T 24 26 24 (.h (.nilck (.t 25))), g_T 25 27 24 (.h (.padd (.t 26) 0)), g_T 26 28 24 (.h (.padd (.t 27) 12)), g_T 27 29 24 (.load (.t 28) 1 false), g_T 28 30 24 (.h (.mov (.t 0))), g_T 29 31 24 (.h (.nilck (.t 30))), g_T 30 32 24 (.h (.padd (.t 31) 13)), g_T 31 33 24 (.h (.padd (.t 32) 11)), g_T 32 34 24 (.load (.t 33) 1 false), g_T 33 35 24 (.h (.idx (.t 29) (.t 34) 1)), g_T 34 36 24 (.load (.t 35) 1 false), g_T 35 37 24 (.h (.ibin .eql (.t 36) (kI 0))), i_X 36 38 (.h (.pick (.t 24) (.t 37) (.k (.d (.bool false)))))] [0, 38]) (.cond (.t 38) .skip (.exit 0))) (.block 1 (.seq (.reg [i_M 0 39 0, i_M 1 40 0, i_X 2 41 (.h (.nilck (.t 40))), i_P 3 42 41 25, i_L 4 43 42 1, i_M 5 44 0, i_X 6 45 (.h (.nilck (.t 44))), i_P 7 46 45 0, i_P 8 47 46 4, i_L 9 48 47 1, i_X 10 49 (.callS 10 (kF 57) [(.t 48)]), i_X 11 50 (.h (.build [fI 0, .nil, fl 0] [(1, (1, (.t 49)))])), i_X 12 51 (.bslice [fI 0, .nil, fl 0] 1 3 [(0, (3, (.t 50)))] 67), i_X 13 52 (.app (.t 43) (.t 51) 3 40), i_X 14 53 (.h (.nilck (.t 39))), i_P 15 54 53 25, i_S 16 54 52 1] [0]) (.reg [i_M 0 55 0, i_X 1 56 (.h (.nilck (.t 55))), i_P 2 57 56 13, i_P 3 58 57 11, i_L 4 59 58 1, i_B 5 60 .add 59 1, i_X 6 61 (.h (.nilck (.t 55))), i_P 7 62 61 13, i_P 8 63 62 11, i_S 9 63 60 1] [0]))))
def a0k : CA := (.block 0 (.loop Q9))
theorem a1R : f7 Tryz.prog 53 = some ⟨64, [], a0k.strip⟩ := by kernel_rfl
def ouC (o : Ou) : List V := [fI o.pos, .d (rowD o.y), fl o.bound]
def ousC (l : List Ou) : List V := l.flatMap ouC
def osF (l : List Ou) : List (List V) := if l = [] then [] else [ousC l]
def osV (l : List Ou) : V := if l = [] then .nil else .sl 100 0 0 l.length 3 (l.length * 3)
theorem b7z : osF [] = [] := rfl
theorem b7y : osV [] = .nil := rfl
theorem b2y {l : List Ou} (h : l ≠ []) : osF l = [ousC l] := if_neg h
theorem b2x {l : List Ou} (h : l ≠ []) : osV l = .sl 100 0 0 l.length 3 (l.length * 3) := if_neg h
theorem b8P (l : List Ou) (o : Ou) : ousC l ++ ouC o = ousC (l ++ [o]) := by simp [ousC]
theorem b3Q (l : List Ou) : (ousC l).length = l.length * 3 := by
 induction l with
 | nil => rfl
 | cons o l ih =>
  show (ouC o ++ ousC l).length = _
  rw [List.length_append, ih]
  show 3 + _ = (l.length + 1) * 3
  omega
abbrev rnC (r : Rn) : List V := [fI r.s.n.pos, fI r.s.n.step, fI r.s.n.order, fI r.s.n.method, .d (g6 r.s.n.z), fI r.s.good, fI r.s.fails, fI r.s.slow, .d (rowD r.last), fl r.bound, fI r.att, fI r.next]
abbrev slC (p : Pb) (r : Rn) (o : V) : List V := [fI p.t.n, .d (opsD p.t.ops), .d (rowI p.t.out), .d (ivD p.box), .d (rowD p.y), fI p.fin, fI p.first, fI p.least, fl p.atol, fl p.rtol, fl p.cap, fI p.most, .d (rowI p.outs),
 fI r.s.n.pos, fI r.s.n.step, fI r.s.n.order, fI r.s.n.method, .d (g6 r.s.n.z), fI r.s.good, fI r.s.fails, fI r.s.slow, .d (rowD r.last), fl r.bound, fI r.att, fI r.next, o]
abbrev endC : List V := [.nil, fI 0, fI 0, fI 0, fI 0, fI 0, .nil, fI 0, fI 0, fI 0, .nil, fl 0, fI 0, fI 0]
theorem LeT.onlyN {N : Nat -> Prop} {nt : Nat} (k : Nat -> Bool) {sls : Sl} {L L' : Heap} (hN : ∀ X, N X -> k X = true) (hL : (L.filter λp => k p.1) = L') (hs : KpS L' sls) (hc : KpH L' L') : Le N (T.s nt ⟨sls, L⟩) (T.s nt ⟨sls, L'⟩) := by
 have hg : ∀ X r, k X = true -> L'.get X r = L.get X r := by
  intro X r hk
  subst hL
  unfold Heap.get
  rw [V9, if_pos hk]
 have hlook : ∀ i, LeV L L' (λX q => (X, q)) (look sls i) (look sls i) := by
  intro i
  have hs' : ∀ p ∈ sls, Kp L' p.2 := hs
  clear hs
  induction sls with
  | nil => exact .any _
  | cons p tl ih =>
   obtain ⟨k, v⟩ := p
   simp only [look]
   split
   ·exact hs' (k, v) (by simp) L
   ·exact ih λp hp => hs' p (by simp [hp])
 refine Le.of_wk (λX q => (X, q)) ⟨rfl, λi hi => ?_, λX r c hX => ⟨c, ?_, rfl, λj hj => ?_⟩, λX r Y q _ _ e => by simpa using e, λX r h hx => ⟨rfl, by show L'.get X r ≠ none; rw [hg X r (hN X h)]; exact hx⟩⟩
 ·simp only [T.s] at hi ⊢
  rw [y9] at hi
  rw [z2 _ hi]
  exact hlook i
 ·have hX : L'.get X r = some c := hX
  show L.get X r = some c
  subst hL
  unfold Heap.get at hX ⊢
  rw [V9] at hX
  split at hX
  ·exact hX
  ·cases hX
 ·obtain ⟨p, hp, hcp⟩ := V7 hX
  exact KpA.at (hc p hp c hcp) _ j
theorem a1X {L : Heap} {l : List Ou} (h : L.fam 100 = some (osF l)) : Kp L (osV l) := by
 by_cases e : l = []
 ·subst e; exact b8n
 ·rw [b2x e]
  rw [b2y e] at h
  exact λ_ => .sl (by unfold Heap.get; rw [h]; simp) rfl
theorem b4J {L : Heap} (o : Ou) : KpA L (ouC o) := by
 unfold ouC
 simp only [G5]
 exact ⟨Kp_d _, Kp_d _, Kp_d _, a0x⟩
theorem a6r {L : Heap} (l : List Ou) : KpA L (ousC l) := λv hv => by
 obtain ⟨o, _, ho⟩ := List.mem_flatMap.1 hv
 exact b4J o v ho
theorem T4 {L : Heap} (l : List Ou) : KpF L (osF l) := λc hc => by
 unfold osF at hc
 split at hc
 ·simp at hc
 ·obtain rfl := List.mem_singleton.1 hc
  exact a6r l
def nmN (ns : List Nat) (X : Nat) : Prop := X ∈ ns
theorem c2X {ns : List Nat} {L : Heap} (h : ∀ X, X ∉ ns -> L.fam X = none) (X q : Nat) (hX : L.get X q ≠ none) : nmN ns X := by
 by_cases e : X ∈ ns
 ·exact e
 ·unfold Heap.get at hX; rw [h X e] at hX; exact absurd rfl hX
theorem b5M {ns : List Nat} {X k : Nat} (h : nmN ns X) (hk : k ∉ ns) : (X != k) = true := by
 have : X ≠ k := λe => hk (e ▸ h)
 simpa using this
theorem b0p (l : List Int) (a b : Nat) : (l.drop a).getD b 0 = l.getD (a + b) 0 := by
 simp [d2d, List.getElem?_drop]
theorem b9c (p : Pb) (r : Rn) (i : Nat) (hi : i <= (t7 p r).length) : i < (t7 p r).length ↔ r.s.n.pos = 0 /\ r.next + i < p.outs.length /\ p.outs.getD (r.next + i) 0 = 0 := by
 unfold t7 at hi ⊢
 by_cases h : r.s.n.pos = 0
 ·rw [if_pos h] at hi ⊢
  rw [List.length_map] at hi ⊢
  have := a7N (p.outs.drop r.next) i hi
  rw [this, List.length_drop, b0p, decide_eq_true_eq]
  exact ⟨λ⟨a, b⟩ => ⟨h, by omega, b⟩, λ⟨_, a, b⟩ => ⟨by omega, b⟩⟩
 ·rw [if_neg h] at hi ⊢
  exact ⟨λe => by simp at e, λe => absurd e.1 h⟩
theorem b0k (p : Pb) (r : Rn) : (t7 p r).length <= p.outs.length := by
 unfold t7
 split
 ·rw [List.length_map]
  have h1 := (List.takeWhile_prefix (l := p.outs.drop r.next) λa => decide (a = 0)).length_le
  rw [List.length_drop] at h1
  omega
 ·simp
theorem b2J (p : Pb) (r : Rn) (i : Nat) (hi : i < (t7 p r).length) : (t7 p r).take (i + 1) = (t7 p r).take i ++ [⟨0, p.y, 0⟩] := by
 have e : ∀ o ∈ t7 p r, o = ⟨0, p.y, 0⟩ := by
  intro o ho
  unfold t7 at ho
  split at ho
  ·obtain ⟨x, _, rfl⟩ := List.mem_map.1 ho; rfl
  ·simp at ho
 rw [List.take_add_one, d2f hi, e _ (List.getElem_mem hi)]; rfl
theorem b5Z (p : Pb) (r : Rn) (q : Rn) (hr : r.next <= p.outs.length) (ho : p.outs.length < 2 ^ 40) (hy : 0 < p.y.length /\ p.y.length < 2 ^ 40) :
  AC Tryz.prog 53 [.ptr 7 0 0 26] [(7, [slC p r .nil]), (2, [endC]), (1, [rnC q]), (0, [pbC p])]
   [(100, osF (t7 p r)), (7, [slC p ⟨r.s, r.last, r.bound, r.att, r.next + (t7 p r).length⟩ (osV (t7 p r))]), (2, [endC]), (1, [rnC q]), (0, [pbC p])] (.tup []) := by
 refine k9 a1R rfl f5 (nmN [7, 2, 1, 0]) (c2X λX h => ?_) ?_
 ·simp only [List.mem_cons, List.not_mem_nil, or_false, not_or] at h
  simp only [d6, d9]
  rw [if_neg h.1, if_neg h.2.1, if_neg h.2.2.1, if_neg h.2.2.2]
 refine evx @a0k.eq_1 ?_
 refine j5 (n := (t7 p r).length) (λc t => ∃ i : Nat, c + i = (t7 p r).length /\ t = ⟨[(0, .ptr 7 0 0 26)], [(100, osF ((t7 p r).take i)), (7, [slC p ⟨r.s, r.last, r.bound, r.att, r.next + i⟩ (osV ((t7 p r).take i))]), (2, [endC]), (1, [rnC q]), (0, [pbC p])]⟩) (s0 := ⟨_, _⟩)
  (LeT.empty (X := 100) (L1 := []) (by simp [d6, d9])) ⟨0, by omega, rfl⟩ ?_
 rintro c t ⟨i, hi, rfl⟩
 refine evx @Q9.eq_1 ?_
 have hat := b9c p r i (by omega)
 have hlt : ((t7 p r).take i).length = i := by rw [List.length_take]; omega
 have htk := b2J p r i
 generalize hl : t7 p r = T at hat hlt htk hi
 have done : ¬ i < T.length -> i = T.length := λh => by omega
 by_cases c1' : r.s.n.pos = 0
 ·have c1b : (r.s.n.pos == 0) = true := by simpa using c1'
  rw [c1b]
  refine ev ?_
  by_cases c2 : r.next + i < p.outs.length
  ·have c2b : decide (r.next + i < p.outs.length) = true := decide_eq_true c2
   refine evx c2b ?_
   refine ⟨c2, ?_⟩
   by_cases c3 : p.outs.getD (r.next + i) 0 = 0
   ·have c3b : (p.outs.getD (r.next + i) 0 == 0) = true := by simpa using c3
    refine evx c3b ?_
    have hi1 := hat.2 ⟨c1', c2, c3⟩
    have hT := htk hi1
    have hlen : T.length <= p.outs.length := by rw [<- hl]; exact b0k p r
    have wi : IntKind.i64.wrap (((r.next + i : Nat) : Int) + 1) = ((r.next + (i + 1) : Nat) : Int) := by rw [f0 (by omega) (by omega)]; omega
    have hfin : osF (T.take (i + 1)) = [ousC (T.take i) ++ [fI 0, .d (rowD p.y), fl 0]] := by
     rw [hT, b2y (by simp), <- b8P]; rfl
    have hfv : osV (T.take (i + 1)) = .sl 100 0 0 (i + 1) 3 ((i + 1) * 3) := by
     rw [hT, b2x (by simp), List.length_append, hlt]; rfl
    refine d5 (W8 p.y hy.1 hy.2) rfl ?_
    by_cases h0 : i = 0
    ·subst h0
     rw [List.take_zero, b7z, b7y] at *
     have wi0 : IntKind.i64.wrap ((r.next : Int) + 1) = ((r.next + (0 + 1) : Nat) : Int) := by rw [f0 (by omega) (by omega)]; omega
     refine evx wi0 ?_
     refine ⟨c - 1, ⟨[(0, .ptr 7 0 0 26)], [(100, osF (T.take (0 + 1))), (7, [slC p ⟨r.s, r.last, r.bound, r.att, r.next + (0 + 1)⟩ (osV (T.take (0 + 1)))]), (2, [endC]), (1, [rnC q]), (0, [pbC p])]⟩, by omega, ?_, 0 + 1, by omega, rfl⟩
     have e2 := LeT.absorb (N := nmN [7, 2, 1, 0]) (nt := 64) (sls := [(0, .ptr 7 0 0 26)]) (Y := 114) (X := 100) (cells := [fI 0, .d (rowD p.y), fl 0]) (fam := []) (L := [(7, [slC p ⟨r.s, r.last, r.bound, r.att, r.next + (0 + 1)⟩ (.sl 114 0 0 1 3 3)]), (2, [endC]), (1, [rnC q]), (0, [pbC p])]) (by decide) rfl rfl (λh => by revert h; unfold nmN; decide)
     refine Le.trans (b := Go.Ab.T.s 64 ⟨[(0, .ptr 7 0 0 26)], [(114, [[fI 0, .d (rowD p.y), fl 0]]), (100, []), (7, [slC p ⟨r.s, r.last, r.bound, r.att, r.next + (0 + 1)⟩ (.sl 114 0 0 1 3 3)]), (2, [endC]), (1, [rnC q]), (0, [pbC p])]⟩) ?_ ?_
     ·exact LeT.onlyN (λX => X != 113) (λX hX => b5M (ns := [7, 2, 1, 0]) hX (by decide)) rfl (by simp [kpS]) (by simp [kpS])
     ·rw [hfin, hfv]
      exact e2
    ·have hne : T.take i ≠ [] := by
      intro e; rw [e] at hlt; simp at hlt; omega
     have hol := b3Q (T.take i)
     rw [hlt] at hol
     rw [b2y hne, b2x hne, hlt]
     refine evx wi ?_
     refine ⟨⟨hol, by omega⟩, c - 1, ⟨[(0, .ptr 7 0 0 26)], [(100, osF (T.take (i + 1))), (7, [slC p ⟨r.s, r.last, r.bound, r.att, r.next + (i + 1)⟩ (osV (T.take (i + 1)))]), (2, [endC]), (1, [rnC q]), (0, [pbC p])]⟩, by omega, ?_, i + 1, by omega, rfl⟩
     rw [hfin, hfv, show (i + 1) * 3 = i * 3 + 3 by omega]
     exact LeT.onlyN (λX => X != 113) (λX hX => b5M (ns := [7, 2, 1, 0]) hX (by decide)) rfl (by simp [kpS]) (by simp (maxDischargeDepth := 6) [kpS, d6, d9, a6r])
   ·have c3b : (p.outs.getD (r.next + i) 0 == 0) = false := by simpa using c3
    refine evx c3b ?_
    have := done (λh => c3 (hat.1 h).2.2)
    subst this
    rw [List.take_length]
    exact m7 (λ_ => true) (λ_ _ => rfl) rfl (by simp) (by simp [kpS]) (by simp (maxDischargeDepth := 6) [kpS, d6, d9, T4, a1X])
  ·have c2b : decide (r.next + i < p.outs.length) = false := decide_eq_false c2
   refine evx c2b ?_
   have := done (λh => c2 (hat.1 h).2.1)
   subst this
   rw [List.take_length]
   exact m7 (λ_ => true) (λ_ _ => rfl) rfl (by simp) (by simp [kpS]) (by simp (maxDischargeDepth := 6) [kpS, d6, d9, T4, a1X])
 ·have c1b : (r.s.n.pos == 0) = false := by simpa using c1'
  rw [c1b]
  refine ev ?_
  have := done (λh => c1' (hat.1 h).1)
  subst this
  rw [List.take_length]
  exact m7 (λ_ => true) (λ_ _ => rfl) rfl (by simp) (by simp [kpS]) (by simp (maxDischargeDepth := 6) [kpS, d6, d9, T4, a1X])
def F5 : CA := (.seq (.reg [i_N 0 82 .lss 81 80] [0, 2, 4, 7, 8, 79, 80, 81, 82]) (.seq (.cond (.t 82) .skip (.exit 2)) (.seq (.block 3 (.seq (.reg [i_M 0 83 81, i_I 1 84 79 81 1, i_L 2 85 84 1, i_M 3 9 83, i_M 4 10 85] [0, 2, 4, 7, 8, 9, 10, 79, 80, 81]) (.seq (.reg [i_M 0 86 2, i_P 1 87 4 4, i_L 2 88 87 1, i_M 3 89 9, i_M 4 90 7, i_M 5 91 10, i_X 6 92 (.callA (kF 155) [(.t 88), (.t 89), (.t 90), (.t 91)]), i_F 7 93 .add 86 92, i_X 8 94 (.callA (kF 148) [(.t 93)]), i_M 9 11 94] [0, 2, 4, 7, 8, 9, 11, 79, 80, 81]) (.seq (.reg [i_M 0 95 9, i_B 1 96 .eql 95 0, i_M 2 97 96, g_F 3 98 97 (.h (.mov (.t 11))), g_F 4 99 97 (.h (.padd (.t 8) 2)), g_F 5 100 97 (.load (.t 99) 1 false), g_F 6 101 97 (.h (.fcmp .gt (.t 98) (.t 100))), i_X 7 102 (.h (.pick (.t 97) (.k (.d (.bool true))) (.t 101)))] [0, 2, 4, 7, 8, 11, 79, 80, 81, 102]) (.cond (.t 102) (.reg [i_M 0 103 11, i_P 1 104 8 2, i_S 2 104 103 1] [0, 2, 4, 7, 8, 79, 80, 81]) .skip))))) (.reg [i_B 0 105 .add 81 1, i_M 1 81 105] [0, 2, 4, 7, 8, 79, 80, 81]))))
def T9 : CA := (.seq (.seq (.reg [i_M 0 12 0, i_X 1 13 (.h (.nilck (.t 12))), i_P 2 14 13 13, i_P 3 15 14 11, i_L 4 16 15 1, i_M 5 17 0, i_X 6 18 (.h (.nilck (.t 17))), i_P 7 19 18 0, i_P 8 20 19 12, i_L 9 21 20 1, i_X 10 22 (.h (.len (.t 21))), i_N 11 23 .lss 16 22, i_M 12 24 23, g_T 13 25 24 (.h (.mov (.t 0))), g_T 14 26 24 (.h (.nilck (.t 25))), g_T 15 27 24 (.h (.padd (.t 26) 0)), g_T 16 28 24 (.h (.padd (.t 27) 12)), g_T 17 29 24 (.load (.t 28) 1 false), g_T 18 30 24 (.h (.mov (.t 0))), g_T 19 31 24 (.h (.nilck (.t 30))), g_T 20 32 24 (.h (.padd (.t 31) 13)), g_T 21 33 24 (.h (.padd (.t 32) 11)), g_T 22 34 24 (.load (.t 33) 1 false), g_T 23 35 24 (.h (.idx (.t 29) (.t 34) 1)), g_T 24 36 24 (.load (.t 35) 1 false), g_T 25 37 24 (.h (.padd (.t 4) 0)), g_T 26 38 24 (.load (.t 37) 1 false), g_T 27 39 24 (.h (.ibin .leq (.t 36) (.t 38))), i_X 28 40 (.h (.pick (.t 24) (.t 39) (.k (.d (.bool false)))))] [0, 2, 4, 40]) (.cond (.t 40) .skip (.exit 0))) (.seq (.block 1 (.seq (.reg [i_M 0 50 0, i_X 1 51 (.h (.nilck (.t 50))), i_P 2 52 51 0, i_P 3 53 52 12, i_L 4 54 53 1, i_M 5 55 0, i_X 6 56 (.h (.nilck (.t 55))), i_P 7 57 56 13, i_P 8 58 57 11, i_L 9 59 58 1, i_I 10 60 54 59 1, i_L 11 61 60 1, i_M 12 6 61] [0, 2, 4, 6]) (.seq (.reg [i_M 0 62 6, i_P 1 63 4 0, i_L 2 64 63 1, i_N 3 65 .sub 62 64, i_X 4 66 (.h (.i2f (.t 65))), i_P 5 67 4 1, i_L 6 68 67 1, i_X 7 69 (.h (.i2f (.t 68))), i_F 8 70 .div 66 69, i_M 9 7 70] [0, 2, 4, 6, 7]) (.seq (.reg [i_M 0 71 6, i_P 1 72 4 4, i_L 2 73 72 1, i_M 3 74 7, i_X 4 75 (.callA (kF 154) [(.t 73), (.t 74)]), i_X 5 76 (.callA (kF 57) [(.t 75)]), i_X 6 77 (.h (.build [fI 0, .nil, fl 0] [(0, (1, (.t 71))), (1, (1, (.t 76)))])), i_X 7 8 (.alloc [fI 0, .nil, fl 0] 67), i_S 8 8 77 3] [0, 2, 4, 7, 8]) (.seq (.seq (.reg [i_P 0 78 8 1, i_L 1 79 78 1, i_X 2 80 (.h (.len (.t 79))), i_K 3 81 0] [0, 2, 4, 7, 8, 79, 80, 81]) (.block 2 (.loop F5))) (.reg [i_M 0 106 0, i_M 1 107 0, i_X 2 108 (.h (.nilck (.t 107))), i_P 3 109 108 25, i_L 4 110 109 1, i_A 5 111 8 3, i_X 6 112 (.bslice [fI 0, .nil, fl 0] 1 3 [(0, (3, (.t 111)))] 67), i_X 7 113 (.app (.t 110) (.t 112) 3 40), i_X 8 114 (.h (.nilck (.t 106))), i_P 9 115 114 25, i_S 10 115 113 1] [0, 2, 4])))))) (.reg [i_M 0 41 0, i_X 1 42 (.h (.nilck (.t 41))), i_P 2 43 42 13, i_P 3 44 43 11, i_L 4 45 44 1, i_B 5 46 .add 45 1, i_X 6 47 (.h (.nilck (.t 41))), i_P 7 48 47 13, i_P 8 49 48 11, i_S 9 49 46 1] [0, 2, 4])))
def a06 : CA := (.seq (.reg [i_X 0 4 (.box (.t 1) 5 40)] [0, 2, 4]) (.block 0 (.loop T9)))
theorem a18 : f7 Tryz.prog 95 = some ⟨116, [], a06.strip⟩ := by kernel_rfl
theorem b3s (p : Pb) (v : Nd) (b k i : Nat) (hi : i <= (A3 p v b k).length) : i < (A3 p v b k).length ↔ k + i < p.outs.length /\ p.outs.getD (k + i) 0 <= v.pos := by
 unfold A3 a9K at hi ⊢
 rw [List.length_map] at hi ⊢
 have := a7N (p.outs.drop k) i hi
 rw [this, List.length_drop, b0p, decide_eq_true_eq]
 exact ⟨λ⟨a, b⟩ => ⟨by omega, b⟩, λ⟨a, b⟩ => ⟨by omega, b⟩⟩
theorem b48 (p : Pb) (v : Nd) (b k i : Nat) (hi : i < (A3 p v b k).length) : (A3 p v b k).take (i + 1) = (A3 p v b k).take i ++ [outP v p.t.n b (p.outs.getD (k + i) 0)] := by
 have h1 : i < (a9K p.outs v.pos k).length := by unfold A3 at hi; rwa [List.length_map] at hi
 have h2 : (a9K p.outs v.pos k).getD i 0 = p.outs.getD (k + i) 0 := by
  unfold a9K at h1 ⊢
  rw [b3u _ _ h1, b0p]
 have h3 : (A3 p v b k)[i]? = some (outP v p.t.n b (p.outs.getD (k + i) 0)) := by
  unfold A3
  rw [List.getElem?_map, d2f h1]
  rw [d2d, d2f h1] at h2
  simp only [Option.getD_some] at h2
  rw [<- h2]; rfl
 rw [List.take_add_one, h3]; rfl
theorem c44 (p : Pb) (v : Nd) (b k : Nat) (hk : k <= p.outs.length) : k + (A3 p v b k).length <= p.outs.length := by
 unfold A3
 rw [List.length_map]
 rcases b2v p.outs v.pos k with h | h
 ·exact h
 ·omega
def b8f (f : Nat -> Nat) (j : Nat) : Nat := if j = 0 then 0 else A5 f (j - 1)
theorem c7U (N : Nat -> Prop) (q n : Nat) (v : Nd) (s b : Nat) (a : Int) (hz : Rk (q + 1) n v.z) (hq : q < 1000) (hn0 : 0 < n) (hn : n < 2 ^ 40) (H : Heap) (w : List V) (c2 : List V) (c3 : List V) (F : List (List V)) (c4 : List V) (c5 : List V) (Q : Ex -> T -> Prop)
  (hQ : ∀ w8, Q (.exit 2) ⟨[(0, .ptr 7 0 0 26), (2, fl b), (4, .ptr 133 0 0 5), (7, fl s), (8, .ptr 141 0 0 3), (79, .d (rowD (atP v.z q n s))), (80, fI (atP v.z q n s).length), (81, fI n), (82, w8)], [(141, [[fI a, .d (rowD (atP v.z q n s)), fl (A5 (outB v n s b) (n - 1))]]), (133, [ndC v]), (132, [c2]), (111, [c3]), (100, F), (7, [w]), (2, [c4]), (0, [c5])]⟩) (hq2 : v.z.length - 1 = q) :
  WA Tryz.prog N 116 (.loop F5) Q ⟨[(0, .ptr 7 0 0 26), (2, fl b), (4, .ptr 133 0 0 5), (7, fl s), (8, .ptr 141 0 0 3), (79, .d (rowD (atP v.z q n s))), (80, fI (atP v.z q n s).length), (81, fI 0)], [(141, [[fI a, .d (rowD (atP v.z q n s)), fl 0]]), (133, [ndC v]), (132, [c2]), (111, [c3]), (100, F), (7, [w]), (2, [c4]), (0, [c5])]⟩ := by
 refine r5 (n := n) (λk t => ∃ j : Nat, k + j = n /\ t = ⟨[(0, .ptr 7 0 0 26), (2, fl b), (4, .ptr 133 0 0 5), (7, fl s), (8, .ptr 141 0 0 3), (79, .d (rowD (atP v.z q n s))), (80, fI (atP v.z q n s).length), (81, fI j)], [(141, [[fI a, .d (rowD (atP v.z q n s)), fl (b8f (outB v n s b) j)]]), (133, [ndC v]), (132, [c2]), (111, [c3]), (100, F), (7, [w]), (2, [c4]), (0, [c5])]⟩) ⟨0, by omega, rfl⟩ ?_
 rintro k t ⟨j, hj, rfl⟩
 have hl : (atP v.z q n s).length = n := k8 _ _
 refine evx @F5.eq_1 ?_
 refine b9 (λh => ?_) (λh => ?_)
 ·replace h := d2b h
  rw [hl] at h
  have gj : (rowV (atP v.z q n s)).getD j .any = fl ((atP v.z q n s).getD j 0) := j8 _ _ (by rw [hl]; exact h)
  have wj : IntKind.i64.wrap ((j : Int) + 1) = ((j + 1 : Nat) : Int) := by rw [f0 (by omega) (by omega)]; omega
  refine evx gj ?_
  refine ⟨by rw [hl]; exact h, ?_⟩
  refine a0 (b7R v.z q n j s ((atP v.z q n s).getD j 0) hz hq h hn) rfl ?_
  refine ev ?_
  refine a0 (F6 (fop .add b (offP v.z j s ((atP v.z q n s).getD j 0)))) rfl ?_
  have eo : up (fop .add b (offP v.z j s ((atP v.z q n s).getD j 0))) = outB v n s b j := by unfold outB atN; rw [hq2]
  rw [eo]
  refine ev ?_
  by_cases h0 : j = 0
  ·have h0b : ((j : Int) == 0) = true := by subst h0; rfl
   refine evx (And.intro h0b wj) ?_
   exact ⟨k - 1, by omega, j + 1, by omega, by subst h0; rfl⟩
  ·have h0b : ((j : Int) == 0) = false := by simp; omega
   refine evx h0b ?_
   obtain ⟨i, rfl⟩ : ∃ i, j = i + 1 := ⟨j - 1, by omega⟩
   have eb : b8f (outB v n s b) (i + 1 + 1) = if fcmp .gt (outB v n s b (i + 1)) (b8f (outB v n s b) (i + 1)) = true then outB v n s b (i + 1) else b8f (outB v n s b) (i + 1) := rfl
   cases hg : fcmp .gt (outB v n s b (i + 1)) (b8f (outB v n s b) (i + 1))
   ·refine evx wj ?_
    refine ⟨k - 1, by omega, i + 1 + 1, by omega, ?_⟩
    rw [eb, hg]; rfl
   ·refine evx wj ?_
    refine ⟨k - 1, by omega, i + 1 + 1, by omega, ?_⟩
    rw [eb, hg]; rfl
 ·replace h := d2c h
  rw [hl] at h
  refine ev ?_
  have e : j = n := by omega
  subst e
  have e2 : b8f (outB v j s b) j = A5 (outB v j s b) (j - 1) := by unfold b8f; rw [if_neg (by omega)]
  rw [<- e2] at hQ
  exact hQ _
theorem LeT.permN {N : Nat -> Prop} {nt : Nat} {sls : Sl} {L L' : Heap} (hL : ∀ X, L'.fam X = L.fam X) (hs : KpS L' sls) (hc : KpH L' L') : Le N (T.s nt ⟨sls, L⟩) (T.s nt ⟨sls, L'⟩) := by
 have hg : ∀ X r, L'.get X r = L.get X r := λX r => by unfold Heap.get; rw [hL]
 have hlook : ∀ i, LeV L L' (λX q => (X, q)) (look sls i) (look sls i) := by
  intro i
  have hs' : ∀ p ∈ sls, Kp L' p.2 := hs
  clear hs
  induction sls with
  | nil => exact .any _
  | cons p tl ih =>
   obtain ⟨k, v⟩ := p
   simp only [look]
   split
   ·exact hs' (k, v) (by simp) L
   ·exact ih λp hp => hs' p (by simp [hp])
 refine Le.of_wk (λX q => (X, q)) ⟨rfl, λi hi => ?_, λX r c hX => ⟨c, ?_, rfl, λj hj => ?_⟩, λX r Y q _ _ e => by simpa using e, λX r h hx => ⟨rfl, by show L'.get X r ≠ none; rw [hg X r]; exact hx⟩⟩
 ·simp only [T.s] at hi ⊢
  rw [y9] at hi
  rw [z2 _ hi]
  exact hlook i
 ·have hX : L'.get X r = some c := hX
  show L.get X r = some c
  rw [<- hg]; exact hX
 ·obtain ⟨p, hp, hcp⟩ := V7 hX
  exact KpA.at (hc p hp c hcp) _ j
def nmT : List Nat := [132, 111, 100, 7, 2, 0]
theorem c2P (l : List Ou) (o : Ou) : osF (l ++ [o]) = [ousC l ++ ouC o] := by rw [b2y (by simp), b8P]
theorem c2N (l : List Ou) (o : Ou) : osV (l ++ [o]) = .sl 100 0 0 (l.length + 1) 3 (l.length * 3 + 3) := by
 rw [b2x (by simp), List.length_append]
 rw [show (l.length + [o].length) = l.length + 1 from rfl, show (l.length + 1) * 3 = l.length * 3 + 3 by omega]
abbrev trC (s : Sta) (v : Nd) (er : Nat) : List V := [fI s.n.pos, fI s.n.step, fI s.n.order, fI s.n.method, .d (g6 s.n.z), fI s.good, fI s.fails, fI s.slow, fI v.pos, fI v.step, fI v.order, fI v.method, .d (g6 v.z), fB true, fl er, fI 0]
abbrev bndC (b : Bnd) : List V := [fl b.jump, fl b.defect, fl b.norm, fl b.growth, fl b.bound]
theorem b7P (p : Pb) (r : Rn) (l : List Ou) (v : Nd) (b q : Nat) (B : Bnd) (s2 : Sta) (er : Nat) (hz : Rk (q + 1) p.t.n v.z) (hq : q < 1000) (hn0 : 0 < p.t.n) (hn : p.t.n < 2 ^ 40) (hr : r.next <= p.outs.length) (ho : p.outs.length < 2 ^ 39) (hl : l.length < 2 ^ 39)
  (hpos : 0 <= v.pos /\ v.pos < 2 ^ 61) (houts : ∀ i, i < p.outs.length -> 0 <= p.outs.getD i 0 /\ p.outs.getD i 0 < 2 ^ 61) :
  AC Tryz.prog 95 [.ptr 7 0 0 26, ndV v, fl b] [(132, [bndC B]), (111, [trC s2 v er]), (100, osF l), (7, [slC p r (osV l)]), (2, [endC]), (0, [pbC p])]
   [(132, [bndC B]), (111, [trC s2 v er]), (100, osF (l ++ A3 p v b r.next)), (7, [slC p ⟨r.s, r.last, r.bound, r.att, r.next + (A3 p v b r.next).length⟩ (osV (l ++ A3 p v b r.next))]), (2, [endC]), (0, [pbC p])] (.tup []) := by
 refine k9 a18 rfl f5 (nmN nmT) (c2X λX h => ?_) ?_
 ·unfold nmT at h
  simp only [List.mem_cons, List.not_mem_nil, or_false, not_or] at h
  simp only [d6, d9]
  rw [if_neg h.1, if_neg h.2.1, if_neg h.2.2.1, if_neg h.2.2.2.1, if_neg h.2.2.2.2.1, if_neg h.2.2.2.2.2]
 refine evx @a06.eq_1 ?_
 have hq2 : v.z.length - 1 = q := by have := hz.1; omega
 have hTl := c44 p v b r.next hr
 have hat := λi hi => b3s p v b r.next i hi
 have htk := λi hi => b48 p v b r.next i hi
 refine j5 (n := (A3 p v b r.next).length) (λc t => ∃ i : Nat, c + i = (A3 p v b r.next).length /\ t = ⟨[(0, .ptr 7 0 0 26), (2, fl b), (4, .ptr 133 0 0 5)], [(133, [ndC v]), (132, [bndC B]), (111, [trC s2 v er]), (100, osF (l ++ (A3 p v b r.next).take i)), (7, [slC p ⟨r.s, r.last, r.bound, r.att, r.next + i⟩ (osV (l ++ (A3 p v b r.next).take i))]), (2, [endC]), (0, [pbC p])]⟩)
  (Le.refl _) ⟨0, by omega, by rw [List.take_zero, List.append_nil]; rfl⟩ ?_
 rintro c t ⟨i, hi, rfl⟩
 have hat := hat i (by omega)
 have htk := htk i
 generalize hTT : A3 p v b r.next = TT at hat htk hi hTl
 have hlt : (TT.take i).length = i := by rw [List.length_take]; omega
 have done : ¬ i < TT.length -> i = TT.length := λh => by omega
 refine evx @T9.eq_1 ?_
 by_cases c2 : r.next + i < p.outs.length
 ·have c2b : decide (r.next + i < p.outs.length) = true := decide_eq_true c2
  refine evx c2b ?_
  refine ⟨c2, ?_⟩
  by_cases c3 : p.outs.getD (r.next + i) 0 <= v.pos
  ·have c3b : decide (p.outs.getD (r.next + i) 0 <= v.pos) = true := decide_eq_true c3
   have hou := houts _ c2
   have ws : IntKind.i64.wrap (p.outs.getD (r.next + i) 0 - v.pos) = p.outs.getD (r.next + i) 0 - v.pos := f0 (by omega) (by omega)
   refine evx (And.intro c3b ws) ?_
   refine ⟨c2, ?_⟩
   have hi1 := hat.2 ⟨c2, c3⟩
   have hT := htk hi1
   have esp : fop .div (FloatKind.nearest .f64 (p.outs.getD (r.next + i) 0 - v.pos)) (FloatKind.nearest .f64 v.step) = sP v (p.outs.getD (r.next + i) 0) := rfl
   rw [esp]
   have hay : (atP v.z q p.t.n (sP v (p.outs.getD (r.next + i) 0))).length = p.t.n := k8 _ _
   have eout : outP v p.t.n b (p.outs.getD (r.next + i) 0) = ⟨p.outs.getD (r.next + i) 0, atP v.z q p.t.n (sP v (p.outs.getD (r.next + i) 0)), A5 (outB v p.t.n (sP v (p.outs.getD (r.next + i) 0)) b) (p.t.n - 1)⟩ := by unfold outP atN; rw [hq2]
   generalize sP v (p.outs.getD (r.next + i) 0) = s at hay eout ⊢
   generalize p.outs.getD (r.next + i) 0 = a at eout hT ⊢
   refine a0 (b7B v.z q p.t.n s hz hq hn0 hn) rfl ?_
   refine ev ?_
   refine a0 (W8 (atP v.z q p.t.n s) (by omega) (by omega)) rfl ?_
   refine ev ?_
   refine c7U _ q p.t.n v s b a hz hq hn0 hn [] _ _ _ _ _ _ _ (λw8 => ?_) hq2
   rw [eout] at hT
   generalize A5 (outB v p.t.n s b) (p.t.n - 1) = bo at hT ⊢
   generalize atP v.z q p.t.n s = yo at hay hT ⊢
   have hLL : l ++ TT.take (i + 1) = (l ++ TT.take i) ++ [⟨a, yo, bo⟩] := by rw [hT, List.append_assoc]
   have hLl : (l ++ TT.take i).length < 2 ^ 40 := by rw [List.length_append, hlt]; omega
   have wi : IntKind.i64.wrap (((r.next + i : Nat) : Int) + 1) = ((r.next + (i + 1) : Nat) : Int) := by rw [f0 (by omega) (by omega)]; omega
   rw [<- Nat.add_assoc] at wi
   generalize l ++ TT.take i = LL at hLL hLl
   by_cases h0 : LL = []
   ·subst h0
    rw [b7z, b7y]
    refine evx wi ?_
    refine ⟨c - 1, ⟨[(0, .ptr 7 0 0 26), (2, fl b), (4, .ptr 133 0 0 5)], [(133, [ndC v]), (132, [bndC B]), (111, [trC s2 v er]), (100, osF (l ++ TT.take (i + 1))), (7, [slC p ⟨r.s, r.last, r.bound, r.att, r.next + (i + 1)⟩ (osV (l ++ TT.take (i + 1)))]), (2, [endC]), (0, [pbC p])]⟩, by omega, ?_, i + 1, by omega, rfl⟩
    rw [hLL, c2P, c2N]
    refine Le.trans (b := Go.Ab.T.s 116 ⟨[(0, .ptr 7 0 0 26), (2, fl b), (4, .ptr 133 0 0 5)], [(149, [[fI a, .d (rowD yo), fl bo]]), (133, [ndC v]), (132, [bndC B]), (111, [trC s2 v er]), (100, []), (7, [slC p ⟨r.s, r.last, r.bound, r.att, r.next + (i + 1)⟩ (.sl 149 0 0 1 3 3)]), (2, [endC]), (0, [pbC p])]⟩) ?_ ?_
    ·exact LeT.onlyN (λX => X != 148 && X != 141) (λX hX => by rw [b5M hX (by decide), b5M hX (by decide)]; rfl) rfl (by simp [kpS]) (by simp [kpS])
    refine Le.trans (b := Go.Ab.T.s 116 ⟨[(0, .ptr 7 0 0 26), (2, fl b), (4, .ptr 133 0 0 5)], [(149, [[fI a, .d (rowD yo), fl bo]]), (100, []), (133, [ndC v]), (132, [bndC B]), (111, [trC s2 v er]), (7, [slC p ⟨r.s, r.last, r.bound, r.att, r.next + (i + 1)⟩ (.sl 149 0 0 1 3 3)]), (2, [endC]), (0, [pbC p])]⟩) ?_ ?_
    ·exact LeT.permN (λX => by by_cases h : X = 100 <;> simp [d6, h]) (by simp [kpS]) (by simp [kpS])
    refine Le.trans (LeT.absorb (Y := 149) (X := 100) (fam := []) (by decide) rfl rfl (λh => by revert h; unfold nmN; decide)) ?_
    exact LeT.permN (sls := [(0, .ptr 7 0 0 26), (2, fl b), (4, .ptr 133 0 0 5)]) (L := [(100, [[fI a, .d (rowD yo), fl bo]]), (133, [ndC v]), (132, [bndC B]), (111, [trC s2 v er]), (7, [slC p ⟨r.s, r.last, r.bound, r.att, r.next + (i + 1)⟩ (.sl 100 0 0 1 3 3)]), (2, [endC]), (0, [pbC p])]) (λX => by by_cases h : X = 100 <;> simp [d6, h, ousC, ouC]) (by simp (maxDischargeDepth := 6) [kpS, d6, d9, a6r, b4J]) (by simp (maxDischargeDepth := 6) [kpS, d6, d9, a6r, b4J])
   ·have hol := b3Q LL
    rw [b2y h0, b2x h0]
    refine evx wi ?_
    refine ⟨⟨hol, by omega⟩, c - 1, ⟨[(0, .ptr 7 0 0 26), (2, fl b), (4, .ptr 133 0 0 5)], [(133, [ndC v]), (132, [bndC B]), (111, [trC s2 v er]), (100, osF (l ++ TT.take (i + 1))), (7, [slC p ⟨r.s, r.last, r.bound, r.att, r.next + (i + 1)⟩ (osV (l ++ TT.take (i + 1)))]), (2, [endC]), (0, [pbC p])]⟩, by omega, ?_, i + 1, by omega, rfl⟩
    rw [hLL, c2P, c2N]
    exact LeT.onlyN (λX => X != 148 && X != 141) (λX hX => by rw [b5M hX (by decide), b5M hX (by decide)]; rfl) rfl (by simp [kpS]) (by simp (maxDischargeDepth := 6) [kpS, d6, d9, a6r, b4J])
  ·have c3b : decide (p.outs.getD (r.next + i) 0 <= v.pos) = false := decide_eq_false c3
   refine evx c3b ?_
   have := done (λh => c3 (hat.1 h).2)
   subst this
   rw [List.take_length]
   exact m7 (λX => X != 133) (λX hX => b5M hX (by decide)) rfl (by simp) (by simp [kpS]) (by simp (maxDischargeDepth := 6) [kpS, d6, d9, T4, a1X])
 ·have c2b : decide (r.next + i < p.outs.length) = false := decide_eq_false c2
  refine evx c2b ?_
  have := done (λh => c2 (hat.1 h).1)
  subst this
  rw [List.take_length]
  exact m7 (λX => X != 133) (λX hX => b5M hX (by decide)) rfl (by simp) (by simp [kpS]) (by simp (maxDischargeDepth := 6) [kpS, d6, d9, T4, a1X])
end Go.Ab
namespace Go.Ab
open Nat renaming reduceEqDiff -> n1_, reduceAdd -> n2_, reduceMul -> n3_, reduceLT -> n4_, reduceLeDiff -> n5_
open Int renaming reduceToNat -> i1_, reduceAdd -> i2_, reduceSub -> i3_, reduceMul -> i4_, reduceNeg -> i5_, reduceLT -> i6_, reduceLE -> i7_
open Go Go.Proofs
def U0 : CA := (.seq (.reg [i_K 0 2 0] [0]) (.seq (.seq (.reg [i_M 0 6 0, i_X 1 7 (.h (.nilck (.t 6))), i_P 2 8 7 13, i_P 3 9 8 10, i_L 4 10 9 1, i_M 5 11 0, i_X 6 12 (.h (.nilck (.t 11))), i_P 7 13 12 0, i_P 8 14 13 11, i_L 9 15 14 1, i_N 10 16 .geq 10 15] [0, 16]) (.cond (.t 16) (.seq (.reg [i_K 0 2 6] [2]) .ret) .skip)) (.seq (.reg [i_M 0 17 0, i_X 1 18 (.h (.nilck (.t 17))), i_P 2 19 18 13, i_P 3 20 19 10, i_L 4 21 20 1, i_B 5 22 .add 21 1, i_X 6 23 (.h (.nilck (.t 17))), i_P 7 24 23 13, i_P 8 25 24 10, i_S 9 25 22 1] [0]) (.seq (.reg [i_M 0 26 0, i_X 1 27 (.h (.nilck (.t 26))), i_P 2 28 27 0, i_A 3 29 28 13, i_M 4 30 0, i_X 5 31 (.h (.nilck (.t 30))), i_P 6 32 31 13, i_P 7 33 32 0, i_A 8 34 33 8, i_X 9 35 (.callS 0 (kF 93) [(.t 29), (.t 34)]), i_X 10 3 (.alloc [fI 0, fI 0, fI 0, fI 0, .nil, fI 0, fI 0, fI 0, fI 0, fI 0, fI 0, fI 0, .nil, (.d (.bool false)), fl 0, fI 0] 141), i_S 11 3 35 16] [0, 3]) (.seq (.seq (.reg [i_P 0 36 3 15, i_L 1 37 36 1, i_B 2 38 .neq 37 0, i_M 3 39 38, g_F 4 40 39 (.h (.padd (.t 3) 13)), g_F 5 41 39 (.load (.t 40) 1 false), g_F 6 42 39 (.h (.un .not (.t 41))), i_X 7 43 (.h (.pick (.t 39) (.k (.d (.bool true))) (.t 42)))] [0, 3, 43]) (.cond (.t 43) (.seq (.reg [i_M 0 44 0, i_P 1 45 3 0, i_A 2 46 45 8, i_X 3 47 (.h (.nilck (.t 44))), i_P 4 48 47 13, i_P 5 49 48 0, i_S 6 49 46 8] [3]) (.seq (.reg [i_P 0 50 3 15, i_L 1 51 50 1, i_M 2 2 51] [2]) .ret)) .skip)) (.seq (.reg [i_M 0 53 0, i_X 1 54 (.h (.nilck (.t 53))), i_P 2 55 54 0, i_A 3 56 55 13, i_P 4 57 3 8, i_A 5 58 57 5, i_M 6 59 0, i_X 7 60 (.h (.nilck (.t 59))), i_P 8 61 60 13, i_P 9 62 61 8, i_L 10 63 62 1, i_M 11 64 0, i_X 12 65 (.h (.nilck (.t 64))), i_P 13 66 65 13, i_P 14 67 66 9, i_L 15 68 67 1, i_X 16 69 (.callS 0 (kF 94) [(.t 56), (.t 58), (.t 63), (.t 68)]), i_M 17 52 69, i_X 18 70 (.h (.ext (.t 52) 0)), i_X 19 71 (.h (.ext (.t 52) 1)), i_X 20 4 (.alloc z_5 143), i_S 21 4 70 5, i_M 22 5 71] [0, 3, 4, 5]) (.seq (.seq (.reg [i_M 0 72 5, i_B 1 73 .eql 72 0, i_M 2 74 73, g_T 3 75 74 (.h (.padd (.t 4) 4)), g_T 4 76 74 (.load (.t 75) 1 false), g_T 5 77 74 (.h (.mov (.t 0))), g_T 6 78 74 (.h (.nilck (.t 77))), g_T 7 79 74 (.h (.padd (.t 78) 0)), g_T 8 80 74 (.h (.padd (.t 79) 10)), g_T 9 81 74 (.load (.t 80) 1 false), g_T 10 82 74 (.h (.fcmp .gt (.t 76) (.t 81))), i_X 11 83 (.h (.pick (.t 74) (.t 82) (.k (.d (.bool false)))))] [0, 3, 4, 5, 83]) (.cond (.t 83) (.reg [i_K 0 5 8] [0, 3, 4, 5]) .skip)) (.seq (.seq (.reg [i_M 0 84 5, i_B 1 85 .neq 84 0] [0, 3, 4, 5, 85]) (.cond (.t 85) (.seq (.reg [i_M 0 86 5, i_M 1 2 86] [2]) .ret) .skip)) (.seq (.reg [i_M 0 87 0, i_M 1 88 0, i_M 2 89 0, i_P 3 90 3 0, i_A 4 91 90 8, i_P 5 92 3 8, i_P 6 93 92 4, i_L 7 94 93 1, i_X 8 95 (.h (.idx (.t 94) (kI 0) 1)), i_L 9 96 95 1, i_X 10 97 (.callS 10 (kF 57) [(.t 96)]), i_P 11 98 4 4, ⟨12, (some 99), none, [(.t 4)], [], (.load (.t 98) 1 false)⟩, i_X 13 100 (.h (.nilck (.t 87))), i_P 14 101 100 13, i_P 15 102 101 0, ⟨16, none, none, [], [(.t 4)], (.store (.t 102) (.t 91) 8)⟩, i_X 17 103 (.h (.nilck (.t 88))), i_P 18 104 103 13, i_P 19 105 104 8, ⟨20, none, none, [], [(.t 4)], (.store (.t 105) (.t 97) 1)⟩, i_X 21 106 (.h (.nilck (.t 89))), i_P 22 107 106 13, i_P 23 108 107 9, i_S 24 108 99 1] [0, 3, 4]) (.seq (.reg [i_M 0 109 0, i_P 1 110 3 8, i_A 2 111 110 5, i_P 3 112 4 4, i_L 4 113 112 1, i_X 5 114 (.callA (kF 95) [(.t 109), (.t 111), (.t 113)])] []) (.seq (.reg [i_K 0 2 0] [2]) .ret)))))))))))
theorem a0H : f7 Tryz.prog 54 = some ⟨115, [(2, none)], U0.strip⟩ := by kernel_rfl
structure Outs (p : Pb) : Prop where
 len : p.outs.length < 2 ^ 20
 rng : ∀ i, i < p.outs.length -> 0 <= p.outs.getD i 0 /\ p.outs.getD i 0 < 2 ^ 61
 most : 0 <= p.most /\ p.most < 2 ^ 40
theorem c1M {p : Pb} {k : Nat} {x : Sta} (hp : Pk p) (hi : Inv p k x) (ht : (tryP p x).taken = true) (hk : k < 100000) : 0 <= (tryP p x).n.pos /\ (tryP p x).n.pos < 2 ^ 61 := by
 have hin := (b3q hp hi hk).ok.n.pos
 rcases a3C hp hi with ⟨_, sp⟩ | ⟨h, _⟩
 ·have h1 := sp.npos
  have h2 := sp.pos
  omega
 ·rw [h] at ht; cases ht
abbrev goH (p : Pb) (r : Rn) (l : List Ou) : Heap := [(100, osF l), (7, [slC p r (osV l)]), (2, [endC]), (0, [pbC p])]
theorem b1J (p : Pb) (r : Rn) (l : List Ou) (k : Nat) (hp : Pk2 p) (ho : Outs p) (hr : RInv p k r) (hk : k < 100000) (hl : l.length < 2 ^ 39) (ha : r.att < 2 ^ 40) :
    AC Tryz.prog 54 [.ptr 7 0 0 26] (goH p r l) (goH p (B2 p r).1 (l ++ (B2 p r).2.1)) (fI (B2 p r).2.2) := by
  refine k9 a0H rfl f5 (nmN [100, 7, 2, 0]) (c2X λX h => ?_) ?_
  · simp only [List.mem_cons, List.not_mem_nil, or_false, not_or] at h
    simp only [d6, d9]
    rw [if_neg h.1, if_neg h.2.1, if_neg h.2.2.1, if_neg h.2.2.2]
  refine evx @U0.eq_1 ?_
  have wa : IntKind.i64.wrap ((r.att : Int) + 1) = ((r.att + 1 : Nat) : Int) := by rw [f0 (by omega) (by omega)]; omega
  have htry := b5d p r.s hp.pk.ok hr.s.ok
  have hin := b3q hp.pk hr.s hk
  have hkn : ∀ X, nmN [100, 7, 2, 0] X -> decide (X <= 100) = true := λX hX => by
    unfold nmN at hX
    simp only [List.mem_cons, List.not_mem_nil, or_false] at hX
    rcases hX with rfl | rfl | rfl | rfl <;> rfl
  rcases G7 p r with ⟨hm, e⟩ | ⟨hm, h2, e⟩ | ⟨hm, he, ht, herr, e⟩ | ⟨hm, he, ht, hb, hg, e⟩
  · rw [e]
    simp only [List.append_nil]
    rw [decide_eq_true hm]
    refine ev ?_
    exact m7 (λ_ => true) (λ_ _ => rfl) (f8 (by decide) rfl) (by simp) (by simp [kpS]) (by simp (maxDischargeDepth := 6) [kpS, d6, d9, T4, a1X])
  · rw [e]
    simp only [List.append_nil]
    rw [decide_eq_false (show ¬ p.most <= (r.att : Int) by omega)]
    refine evx wa ?_
    refine d5 (htry) rfl ?_
    generalize tryP p r.s = t at h2 hin ⊢
    refine ev ?_
    by_cases he : t.e = 0
    · have heb : (t.e != 0) = false := by simpa using he
      have ht : t.taken = false := by rcases h2 with h2 | h2
                                      · exact absurd he h2
                                      · exact h2
      refine evx (And.intro heb ht) ?_
      exact m7 (λX => decide (X <= 100)) hkn (f8 (by decide) rfl) rfl (by simp [kpS]) (by simp (maxDischargeDepth := 6) [kpS, d6, d9, T4, a1X])
    · have heb : (t.e != 0) = true := by simpa using he
      refine evx heb ?_
      exact m7 (λX => decide (X <= 100)) hkn (f8 (by decide) rfl) rfl (by simp [kpS]) (by simp (maxDischargeDepth := 6) [kpS, d6, d9, T4, a1X])
  all_goals
    have hbk := a9z hp hr.s ht r.last r.bound hr.last hr.bound
    have hbs := b1X p (tryP p r.s).n r.last r.bound hbk
    have hbd : bndP p.t p.box (tryP p r.s).n.z (hW (tryP p r.s).n.step.toNat) r.last r.bound = bdR p r := rfl
    rw [hbd] at hbs
  · rw [e]
    simp only [List.append_nil]
    rw [decide_eq_false (show ¬ p.most <= (r.att : Int) by omega)]
    refine evx wa ?_
    refine d5 (htry) rfl ?_
    have herrD : errR p r = if (bdR p r).2 = 0 /\ fcmp .gt (bdR p r).1.bound p.cap = true then 8 else (bdR p r).2 := rfl
    generalize tryP p r.s = t at ht he hin hbk hbs ⊢
    generalize bdR p r = B at hbs herrD ⊢
    have heb : (t.e != 0) = false := by simpa using he
    refine evx (And.intro heb ht) ?_
    refine d5 (hbs) rfl ?_
    refine ev ?_
    by_cases hB : B.2 = 0
    · have hBb : (B.2 == 0) = true := by simpa using hB
      have hgt : fcmp .gt B.1.bound p.cap = true := by
        cases hc : fcmp .gt B.1.bound p.cap with
        | true => rfl
        | false => rw [hc, hB] at herrD; simp at herrD; exact absurd herrD herr
      simp -implicitDefEqProofs only [evI, hv, effC, reduceCtorEq, ↓reduceIte, n1_, n2_, n3_, n4_, n5_, i1_, i2_, i3_, i4_, i5_, i6_, i7_, hBb, hgt, Int.reduceBNe]
      have : errR p r = 8 := by rw [herrD, if_pos ⟨hB, hgt⟩]
      rw [this]
      exact m7 (λX => decide (X <= 100)) hkn (f8 (by decide) rfl) rfl (by simp [kpS]) (by simp (maxDischargeDepth := 6) [kpS, d6, d9, T4, a1X])
    · have hBb : (B.2 == 0) = false := by simpa using hB
      have hBn : (B.2 != 0) = true := by simpa using hB
      refine evx (And.intro hBb hBn) ?_
      have : errR p r = B.2 := by rw [herrD, if_neg (λh => hB h.1)]
      rw [this]
      exact m7 (λX => decide (X <= 100)) hkn (f8 (by decide) rfl) rfl (by simp [kpS]) (by simp (maxDischargeDepth := 6) [kpS, d6, d9, T4, a1X])
  · rw [e]
    rw [decide_eq_false (show ¬ p.most <= (r.att : Int) by omega)]
    refine evx wa ?_
    refine d5 (htry) rfl ?_
    have het : c1E p r = ⟨(tryP p r.s).s, (tryP p r.s).n.z.getD 0 [], (bdR p r).1.bound, r.att + 1, r.next + (A3 p (tryP p r.s).n (bdR p r).1.bound r.next).length⟩ := rfl
    rw [het]
    have hpos := c1M hp.pk hr.s ht hk
    generalize tryP p r.s = t at ht he hin hbk hbs hpos ⊢
    generalize bdR p r = B at hbs hb hg ⊢
    have heb : (t.e != 0) = false := by simpa using he
    refine evx (And.intro heb ht) ?_
    refine d5 (hbs) rfl ?_
    refine ev ?_
    have hBb : (B.2 == 0) = true := by simpa using hb
    have hBn : (B.2 != 0) = false := by simpa using hb
    refine evx (And.intro hBb (And.intro hg hBn)) ?_
    have hrk := hbk.rk
    have hz0 := hrk.2 0 (by omega)
    have hn0 := hp.pk.ok.n
    have hn20 := hp.pk.ok.t.n
    have hord := hbk.ord
    refine ⟨by have := hrk.1; omega, ?_⟩
    refine d5 (W8 (t.n.z.getD 0 []) (by omega) (by omega)) rfl ?_
    refine ev ?_
    rw [he]
    refine B7 (b7P p ⟨t.s, t.n.z.getD 0 [], B.1.bound, r.att + 1, r.next⟩ l t.n B.1.bound t.n.order.toNat B.1 t.s t.err hrk (by omega) hn0 (by omega) hr.next (by have := ho.len; omega) hl hpos ho.rng) ?_
    refine ev ?_
    exact m7 (λX => decide (X <= 100)) hkn (f8 (by decide) rfl) rfl (by simp [kpS]) (by simp (maxDischargeDepth := 6) [kpS, d6, d9, T4, a1X])
def b6M : CA := (.seq (.reg [i_X 0 1 (.box (.t 0) 12 51), i_X 1 2 (.alloc [fI 0, fI 0, fI 0, fI 0, .nil, fI 0, fI 0, fI 0, .nil, fl 0, fI 0, fI 0] 51)] [1, 2]) (.seq (.reg [i_P 0 3 1 8, i_L 1 4 3 1, i_X 2 5 (.callA (kF 57) [(.t 4)]), i_P 3 6 1 8, i_S 4 6 5 1] [1, 2]) (.seq (.reg [i_P 0 7 1 0, i_P 1 8 7 0, i_P 2 9 8 4, i_L 3 10 9 1, i_X 4 11 (.callA (kF 92) [(.t 10), (kI 0)]), i_P 5 12 1 0, i_P 6 13 12 0, i_P 7 14 13 4, i_S 8 14 11 1] [1, 2]) (.seq (.reg [i_A 0 15 1 12, i_S 1 2 15 12] [2]) .ret))))
theorem b18 : f7 Tryz.prog 52 = some ⟨16, [(2, (some (12, true)))], b6M.strip⟩ := by kernel_rfl
def b1a : CA := (.seq (.seq (.reg [i_M 0 20 10, i_M 1 21 2, i_N 2 22 .lss 20 21, i_M 3 23 22, g_T 4 24 23 (.h (.mov (.t 8))), g_T 5 25 23 (.h (.ibin .eql (.t 24) (kI 0))), i_X 6 26 (.h (.pick (.t 23) (.t 25) (.k (.d (.bool false))))), i_M 7 27 26, g_T 8 28 27 (.h (.mov (.t 7))), g_T 9 29 27 (.h (.nilck (.t 28))), g_T 10 30 27 (.h (.padd (.t 29) 13)), g_T 11 31 27 (.h (.padd (.t 30) 0)), g_T 12 32 27 (.h (.padd (.t 31) 0)), g_T 13 33 27 (.h (.padd (.t 32) 0)), g_T 14 34 27 (.load (.t 33) 1 false), g_T 15 35 27 (.h (.padd (.t 3) 5)), g_T 16 36 27 (.load (.t 35) 1 false), g_T 17 37 27 (.h (.ibin .lss (.t 34) (.t 36))), i_X 18 38 (.h (.pick (.t 27) (.t 37) (.k (.d (.bool false)))))] [2, 3, 6, 7, 8, 9, 10, 38]) (.cond (.t 38) .skip (.exit 0))) (.seq (.block 1 (.reg [i_M 0 41 9, i_X 1 42 (.callA (.t 41) []), i_M 2 8 42] [2, 3, 6, 7, 8, 9, 10])) (.reg [i_M 0 39 10, i_B 1 40 .add 39 1, i_M 2 10 40] [2, 3, 6, 7, 8, 9, 10])))
def b9J : CA := (.seq (.reg [i_X 0 3 (.box (.t 0) 13 33), i_X 1 4 (.box (.t 1) 12 51), i_X 2 6 (.alloc [.nil, fI 0, fI 0, fI 0, fI 0, fI 0, .nil, fI 0, fI 0, fI 0, .nil, fl 0, fI 0, fI 0] 53)] [2, 3, 4, 6]) (.seq (.reg [i_A 0 11 3 13, i_A 1 12 4 12, i_X 2 13 (.callS 2 (kF 52) [(.t 12)]), i_X 3 14 (.h (.build [fI 0, .nil, .nil, .nil, .nil, fI 0, fI 0, fI 0, fl 0, fl 0, fl 0, fI 0, .nil, fI 0, fI 0, fI 0, fI 0, .nil, fI 0, fI 0, fI 0, .nil, fl 0, fI 0, fI 0, .nil] [(0, (13, (.t 11))), (13, (12, (.t 13)))])), i_X 4 15 (.box (.t 14) 26 102), i_M 5 7 15] [2, 3, 6, 7]) (.seq (.reg [i_M 0 16 7, i_X 1 17 (.callA (kF 53) [(.t 16)])] [2, 3, 6, 7]) (.seq (.reg [i_K 0 8 0] [2, 3, 6, 7, 8]) (.seq (.reg [i_M 0 18 7, i_X 1 19 (.h (.mkfn 54 [(.t 18)] [])), i_M 2 9 19] [2, 3, 6, 7, 8, 9]) (.seq (.seq (.reg [i_K 0 10 0] [2, 3, 6, 7, 8, 9, 10]) (.block 0 (.loop b1a))) (.seq (.reg [i_M 0 43 7, i_X 1 44 (.h (.nilck (.t 43))), i_P 2 45 44 25, i_L 3 46 45 1, i_X 4 47 (.callS 0 (kF 55) [(.t 46)]), i_M 5 48 8, i_M 6 49 7, i_X 7 50 (.h (.nilck (.t 49))), i_P 8 51 50 13, i_A 9 52 51 12, i_X 10 53 (.h (.build [.nil, fI 0, fI 0, fI 0, fI 0, fI 0, .nil, fI 0, fI 0, fI 0, .nil, fl 0, fI 0, fI 0] [(0, (1, (.t 47))), (1, (1, (.t 48))), (2, (12, (.t 52)))])), i_S 11 6 53 14] [6]) .ret)))))))
theorem b4T : f7 Tryz.prog 26 = some ⟨54, [(6, (some (14, true)))], b9J.strip⟩ := by kernel_rfl
def b1b : CA := (.seq (.reg [i_X 0 1 (.box (.t 0) 13 33), i_X 1 2 (.alloc [fI 0, fI 0, fI 0, fI 0, .nil, fI 0, fI 0, fI 0, .nil, fl 0, fI 0, fI 0] 51)] [1, 2]) (.seq (.reg [i_P 0 3 1 0, i_A 1 4 3 3, i_P 2 5 1 4, i_L 3 6 5 1, i_P 4 7 1 6, i_L 5 8 7 1, i_X 6 9 (.callS 0 (kF 56) [(.t 4), (.t 6), (.t 8)]), i_X 7 10 (.h (.build [fI 0, fI 0, fI 0, fI 0, .nil, fI 0, fI 0, fI 0] [(0, (5, (.t 9)))])), i_P 8 11 1 4, i_L 9 12 11 1, i_X 10 13 (.callA (kF 57) [(.t 12)]), i_X 11 14 (.h (.build [fI 0, fI 0, fI 0, fI 0, .nil, fI 0, fI 0, fI 0, .nil, fl 0, fI 0, fI 0] [(0, (8, (.t 10))), (8, (1, (.t 13)))])), i_S 12 2 14 12] [2]) .ret))
theorem a9c : f7 Tryz.prog 27 = some ⟨15, [(2, (some (12, true)))], b1b.strip⟩ := by kernel_rfl
abbrev rnV (r : Rn) : V := .agg (rnC r)
def ousG (l : List Ou) (i : Nat) : List D := [.int .i64 (l.getD i ⟨0, [], 0⟩).pos, rowD (l.getD i ⟨0, [], 0⟩).y, .flt (l.getD i ⟨0, [], 0⟩).bound]
abbrev ousD (l : List Ou) : D := .bor l.length (ousG l)
abbrev edC (x : Rn × List Ou × Int) : List V := [.d (ousD x.2.1), fI x.2.2, fI x.1.s.n.pos, fI x.1.s.n.step, fI x.1.s.n.order, fI x.1.s.n.method, .d (g6 x.1.s.n.z), fI x.1.s.good, fI x.1.s.fails, fI x.1.s.slow, .d (rowD x.1.last), fl x.1.bound, fI x.1.att, fI x.1.next]
abbrev edV (x : Rn × List Ou × Int) : V := .agg (edC x)
structure Rok (p : Pb) (r : Rn) : Prop where
 rk : Rk (r.s.n.order.toNat + 1) p.t.n r.s.n.z
 cw : Cw r.s.n.z
 ord : r.s.n.order.toNat < 9
 last : r.last.length = p.t.n
 n : 0 < p.t.n /\ p.t.n < 2 ^ 39
theorem b7Q (p : Pb) (r : Rn) (h : Rok p r) : Con Tryz.prog 52 [rnV r] (rnV r) := by
 have hrk := h.rk
 have hl := h.last
 have hn := h.n
 have ho := h.ord
 refine b7 b18 rfl f5 ?_
 refine evx @b6M.eq_1 ?_
 refine a0 (W8 r.last (by omega) (by omega)) rfl ?_
 refine ev ?_
 refine a0 (R9 r.s.n.z (r.s.n.order.toNat + 1) p.t.n hrk (by omega) (by omega) 0 (by decide)) rfl ?_
 rw [a6R hrk h.cw]
 refine ev ?_
 exact f9 rfl (by decide) rfl rfl rfl (by simp) (by simp [ldv, g6, rowD])
theorem c8d (l : List Ou) (i j : Nat) (hi : i < l.length) (hj : j < 3) : (ousC l)[i * 3 + j]? = (ouC (l.getD i ⟨0, [], 0⟩))[j]? := by
 induction l generalizing i with
 | nil => simp at hi
 | cons o l ih =>
  rcases i with _ | i
  ·show (ouC o ++ ousC l)[0 * 3 + j]? = _
   rw [d2g (by show 0 * 3 + j < 3; omega), Nat.zero_mul, Nat.zero_add]; rfl
  ·show (ouC o ++ ousC l)[(i + 1) * 3 + j]? = _
   rw [d2j (by show 3 <= (i + 1) * 3 + j; omega)]
   have e : (i + 1) * 3 + j - (ouC o).length = i * 3 + j := by show (i + 1) * 3 + j - 3 = _; omega
   rw [e, ih i (by simpa using hi)]; rfl
theorem c2M (l : List Ou) : ousC l = g7 l.length (ousG l) := by
 have hg : ∀ i, i < l.length -> (ousG l i).length = 3 := λi _ => rfl
 refine List.ext_getElem? λk => ?_
 by_cases hk : k < l.length * 3
 ·obtain ⟨i, j, hj, rfl⟩ : ∃ i j, j < 3 /\ k = i * 3 + j := ⟨k / 3, k % 3, by omega, by omega⟩
  have hi : i < l.length := by omega
  have h1 := c8d l i j hi hj
  rw [h1]
  unfold g7
  rw [List.getElem?_map, b73 l.length hg i j hi hj]
  have : j = 0 \/ j = 1 \/ j = 2 := by omega
  rcases this with rfl | rfl | rfl <;> rfl
 ·rw [d2n (by rw [b3Q]; omega), d2n (by rw [u9 _ hg]; omega)]
theorem b5k (L : Heap) (esz n : Nat) (g : Nat -> List D) : s7 L esz (.d (.bor n g)) = some (g7 n g) := by simp [s7, g7]
theorem b8r (l : List Ou) (h0 : 0 < l.length) (h1 : l.length < 2 ^ 40) : Con Tryz.prog 55 [.d (ousD l)] (.d (ousD l)) := by
 have hd := u9 l.length (get := ousG l) (esz := 3) λi _ => rfl
 refine b7 y5 rfl f5 ?_
 refine evx @v9.eq_1 ?_
 refine ⟨h0, ?_⟩
 refine evx (And.intro @b5k @V4) ?_
 refine ⟨⟨by omega, hd, c03 _ _⟩, ?_⟩
 exact j6 (.sl 0 0 0 l.length 3 (l.length * 3)) (λ_ h => h) (f8 (by decide) rfl) (.d (y6 (λY q h => by simp [g5] at h) (by simp [d8]) (λ_ _ => rfl) rfl))
theorem b8q : Con Tryz.prog 55 [.nil] .nil := by
 refine b7 y5 rfl f5 ?_
 refine evx @v9.eq_1 ?_
 exact g9
theorem c1X (p : Pb) (r : Rn) : (B2 p r).2.1.length + r.next = (B2 p r).1.next := by
 rcases G7 p r with ⟨_, e⟩ | ⟨_, _, e⟩ | ⟨_, _, _, _, e⟩ | ⟨_, _, _, _, _, e⟩ <;> rw [e]
 ·simp
 ·simp
 ·simp
 ·show (A3 _ _ _ _).length + r.next = r.next + (A3 _ _ _ _).length
  omega
theorem c1Y (p : Pb) (r : Rn) : (B2 p r).1.att <= r.att + 1 := by
 rcases G7 p r with ⟨_, e⟩ | ⟨_, _, e⟩ | ⟨_, _, _, _, e⟩ | ⟨_, _, _, _, _, e⟩ <;> rw [e]
 ·exact Nat.le_succ _
 ·exact d2t _
 ·exact d2t _
 ·exact d2t _
theorem c0G (p : Pb) (r : Rn) (most : Int) (k : Nat) (hp : Pk2 p) (ho : Outs p) (hr : RInv p k r) (hk : k + most.toNat < 100000) (ha : r.att <= k) (hm : most < 2 ^ 40) (hy : p.y.length = p.t.n) : Con Tryz.prog 26 [pbV p, rnV r, fI most] (edV (goP p r most.toNat)) := by
 have hok : Rok p r := ⟨hr.s.ok.n.rk, hr.s.ok.n.cw, by have := hr.s.ok.n.m; omega, hr.last, hp.pk.ok.n, by have := hp.n; omega⟩
 have hn3 := hp.n
 have hn0 := hp.pk.ok.n
 refine b7 b4T rfl f5 ?_
 refine evx @b9J.eq_1 ?_
 refine d5 (b7Q p r hok) rfl ?_
 refine ev ?_
 refine B7 (b5Z p r r hr.next (by have := ho.len; omega) ⟨by omega, by omega⟩) ?_
 refine evx @a3M ?_
 have hgo : goP p r most.toNat = goK p most.toNat (⟨r.s, r.last, r.bound, r.att, r.next + (t7 p r).length⟩, t7 p r, 0) := rfl
 have hfl := b0k p r
 have hfn : r.next + (t7 p r).length <= p.outs.length := by
  unfold t7
  split
  ·rw [List.length_map]
   have h1 := (List.takeWhile_prefix (l := p.outs.drop r.next) λa => decide (a = 0)).length_le
   rw [List.length_drop] at h1
   have := hr.next
   omega
  ·exact hr.next
 have hr0 : RInv p k ⟨r.s, r.last, r.bound, r.att, r.next + (t7 p r).length⟩ := ⟨hr.s, hr.last, hr.bound, hfn⟩
 rw [hgo]
 generalize t7 p r = T0 at hfl hr0 ⊢
 generalize hR0 : (⟨r.s, r.last, r.bound, r.att, r.next + T0.length⟩ : Rn) = R0 at hr0 ⊢
 have ha0 : R0.att <= k := by rw [<- hR0]; exact ha
 generalize hm2 : most.toNat = m at hk ⊢
 generalize hfin : goK p m (R0, T0, 0) = fin
 refine WA.mono (Q := λe t => ∃ w8 w10 w38, fin.2.1.length < 2 ^ 40 /\ e = Ex.exit 0 /\ t = ⟨[(2, fI most), (3, .ptr 0 0 0 13), (6, .ptr 2 0 0 14), (7, .ptr 7 0 0 26), (8, fI fin.2.2), w8, w10, w38], goH p fin.1 fin.2.1⟩) ?_ ?_
 ·refine j5 (n := m) (λc t => ∃ (j : Nat) (x : Rn × List Ou × Int), c + j = m /\ RInv p (k + j) x.1 /\ x.1.att <= k + j /\ x.2.1.length <= p.outs.length + x.1.next /\ goK p c x = fin /\ t = ⟨[(2, fI most), (3, .ptr 0 0 0 13), (6, .ptr 2 0 0 14), (7, .ptr 7 0 0 26), (8, fI x.2.2), (9, .fn 54 [.ptr 7 0 0 26] []), (10, fI j)], goH p x.1 x.2.1⟩)
   (LeT.only (L' := goH p R0 T0) (λX => X != 1) (λ_ h => h) rfl (by simp [kpS]) (by simp (maxDischargeDepth := 6) [kpS, d6, d9, T4, a1X])) ⟨0, (R0, T0, 0), by omega, hr0, by omega, by simp only; omega, hfin, rfl⟩ ?_
  rintro c t ⟨j, ⟨x1, x2, x3⟩, hc, hx, hxa, hxl, hxf, rfl⟩
  refine evx @b1a.eq_1 ?_
  have hnx := hx.next
  simp only at hxa hxl hnx
  have stop : (¬ (x3 = 0 /\ x1.s.n.pos < p.fin) \/ c = 0) -> fin = (x1, x2, x3) := λh => by
   rw [<- hxf]
   rcases c with _ | c
   ·rfl
   ·rw [goK, if_neg (h.resolve_right (by omega))]
  by_cases hj : (j : Int) < most
  ·rw [decide_eq_true hj]
   refine ev ?_
   by_cases h3 : x3 = 0
   ·have h3b : (x3 == 0) = true := by simpa using h3
    refine evx h3b ?_
    by_cases hp4 : x1.s.n.pos < p.fin
    ·have hp4b : decide (x1.s.n.pos < p.fin) = true := decide_eq_true hp4
     refine evx hp4b ?_
     obtain ⟨c, rfl⟩ : ∃ c', c = c' + 1 := ⟨c - 1, by omega⟩
     have wj : IntKind.i64.wrap ((j : Int) + 1) = ((j + 1 : Nat) : Int) := by rw [f0 (by omega) (by omega)]; omega
     refine B7 (b1J p x1 x2 (k + j) hp ho hx (by omega) (by have := ho.len; omega) (by omega)) ?_
     refine evx wj ?_
     have hst := b5b hp hx (show k + j < 100000 by omega)
     have hsl := c1X p x1
     have hsa := c1Y p x1
     rw [goK, if_pos ⟨h3, hp4⟩] at hxf
     exact ⟨c, _, by omega, Le.refl _, j + 1, ((B2 p x1).1, x2 ++ (B2 p x1).2.1, (B2 p x1).2.2), by omega, by rw [<- Nat.add_assoc]; exact hst, by simp only; omega, by simp only [List.length_append]; omega, hxf, rfl⟩
    ·have hp4b : decide (x1.s.n.pos < p.fin) = false := decide_eq_false hp4
     refine evx hp4b ?_
     rw [stop (.inl λh => hp4 h.2)]
     exact ⟨_, _, _, by simp only; have := ho.len; omega, rfl⟩
   ·have h3b : (x3 == 0) = false := by simpa using h3
    refine evx h3b ?_
    rw [stop (.inl λh => h3 h.1)]
    exact ⟨_, _, _, by simp only; have := ho.len; omega, rfl⟩
  ·rw [decide_eq_false hj]
   refine ev ?_
   rw [stop (.inr (by omega))]
   exact ⟨_, _, _, by simp only; have := ho.len; omega, rfl⟩
 ·rintro e t ⟨w8, w10, w38, hlen, rfl, rfl⟩
  obtain ⟨f1, f2, f3⟩ := fin
  obtain ⟨i8, v8⟩ := w8
  obtain ⟨i10, v10⟩ := w10
  obtain ⟨i38, v38⟩ := w38
  by_cases h0 : f2 = []
  ·subst h0
   refine ⟨⟨[(2, fI most), (3, .ptr 0 0 0 13), (6, .ptr 2 0 0 14), (7, .ptr 7 0 0 26), (8, fI f3), (i8, v8), (i10, v10), (i38, v38)], goH p f1 []⟩, Le.refl _, ?_⟩
   rw [goH, b7z, b7y]
   refine ev ?_
   refine d5 (b8q) rfl ?_
   refine ev ?_
   exact j6 (.agg (.nil :: (edC (f1, [], f3)).tail)) (λ_ h => h) (g8 (by decide) rfl rfl rfl (by simp) rfl) (D5 _ _ ⟨.d (.nil _), Fz_d _, Fz_d _, Fz_d _, Fz_d _, Fz_d _, Fz_d _, Fz_d _, Fz_d _, Fz_d _, Fz_d _, Fz_d _, Fz_d _, Fz_d _, trivial⟩)
  ·have hlen : f2.length < 2 ^ 40 := hlen
   have hF : Fz (goH p f1 f2) [(7, [slC p f1 (.d (ousD f2))]), (2, [endC])] (osV f2) (.d (.bor f2.length (ousG f2))) := by
    rw [b2x h0]
    exact .d (y6 (λY q h e => by cases e; exact h (by simp [d8, g5])) (by rw [goH, b2y h0, c2M]; simp [d8]) (λ_ _ => rfl) rfl)
   refine ⟨⟨[(2, .any), (3, .any), (6, .ptr 2 0 0 14), (7, .ptr 7 0 0 26), (8, fI f3), (i8, .any), (i10, .any), (i38, .any)], [(7, [slC p f1 (.d (ousD f2))]), (2, [endC])]⟩, LeT.weak (λ_ h => h) ?_ ?_, ?_⟩
   ·exact (by simp (maxDischargeDepth := 6) [fzS])
   ·exact (by simp (maxDischargeDepth := 6) [fzS, hF])
   ·refine ev ?_
    refine d5 (b8r f2 (List.length_pos_iff.2 h0) hlen) rfl ?_
    refine ev ?_
    exact j6 (.agg (edC (f1, f2, f3))) (λ_ h => h) (g8 (by decide) rfl rfl rfl (by simp) rfl) (D5 _ _ ⟨Fz_d _, Fz_d _, Fz_d _, Fz_d _, Fz_d _, Fz_d _, Fz_d _, Fz_d _, Fz_d _, Fz_d _, Fz_d _, Fz_d _, Fz_d _, Fz_d _, trivial⟩)
theorem b38 (p : Pb) (hp : Pk p) : Con Tryz.prog 27 [pbV p] (rnV (p7 p)) := by
 obtain ⟨a, ha, hfa⟩ := hp.fst
 have hst := P3 p.t p.y a hp.ok.t hp.yl (by omega)
 have hn := hp.ok.n
 have hn2 := hp.ok.t.n
 have hyl := hp.yl
 refine b7 a9c rfl f5 ?_
 refine evx @b1b.eq_1 ?_
 rw [hfa]
 refine d5 (hst) rfl ?_
 refine ev ?_
 refine a0 (W8 p.y (by omega) (by omega)) rfl ?_
 refine ev ?_
 have e : p7 p = ⟨⟨⟨0, p.first, 1, 0, a5z p.t p.y (hW (2 ^ a))⟩, 0, 0, 0⟩, p.y, 0, 0, 0⟩ := by
  unfold p7 a70; rw [hfa, Int.toNat_natCast]
 rw [e, hfa]
 exact f9 rfl (by decide) rfl rfl rfl (by simp) (by simp [ldv, g6, rowD])
end Go.Ab
