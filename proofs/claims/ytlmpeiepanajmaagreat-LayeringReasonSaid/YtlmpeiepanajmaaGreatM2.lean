import Derived.Laws.Sem
import Derived.Lib.Bytealg
import Derived.Sort.Grow
import Derived.Sort.Row
import GoSem.ClaimJoined
import Derived.ProofKit
import Derived.Test.YtlmpeiepanajmaaGreatM1
set_option linter.all false
section
namespace Go.Ev
section
variable {P : Program} {E : dD} {w w' : World} {S S' : Nat → Prop} {H H' : List (Ob E.C)} {ρ ρ' : Nat → Option Pl} {Fr Fr' : Nat → Prop} {F : List (Nat × cw E.C)}
theorem az.split : ∀ {a b : List (AV E.C)} {us : List Value}, az P E w S H ρ Fr (a ++ b) us → ∃ us1 us2, us = us1 ++ us2 ∧ us1.length = a.length ∧ az P E w S H ρ Fr a us1 ∧ az P E w S H ρ Fr b us2
 | [], b, us, h => ⟨[], us, rfl, rfl, by unfold az; rfl, h⟩
 | v :: a, b, us, h => by
  simp only [List.cons_append] at h
  unfold az at h
  obtain ⟨u, us', rfl, h1, h2⟩ := h
  obtain ⟨us1, us2, rfl, e, h3, h4⟩ := az.split h2
  refine ⟨u :: us1, us2, rfl, by simp [e], ?_, h4⟩
  unfold az
  exact ⟨u, us1, rfl, h1, h3⟩
theorem az.length : ∀ {a : List (AV E.C)} {us : List Value}, az P E w S H ρ Fr a us → us.length = a.length
 | [], us, h => by unfold az at h; simp [h]
 | v :: a, us, h => by
  unfold az at h
  obtain ⟨u, us', rfl, _, h2⟩ := h
  simp [az.length h2]
theorem az.io : ∀ {ins : List Sh} {args : List (AV E.C)} {us : List Value}, az P E w S H ρ Fr args us → az P E w S H ρ Fr (f8 E ins args) (eZ ins us)
 | [], args, us, h => by cases args <;> cases us <;> (unfold f8 eZ az; rfl)
 | s :: ins, [], us, h => by
  unfold az at h
  subst h
  cases s <;> (unfold f8 eZ az; rfl)
 | s :: ins, v :: args, us, h => by
  unfold az at h
  obtain ⟨u, us', rfl, h1, h2⟩ := h
  cases s <;> unfold f8 eZ <;> first | exact az.io h2 | (unfold az; exact ⟨u, _, rfl, h1, az.io h2⟩)
def AQ : Sh → Ob E.C → Prop
 | .rowh t, o => ∃ l, o = .row t l false
 | .boxh t _, o => ∃ x, o = .box t x false
 | _, _ => False
def jx : List Sh → List Sh
 | [] => []
 | .hole _ :: r => jx r
 | .nilh :: r => jx r
 | s :: r => s :: jx r
theorem jm : ∀ {ins : List Sh} {n0 m j : Nat}, (bf ins n0)[j]? = some m → n0 ≤ m
 | [], _, _, _, h => by simp [bf] at h
 | s :: r, n0, m, j, h => by
  have key : ∀ {k : Nat}, (n0 :: bf r (n0 + k))[j]? = some m → n0 ≤ m := by
   intro k h
   cases j with
   | zero => simp at h; omega
   | succ j => have := jm (ins := r) (by simpa using h); omega
  cases s with
  | hole t => exact jm (ins := r) (by simpa [bf] using h)
  | nilh => exact jm (ins := r) (by simpa [bf] using h)
  | _ => exact key (by simpa [bf] using h)
theorem iB : ∀ {ins : List Sh} {n0 m j j' : Nat}, iX ins = true → (bf ins n0)[j]? = some m → (bf ins n0)[j']? = some m → j = j'
 | [], _, _, _, _, _, h, _ => by simp [bf] at h
 | s :: r, n0, m, j, j', hk, h, h' => by
  have key : iX r = true → ∀ {k : Nat}, 0 < k → (n0 :: bf r (n0 + k))[j]? = some m → (n0 :: bf r (n0 + k))[j']? = some m → j = j' := by
   intro hk k hk0 h h'
   cases j with
   | zero => cases j' with
    | zero => rfl
    | succ j' => have := jm (ins := r) (by simpa using h'); simp at h; omega
   | succ j => cases j' with
    | zero => have := jm (ins := r) (by simpa using h); simp at h'; omega
    | succ j' =>
     have := iB (j := j) (j' := j') hk (by simpa using h) (by simpa using h')
     rw [this]
  cases s with
  | hole t => exact iB (ins := r) hk (by simpa [bf] using h) (by simpa [bf] using h')
  | nilh => exact iB (ins := r) hk (by simpa [bf] using h) (by simpa [bf] using h')
  | rowh t => exact key hk (k := cN (.rowh t)) (by unfold cN; omega) (by simpa [bf] using h) (by simpa [bf] using h')
  | boxh t s => exact key hk (k := cN (.boxh t s)) (by unfold cN; omega) (by simpa [bf] using h) (by simpa [bf] using h')
  | _ => cases hk
theorem iz : ∀ {ins : List Sh} (x : ap E.C (bh ins)) {n0 j : Nat} {v : AV E.C} {args : List (AV E.C)} {acc : List (Option (Nat × Bool))}, iX ins = true → Ad ins args acc → (f8 E ins args)[j]? = some v →
  ∃ n sh o, (bf ins n0)[j]? = some (n0 + n) ∧ acc[n]? = mY v ∧ (jx ins)[j]? = some sh ∧ (pL E ins x n0).2[n]? = some o ∧ AQ sh o
 | [], x, n0, j, v, args, acc, _, _, h => by unfold f8 at h; cases args <;> simp at h
 | s :: r, x, n0, j, v, [], acc, _, _, h => by cases s <;> (unfold f8 at h; simp at h)
 | s :: r, x, n0, j, v, u :: args, acc, hk, hio, h => by
  unfold Ad at hio
  obtain ⟨h1, h2⟩ := hio
  have e1 : (pL E (s :: r) x n0).2 = (pS E s x.1 n0).2 ++ (pL E r x.2 (n0 + (pS E s x.1 n0).2.length)).2 := rfl
  rw [e1]
  have el := gL (E := E) s x.1 n0
  have key : vi s = true → iX r = true → (u :: f8 E r args)[j]? = some v → (∃ o, (pS E s x.1 n0).2[0]? = some o ∧ AQ s o) →
    ∃ n sh o, (n0 :: bf r (n0 + cN s))[j]? = some (n0 + n) ∧ acc[n]? = mY v ∧ (s :: jx r)[j]? = some sh ∧ ((pS E s x.1 n0).2 ++ (pL E r x.2 (n0 + (pS E s x.1 n0).2.length)).2)[n]? = some o ∧ AQ sh o := by
   intro hi hk h ho
   cases j with
   | zero =>
    simp at h; subst h
    obtain ⟨o, ho, hok⟩ := ho
    refine ⟨0, s, o, by simp, ?_, rfl, ?_, hok⟩
    ·rw [← h1 hi]; cases acc <;> rfl
    ·rw [List.getElem?_append_left (aH ho)]; exact ho
   | succ j =>
    obtain ⟨n, sh, o, g1, g2, g3, g4, g5⟩ := iz (n0 := n0 + cN s) x.2 hk h2 (by simpa using h)
    refine ⟨cN s + n, sh, o, ?_, ?_, by simpa using g3, ?_, g5⟩
    ·rw [← Nat.add_assoc]; simpa using g1
    ·rw [← g2, List.getElem?_drop]
    ·rw [List.getElem?_append_right (by omega), el, Nat.add_sub_cancel_left]; exact g4
  cases s with
  | hole t =>
   have h0 : cN (.hole t) = 0 := by unfold cN; rfl
   obtain ⟨n, sh, o, g1, g2, g3, g4, g5⟩ := iz (n0 := n0) x.2 hk h2 (by simpa [f8] using h)
   exact ⟨n, sh, o, by simpa [bf] using g1, by rw [h0] at g2; simpa using g2, by simpa [jx] using g3, g4, g5⟩
  | nilh =>
   have h0 : cN .nilh = 0 := by unfold cN; rfl
   obtain ⟨n, sh, o, g1, g2, g3, g4, g5⟩ := iz (n0 := n0) x.2 hk h2 (by simpa [f8] using h)
   exact ⟨n, sh, o, by simpa [bf] using g1, by rw [h0] at g2; simpa using g2, by simpa [jx] using g3, g4, g5⟩
  | rowh t => exact key rfl hk (by simpa [f8] using h) ⟨_, rfl, _, rfl⟩
  | boxh t sh => exact key rfl hk (by simpa [f8] using h) ⟨_, rfl, _, rfl⟩
  | _ => cases hk
theorem kf : ∀ {outs : List Sh} (y : ap E.C (bh outs)) {n0 j k : Nat} {sh : Sh}, (dL outs n0)[j]? = some (n0 + k) → outs[j]? = some sh → vi sh = true → ∃ o, (pL E outs y n0).2[k]? = some o ∧ AQ sh o
 | [], y, n0, j, k, sh, h, _, _ => by simp [dL] at h
 | s :: r, y, n0, j, k, sh, h, hs, hi => by
  have e1 : (pL E (s :: r) y n0).2 = (pS E s y.1 n0).2 ++ (pL E r y.2 (n0 + (pS E s y.1 n0).2.length)).2 := rfl
  have el := gL (E := E) s y.1 n0
  rw [e1]
  unfold dL at h
  cases j with
  | zero =>
   simp at h hs
   subst hs
   subst h
   cases s <;> first | (cases hi; done) | exact ⟨_, rfl, _, rfl⟩
  | succ j =>
   simp only [List.getElem?_cons_succ] at h hs
   have hge : n0 + cN s ≤ n0 + k := by
    have key : ∀ {r : List Sh} {m j p : Nat}, (dL r m)[j]? = some p → m ≤ p := by
     intro r
     induction r with
     | nil => intro m j p h; simp [dL] at h
     | cons s r ih =>
      intro m j p h
      unfold dL at h
      cases j with
      | zero => simp at h; omega
      | succ j => have := ih (by simpa using h); omega
    exact key h
   obtain ⟨o, g1, g2⟩ := kf (n0 := n0 + cN s) (k := k - cN s) y.2 (by rw [h]; congr 1; omega) hs hi
   refine ⟨o, ?_, g2⟩
   rw [List.getElem?_append_right (by omega), el]
   exact g1
theorem gE : ∀ {ins outs : List Sh} {j : Nat} {sh : Sh}, iX ins = true → fC ins outs = true → (jx ins)[j]? = some sh → ∃ sh', outs[j]? = some sh' ∧ vi sh' = true ∧ ((∃ t, sh = .rowh t ∧ sh' = .rowh t) ∨ ∃ t s s', sh = .boxh t s ∧ sh' = .boxh t s')
 | [], outs, j, sh, _, _, h => by simp [jx] at h
 | s :: r, outs, j, sh, hk, hs, h => by
  cases s with
  | hole t => exact gE (ins := r) hk (by simpa [fC] using hs) (by simpa [jx] using h)
  | nilh => exact gE (ins := r) hk (by simpa [fC] using hs) (by simpa [jx] using h)
  | rowh t =>
   cases outs with
   | nil => simp [fC] at hs
   | cons o outs =>
    cases o <;> simp [fC] at hs
    rename_i t'
    obtain rfl := Ty.eq_of_beq hs.1
    cases j with
    | zero => simp [jx] at h; subst h; exact ⟨_, rfl, rfl, .inl ⟨t, rfl, rfl⟩⟩
    | succ j => exact gE (ins := r) (outs := outs) hk hs.2 (by simpa [jx] using h)
  | boxh t s =>
   cases outs with
   | nil => simp [fC] at hs
   | cons o outs =>
    cases o <;> simp [fC] at hs
    rename_i t' s'
    obtain rfl := Ty.eq_of_beq hs.1
    cases j with
    | zero => simp [jx] at h; subst h; exact ⟨_, rfl, rfl, .inr ⟨t, s, s', rfl, rfl⟩⟩
    | succ j => exact gE (ins := r) (outs := outs) hk hs.2 (by simpa [jx] using h)
  | _ => cases hk
mutual
theorem mp {S2 : Nat → Prop} : ∀ (s : Sh) (x : ap E.C (jL s)) (n : Nat), wZ E s = true →
  (∀ cs, bc E w S H ρ Fr (pS E s x n).1 cs → bc E w S2 H ρ Fr (pS E s x n).1 cs) ∧ (∀ u, aF P E w S H ρ Fr (pS E s x n).1 u → aF P E w S2 H ρ Fr (pS E s x n).1 u) ∧
   ∀ (k : Nat) (o : Ob E.C), (pS E s x n).2[k]? = some o → ∀ i, dw E w S H ρ Fr i o → dw E w S2 H ρ Fr i o
 | .hole t, x, n, hs => by
  have hs : scal E 40 t = true := hs
  refine ⟨fun cs h => ?_, fun u h => ?_, fun k o hk => by change ([] : List (Ob E.C))[k]? = _ at hk; simp at hk⟩
  ·change bc E w S2 H ρ Fr (.pv t x) cs
   change bc E w S H ρ Fr (.pv t x) cs at h
   unfold bc at h ⊢
   exact h.scal 40 hs
  ·change aF P E w S2 H ρ Fr (.pv t x) u
   change aF P E w S H ρ Fr (.pv t x) u at h
   have hn : ∀ a b, t ≠ .fn a b := by rintro a b rfl; cases hs
   obtain ⟨cs, c1, c2⟩ := (cF hn).1 h
   exact (cF hn).2 ⟨cs, c1.scal 40 hs, c2⟩
 | .rowh t, x, n, hs => by
  have hs : scal E 40 t = true := hs
  refine ⟨fun cs h => ?_, fun u h => ?_, fun k o hk i ho => ?_⟩
  ·change bc E w S2 H ρ Fr (.row n) cs
   change bc E w S H ρ Fr (.row n) cs at h
   unfold bc at h ⊢; exact h
  ·change aF P E w S2 H ρ Fr (.row n) u
   change aF P E w S H ρ Fr (.row n) u at h
   unfold aF at h ⊢; exact h
  ·change [Ob.row t x false][k]? = _ at hk
   cases k with
   | succ k => simp at hk
   | zero =>
    simp at hk; subst hk
    unfold dw at ho ⊢
    rcases ho with h1 | ⟨q, c, T, css, h1, h2, h3, h4, h5, h6, h7⟩
    ·exact .inl h1
    ·exact .inr ⟨q, c, T, css, h1, h2, h3, h4, fun j x hx => (h5 j x hx).scal 40 hs, h6, fun hh => (nomatch hh)⟩
 | .boxh t s, x, n, hs => by
  obtain ⟨a1, a2, a3⟩ := mp (S2 := S2) s x (n + 1) hs
  refine ⟨fun cs h => ?_, fun u h => ?_, fun k o hk i ho => ?_⟩
  ·change bc E w S2 H ρ Fr (.adr n [] t) cs
   change bc E w S H ρ Fr (.adr n [] t) cs at h
   unfold bc at h ⊢; exact h
  ·change aF P E w S2 H ρ Fr (.adr n [] t) u
   change aF P E w S H ρ Fr (.adr n [] t) u at h
   unfold aF at h ⊢; exact h
  ·change (Ob.box t (pS E s x (n + 1)).1 false :: (pS E s x (n + 1)).2)[k]? = _ at hk
   cases k with
   | zero =>
    simp at hk; subst hk
    unfold dw at ho ⊢
    obtain ⟨q, T, cs, h1, h2, h3, h4, h5⟩ := ho
    exact ⟨q, T, cs, h1, h2, h3, a1 cs h4, fun hh => (nomatch hh)⟩
   | succ k => exact a3 k o (by simpa using hk) i ho
 | .aggh m ss, x, n, hs => by
  obtain ⟨a1, a2, a3⟩ := ke (S2 := S2) ss x n hs
  refine ⟨fun cs h => ?_, fun u h => ?_, a3⟩
  ·change bc E w S2 H ρ Fr (.agg m (pL E ss x n).1) cs
   change bc E w S H ρ Fr (.agg m (pL E ss x n).1) cs at h
   unfold bc at h ⊢; exact a1 _ _ h
  ·change aF P E w S2 H ρ Fr (.agg m (pL E ss x n).1) u
   change aF P E w S H ρ Fr (.agg m (pL E ss x n).1) u at h
   unfold aF at h ⊢
   obtain ⟨cs, h, e⟩ := h
   exact ⟨cs, a1 _ _ h, e⟩
 | .same j, x, n, hs => by
  refine ⟨fun cs h => ?_, fun u h => ?_, fun k o hk => by change ([] : List (Ob E.C))[k]? = _ at hk; simp at hk⟩
  ·change bc E w S2 H ρ Fr (.row j) cs
   change bc E w S H ρ Fr (.row j) cs at h
   unfold bc at h ⊢; exact h
  ·change aF P E w S2 H ρ Fr (.row j) u
   change aF P E w S H ρ Fr (.row j) u at h
   unfold aF at h ⊢; exact h
 | .part j, x, n, hs => by
  refine ⟨fun cs h => ?_, fun u h => ?_, fun k o hk => by change ([] : List (Ob E.C))[k]? = _ at hk; simp at hk⟩
  ·change bc E w S2 H ρ Fr (.sub j _ _) cs
   change bc E w S H ρ Fr (.sub j _ _) cs at h
   unfold bc at h ⊢; exact h
  ·change aF P E w S2 H ρ Fr (.sub j _ _) u
   change aF P E w S H ρ Fr (.sub j _ _) u at h
   unfold aF at h ⊢; exact h
 | .nilh, x, n, hs => by
  refine ⟨fun cs h => ?_, fun u h => ?_, fun k o hk => by change ([] : List (Ob E.C))[k]? = _ at hk; simp at hk⟩
  ·change bc E w S2 H ρ Fr .nils cs
   change bc E w S H ρ Fr .nils cs at h
   unfold bc at h ⊢; exact h
  ·change aF P E w S2 H ρ Fr .nils u
   change aF P E w S H ρ Fr .nils u at h
   unfold aF at h ⊢; exact h
theorem ke {S2 : Nat → Prop} : ∀ (ss : List Sh) (x : ap E.C (bh ss)) (n : Nat), nU E ss = true →
  (∀ t cs, dY E w S H ρ Fr (pL E ss x n).1 t cs → dY E w S2 H ρ Fr (pL E ss x n).1 t cs) ∧ (∀ us, az P E w S H ρ Fr (pL E ss x n).1 us → az P E w S2 H ρ Fr (pL E ss x n).1 us) ∧
   ∀ (k : Nat) (o : Ob E.C), (pL E ss x n).2[k]? = some o → ∀ i, dw E w S H ρ Fr i o → dw E w S2 H ρ Fr i o
 | [], x, n, hs => by
  refine ⟨fun t cs h => ?_, fun u h => ?_, fun k o hk => by change ([] : List (Ob E.C))[k]? = _ at hk; simp at hk⟩
  ·change dY E w S2 H ρ Fr [] t cs
   change dY E w S H ρ Fr [] t cs at h
   unfold dY at h ⊢; exact h
  ·change az P E w S2 H ρ Fr [] u
   change az P E w S H ρ Fr [] u at h
   unfold az at h ⊢; exact h
 | s :: ss, x, n, hs => by
  unfold nU at hs
  simp only [Bool.and_eq_true] at hs
  obtain ⟨a1, a2, a3⟩ := mp (S2 := S2) s x.1 n hs.1
  obtain ⟨b1, b2, b3⟩ := ke (S2 := S2) ss x.2 (n + (pS E s x.1 n).2.length) hs.2
  refine ⟨fun t cs h => ?_, fun u h => ?_, fun k o hk i ho => ?_⟩
  ·change dY E w S2 H ρ Fr ((pS E s x.1 n).1 :: (pL E ss x.2 (n + (pS E s x.1 n).2.length)).1) t cs
   change dY E w S H ρ Fr ((pS E s x.1 n).1 :: (pL E ss x.2 (n + (pS E s x.1 n).2.length)).1) t cs at h
   unfold dY at h ⊢
   obtain ⟨a, b, c, d, e1, e2, e3, h1, h2⟩ := h
   exact ⟨a, b, c, d, e1, e2, e3, a1 c h1, b1 b d h2⟩
  ·change az P E w S2 H ρ Fr ((pS E s x.1 n).1 :: (pL E ss x.2 (n + (pS E s x.1 n).2.length)).1) u
   change az P E w S H ρ Fr ((pS E s x.1 n).1 :: (pL E ss x.2 (n + (pS E s x.1 n).2.length)).1) u at h
   unfold az at h ⊢
   obtain ⟨u, us, e, h1, h2⟩ := h
   exact ⟨u, us, e, a2 u h1, b2 us h2⟩
  ·change ((pS E s x.1 n).2 ++ (pL E ss x.2 (n + (pS E s x.1 n).2.length)).2)[k]? = _ at hk
   by_cases hlt : k < (pS E s x.1 n).2.length
   ·rw [List.getElem?_append_left hlt] at hk; exact a3 k o hk i ho
   ·rw [List.getElem?_append_right (by omega)] at hk; exact b3 _ o hk i ho
end
theorem dy : ∀ (us : List (Nat × Ob E.C)) (H : List (Ob E.C)) (j : Nat), (∀ u, u ∈ us → u.1 ≠ j) → (co us H)[j]? = H[j]?
 | [], H, j, _ => rfl
 | (i, o) :: us, H, j, h => by
  unfold co
  rw [dy us _ j fun u hu => h u (by simp [hu]), cj _ _ fun e => h (i, o) (by simp) e.symm]
theorem po : ∀ (us : List (Nat × Ob E.C)) (H : List (Ob E.C)) (m j : Nat) (o : Ob E.C), us[m]? = some (j, o) → (∀ m' u, m < m' → us[m']? = some u → u.1 ≠ j) → j < H.length → (co us H)[j]? = some o
 | [], H, m, j, o, h, _, _ => by simp at h
 | (i, o') :: us, H, 0, j, o, h, hn, hl => by
  simp at h
  obtain ⟨rfl, rfl⟩ := h
  unfold co
  rw [dy us _ i fun u hu => ?_]
  ·exact bR _ _ hl
  ·obtain ⟨m', hm'⟩ := List.mem_iff_getElem?.1 hu
   exact hn (m' + 1) u (by omega) (by simpa using hm')
 | (i, o') :: us, H, m + 1, j, o, h, hn, hl => by
  unfold co
  exact po us _ m j o (by simpa using h) (fun m' u hlt hm => hn (m' + 1) u (by omega) (by simpa using hm)) (by rw [aY]; exact hl)
theorem jU : ∀ (os : List (Ob E.C)) (s m : Nat), (jM E s os)[m]? = (os[m]?).map fun o => (s + m, o)
 | [], _, _ => by simp [jM]
 | o :: os, s, 0 => by simp [jM]
 | o :: os, s, m + 1 => by
  simp only [jM, List.getElem?_cons_succ]
  rw [jU os (s + 1) m]
  cases os[m]? <;> simp; omega
theorem gW : ∀ (acc : List (Option (Nat × Bool))) (u : Nat × Ob E.C), u ∈ eN E acc ↔ ∃ i b, some (i, b) ∈ acc ∧ u = (i, .dead)
 | [], u => by simp [eN]
 | none :: r, u => by simp [eN, gW r u]
 | some (i, b) :: r, u => by
  simp only [eN, List.mem_cons, gW r u]
  constructor
  ·rintro (rfl | ⟨i', b', h, rfl⟩)
   ·exact ⟨i, b, .inl rfl, rfl⟩
   ·exact ⟨i', b', .inr h, rfl⟩
  ·rintro ⟨i', b', h | h, rfl⟩
   ·cases h; exact .inl rfl
   ·exact .inr ⟨i', b', h, rfl⟩
theorem kK : ∀ (acc : List (Option (Nat × Bool))) (H : List (Ob E.C)) (j : Nat), (∃ b, some (j, b) ∈ acc) → ∀ o, (co (eN E acc) H)[j]? = some o → o = .dead
 | [], H, j, h, o, _ => by simp at h
 | none :: r, H, j, h, o, ho => kK r H j (by simpa using h) o (by simpa [eN] using ho)
 | some (i, b) :: r, H, j, h, o, ho => by
  simp only [eN] at ho
  unfold co at ho
  by_cases h2 : ∃ b, some (j, b) ∈ r
  ·exact kK r _ j h2 o ho
  ·rw [dy _ _ j] at ho
   ·obtain ⟨b', h3⟩ := h
    rcases List.mem_cons.1 h3 with h3 | h3
    ·cases h3
     rw [aQ, if_pos rfl] at ho
     split at ho
     ·cases ho; rfl
     ·cases ho
    ·exact (h2 ⟨b', h3⟩).elim
   ·intro u hu e
    obtain ⟨i', b', h4, rfl⟩ := (gW r u).1 hu
    exact h2 ⟨b', e ▸ h4⟩
theorem yj : ∀ {vs : List (AV E.C)} {us : List Value}, az P E w S H ρ Fr vs us → aF P E w S H ρ Fr (one E vs) (sd us)
 | [], us, h => by
  have := h
  unfold az at this
  subst this
  unfold one sd aF
  exact ⟨[], rfl, h⟩
 | [v], us, h => by
  unfold az at h
  obtain ⟨u, us', rfl, h1, h2⟩ := h
  unfold az at h2
  subst h2
  exact h1
 | v :: v' :: vs, us, h => by
  have h0 := h
  unfold az at h
  obtain ⟨u, us', rfl, h1, h2⟩ := h
  have h3 := h2
  unfold az at h3
  obtain ⟨u', us'', rfl, _, _⟩ := h3
  unfold one sd aF
  exact ⟨u :: u' :: us'', rfl, h0⟩
end
end Go.Ev
end
section
namespace Go.Ev
section
variable {P : Program} {E : dD} {w w' : World} {S S' : Nat → Prop} {H H' : List (Ob E.C)} {ρ ρ' : Nat → Option Pl} {Fr Fr' : Nat → Prop} {F : List (Nat × cw E.C)}
variable {T : List Nat} {r : lF E.C × List Nat}
theorem yd {s : Sh} {x : ap E.C (jL s)} {n k : Nat} {o : Ob E.C} (h : (pS E s x n).2[k]? = some o) : o ≠ .dead := by
 have key : (∀ (s : Sh) (x : ap E.C (jL s)) (n k : Nat) (o : Ob E.C), (pS E s x n).2[k]? = some o → o ≠ .dead) := by
  intro s
  refine Sh.rec (motive_1 := fun s => ∀ (x : ap E.C (jL s)) (n k : Nat) (o : Ob E.C), (pS E s x n).2[k]? = some o → o ≠ .dead)
   (motive_2 := fun ss => ∀ (x : ap E.C (bh ss)) (n k : Nat) (o : Ob E.C), (pL E ss x n).2[k]? = some o → o ≠ .dead) ?_ ?_ ?_ ?_ ?_ ?_ ?_ ?_ ?_ s
  ·intro t x n k o h; change ([] : List (Ob E.C))[k]? = _ at h; simp at h
  ·intro t x n k o h
   change [Ob.row t x false][k]? = _ at h
   cases k with
   | zero => simp at h; subst h; simp
   | succ k => simp at h
  ·intro t s ih x n k o h
   change (Ob.box t (pS E s x (n + 1)).1 false :: (pS E s x (n + 1)).2)[k]? = _ at h
   cases k with
   | zero => simp at h; subst h; simp
   | succ k => exact ih x (n + 1) k o (by simpa using h)
  ·intro m ss ih x n k o h; exact ih x n k o h
  ·intro j x n k o h; change ([] : List (Ob E.C))[k]? = _ at h; simp at h
  ·intro j x n k o h; change ([] : List (Ob E.C))[k]? = _ at h; simp at h
  ·intro x n k o h; change ([] : List (Ob E.C))[k]? = _ at h; simp at h
  ·intro x n k o h; change ([] : List (Ob E.C))[k]? = _ at h; simp at h
  ·intro s ss ih1 ih2 x n k o h
   change ((pS E s x.1 n).2 ++ (pL E ss x.2 (n + (pS E s x.1 n).2.length)).2)[k]? = _ at h
   by_cases hlt : k < (pS E s x.1 n).2.length
   ·rw [List.getElem?_append_left hlt] at h; exact ih1 _ _ _ _ h
   ·rw [List.getElem?_append_right (by omega)] at h; exact ih2 _ _ _ _ h
 exact key s x n k o h
theorem uS : ∀ {ss : List Sh} {x : ap E.C (bh ss)} {n k : Nat} {o : Ob E.C}, (pL E ss x n).2[k]? = some o → o ≠ .dead
 | [], x, n, k, o, h => by change ([] : List (Ob E.C))[k]? = _ at h; simp at h
 | s :: ss, x, n, k, o, h => by
  change ((pS E s x.1 n).2 ++ (pL E ss x.2 (n + (pS E s x.1 n).2.length)).2)[k]? = _ at h
  by_cases hlt : k < (pS E s x.1 n).2.length
  ·rw [List.getElem?_append_left hlt] at h; exact yd h
  ·rw [List.getElem?_append_right (by omega)] at h; exact uS h
theorem s4 (hT : eP P E) (hC : dp P F) (hF : jq P E F) {o : Oper} {a : Act} {tm : List (AV E.C)} (st : tP P E a w S H ρ Fr tm) {s : Nat} {f : FuncId} {args : Array Operand} {ats : Array TypeId} (ho : o.op = .call ⟨.value (.func f), args, ats⟩)
  (hs : ∀ j, s ≤ j → j < s + bg E F o.op → Fr j) (hl : s + bg E F o.op ≤ H.length)
  (h : aj H (wx E F s f (args.toList.map (cX E tm))) T = some r) : qJ P E o a w S H ρ Fr s (bg E F o.op) r.1 := by
 have hargs := gI st args.toList
 have eargs : (args.toList.map a.eval).toArray = args.map a.eval := by apply Array.ext'; simp
 have hp := st.hp
 unfold wx at h
 split at h
 case h_2 => cases h
 rename_i sp hsp
 obtain ⟨hen, hgood⟩ := hF f sp hsp
 have eal : bg E F o.op = f6 sp.outs := by rw [ho]; simp only [bg, hsp]
 rw [eal] at hs hl ⊢
 replace h := zX hT.env hp hC st.sb h
 obtain ⟨x, acc, Tr, T1, h, hrd, hio, _, hpg⟩ := h
 replace h := aT h
 obtain ⟨hc, h⟩ := h
 simp only [Bool.and_eq_true] at hc
 obtain ⟨hins, hsame, hnd⟩ := hc
 replace h := dr h
 obtain ⟨y, hy, h⟩ := h
 obtain ⟨ρ1, pg, hav⟩ := hpg hnd _ hargs
 replace h := jV _ _ _ _ _ _ _ _ _ _ h
 obtain ⟨rs, z, ids1, ups1, os1, h, hle, hul, hs1, hs2, hun, hnw, hθ1⟩ := h
 replace h := lZ _ _ _ _ _ _ _ h
 obtain ⟨ids2, vs, os2, h, hl2, hj2, hθ2⟩ := h
 simp only [List.nil_append] at h hθ1 hθ2
 generalize hθd : (fun k => ((ids1 ++ ids2)[k]?).getD 0 : Nat → Nat) = θ
 have hθ : ∀ k i, (ids1 ++ ids2)[k]? = some i → θ k = i := fun k i hk => by rw [← hθd]; simp only [hk, Option.getD_some]
 obtain ⟨pv, Hb, q1, q2, q3, q4, q5⟩ := hθ1 θ (fun k i hk => hθ k i (by rw [List.getElem?_append_left (aH hk)]; exact hk))
 obtain ⟨b1, b2⟩ := hθ2 θ hθ
 simp only [List.length_nil, Nat.zero_add] at q1 q2 q5
 have hbnd := pg.bs.bnd
 have hcall := hgood w (ST S ρ Tr) ρ1 x _ y hbnd pg.hp hav hy
 rw [eargs] at hcall
 have hHcl : (pL E sp.outs y 0).2.length = ids1.length + ids2.length := by rw [q2, List.length_append, q3, k9, hl2]
 have hHcn : (pL E sp.outs y 0).2.length = f6 sp.outs := k9 _ _ _
 obtain ⟨n1, n2⟩ := ir acc Tr hnd
 have live : ∀ i : Nat, i ∈ Tr → ∃ o : Ob E.C, H[i]? = some o ∧ o.live = true := fun i hi => by
  rcases hrd.2 i hi with h | h
  ·simp at h
  ·exact h
 have accL : ∀ (n j : Nat) (b : Bool), acc[n]? = some (some (j, b)) → ∃ o : Ob E.C, H[j]? = some o ∧ o.live = true := by
  intro n j b h
  have := pg.ac n _ h
  cases b with
  | true => obtain ⟨_, t, l, _, h3⟩ := this; exact ⟨_, h3, rfl⟩
  | false => obtain ⟨⟨o, h1, h2, _⟩, _⟩ := this; exact ⟨o, h1, h2⟩
 have nfr : ∀ (j : Nat) (o : Ob E.C), H[j]? = some o → o.live = true → ¬ Fr j := fun j o h1 h2 => hp.nfr h1 (cd h2)
 have ioN : ∀ (j : Nat) (v : AV E.C), (f8 E sp.ins (args.toList.map (cX E tm)))[j]? = some v → ∃ n, (bf sp.ins 0)[j]? = some n ∧ acc[n]? = mY v := by
  intro j v hv
  obtain ⟨n, sh, o, g1, g2, _⟩ := iz (n0 := 0) x hins hio hv
  exact ⟨n, by simpa using g1, g2⟩
 have Hex : ∀ u : List (Nat × Ob E.C), bE H s ⟨one E vs, os1 ++ os2, eN E acc ++ ups1 ++ u⟩ = co u (co ups1 (co (eN E acc) (co (jM E s (os1 ++ os2)) H))) := by
  intro u; unfold bE; rw [hG, hG]
 have nlen : (os1 ++ os2).length ≤ f6 sp.outs := by
  rw [b2, List.length_append, List.length_map, k9, ← hHcn, hHcl, hl2]; omega
 have ioAcc : ∀ (j : Nat) (v : AV E.C) (p : AV E.C) (i k : Nat) (o : Ob E.C), (f8 E sp.ins (args.toList.map (cX E tm)))[j]? = some v → B2 v p i k o → ∃ (n : Nat) (b : Bool), (bf sp.ins 0)[j]? = some n ∧ acc[n]? = some (some (i, b)) ∧ (v = .row i → b = true) := by
  intro j v p i k o hv hk
  obtain ⟨n, g1, g2⟩ := ioN j v hv
  rcases hk with ⟨rfl, _⟩ | ⟨ta, t, x, rfl, _⟩
  ·exact ⟨n, true, g1, g2, fun _ => rfl⟩
  ·exact ⟨n, false, g1, g2, fun h => by cases h⟩
 have kOf : ∀ (k : Nat) (o : Ob E.C), (pL E sp.outs y 0).2[k]? = some o →
   (∃ (j : Nat) (v p : AV E.C) (i : Nat), (f8 E sp.ins (args.toList.map (cX E tm)))[j]? = some v ∧ pv[j]? = some p ∧ B2 v p i k o ∧ ups1[j]? = some (i, iN θ o) ∧ (dL sp.outs 0)[j]? = some k ∧ θ k = i) ∨
   ∃ m, (os1 ++ os2)[m]? = some (iN θ o) ∧ θ k = s + m := by
  intro k o hk
  rw [q2] at hk
  by_cases hlt : k < Hb.length
  ·rw [List.getElem?_append_left hlt] at hk
   obtain ⟨i, g1, g2⟩ := q5 k o hk
   have hi := hθ k i (by rw [List.getElem?_append_left (by omega)]; exact g1)
   rcases g2 with ⟨j, v, p, c1, c2, c3, c4, c5⟩ | ⟨m, c1, c2⟩
   ·exact .inl ⟨j, v, p, i, c1, c2, c3, c4, c5, hi⟩
   ·exact .inr ⟨m, by rw [List.getElem?_append_left (aH c1)]; exact c1, hi.trans c2⟩
  ·rw [List.getElem?_append_right (by omega)] at hk
   have hlt2 : k - Hb.length < f6 rs := by have := aH hk; rw [k9] at this; exact this
   have hi := hθ k _ (by rw [List.getElem?_append_right (by omega), ← q3]; exact hj2 _ hlt2)
   refine .inr ⟨os1.length + (k - Hb.length), ?_, by rw [hi]; omega⟩
   rw [List.getElem?_append_right (by omega), b2, Nat.add_sub_cancel_left, List.getElem?_map, hk]; rfl
 have newRange : ∀ m (o : Ob E.C), (os1 ++ os2)[m]? = some o → s ≤ s + m ∧ s + m < s + f6 sp.outs := fun m o h => ⟨by omega, by have := aH h; omega⟩
 have hinj : ∀ k k', k < (pL E sp.outs y 0).2.length → k' < (pL E sp.outs y 0).2.length → θ k = θ k' → k = k' := by
  intro k k' hk hk' e
  have h1 := kOf k _ (List.getElem?_eq_getElem hk)
  have h2 := kOf k' _ (List.getElem?_eq_getElem hk')
  rcases h1 with ⟨j, v, p, i, a1, a2, a3, a4, a5, a6⟩ | ⟨m, a1, a2⟩
  ·obtain ⟨n, b, g1, g2, _⟩ := ioAcc j v p i k _ a1 a3
   rcases h2 with ⟨j', v', p', i', c1, c2, c3, c4, c5, c6⟩ | ⟨m', c1, c2⟩
   ·obtain ⟨n', b', d1, d2, _⟩ := ioAcc j' v' p' i' k' _ c1 c3
    have ei : i = i' := by rw [← a6, ← c6, e]
    subst ei
    have en := n2 n n' i b b' g2 d2
    subst en
    have ej := iB hins g1 d1
    subst ej
    rw [a5] at c5; exact Option.some.inj c5
   ·obtain ⟨o', e1, e2⟩ := accL n i b g2
    have := newRange m' _ c1
    exact (nfr i o' e1 e2 (hs i (by omega) (by omega))).elim
  ·rcases h2 with ⟨j', v', p', i', c1, c2, c3, c4, c5, c6⟩ | ⟨m', c1, c2⟩
   ·obtain ⟨n', b', d1, d2, _⟩ := ioAcc j' v' p' i' k' _ c1 c3
    obtain ⟨o', e1, e2⟩ := accL n' i' b' d2
    have := newRange m _ a1
    exact (nfr i' o' e1 e2 (hs i' (by omega) (by omega))).elim
   ·
    have r1 := newRange m _ a1
    have r2 := newRange m' _ c1
    have hNw : ∀ (j : Nat) (v : AV E.C), (f8 E sp.ins (args.toList.map (cX E tm)))[j]? = some v → ¬ (s ≤ nO v ∧ nO v < s + f6 sp.outs) := by
     intro j v hv hr
     obtain ⟨n, f1, f2⟩ := ioN j v hv
     obtain ⟨u, hu⟩ : ∃ u, ups1[j]? = some u := ⟨_, List.getElem?_eq_getElem (by rw [hul]; exact aH hv)⟩
     have live2 : ∀ i b, acc[n]? = some (some (i, b)) → ¬ (s ≤ i ∧ i < s + f6 sp.outs) := fun i b hh hr => by
      obtain ⟨o', e1, e2⟩ := accL n i b hh
      exact nfr i o' e1 e2 (hs i hr.1 hr.2)
     rcases (hun j v u hv hu).2 with ⟨i, rfl⟩ | ⟨i, ta, rfl⟩
     ·exact live2 i _ f2 hr
     ·exact live2 i _ f2 hr
    obtain ⟨w1, w2⟩ := hnw (fun i => s ≤ i ∧ i < s + f6 sp.outs) hNw
    have in1 : ∀ k, k < ids1.length → ids1[k]? = some (θ k) := fun k hk => by
     rw [List.getElem?_eq_getElem hk]
     have := hθ k ids1[k] (by rw [List.getElem?_append_left hk, List.getElem?_eq_getElem hk])
     rw [this]
    have in2 : ∀ k, ids1.length ≤ k → k < (pL E sp.outs y 0).2.length → θ k = s + os1.length + (k - ids1.length) := fun k hk hk' => by
     refine hθ k _ ?_
     rw [List.getElem?_append_right hk]
     exact hj2 _ (by omega)
    by_cases hlt : k < ids1.length
    ·by_cases hlt' : k' < ids1.length
     ·exact w2 k k' (θ k) (in1 k hlt) (by rw [e]; exact in1 k' hlt') (by omega)
     ·have := w1 k (θ k) (in1 k hlt) (by omega)
      have := in2 k' (by omega) hk'
      omega
    ·by_cases hlt' : k' < ids1.length
     ·have := w1 k' (θ k') (in1 k' hlt') (by omega)
      have := in2 k (by omega) hk
      omega
     ·have := in2 k (by omega) hk
      have := in2 k' (by omega) hk'
      omega
 have upAcc : ∀ u, u ∈ ups1 → ∃ (n : Nat) (b : Bool), acc[n]? = some (some (u.1, b)) := by
  intro u hu
  obtain ⟨m, hm⟩ := List.mem_iff_getElem?.1 hu
  obtain ⟨v, hv⟩ : ∃ v, (f8 E sp.ins (args.toList.map (cX E tm)))[m]? = some v := ⟨_, List.getElem?_eq_getElem (by rw [← hul]; exact aH hm)⟩
  obtain ⟨n, f1, f2⟩ := ioN m v hv
  obtain ⟨g1, g2⟩ := hun m v u hv hm
  rw [g1]
  rcases g2 with ⟨i, rfl⟩ | ⟨i, ta, rfl⟩
  ·exact ⟨n, true, f2⟩
  ·exact ⟨n, false, f2⟩
 have notRange : ∀ (n j : Nat) (b : Bool), acc[n]? = some (some (j, b)) → ¬ (s ≤ j ∧ j < s + f6 sp.outs) := fun n j b hh hr => by
  obtain ⟨o', e1, e2⟩ := accL n j b hh
  exact nfr j o' e1 e2 (hs j hr.1 hr.2)
 have fin : ∀ (Tz : List Nat), (∀ i, i ∈ Tz → i ∈ Tr) → r.1 = ⟨one E vs, os1 ++ os2, eN E acc ++ ups1 ++ hO H Tz⟩ → ((Tz = [] ∧ nU E sp.outs = true) ∨ Tz = Tr) → qJ P E o a w S H ρ Fr s (f6 sp.outs) r.1 := by
  intro Tz hTz hr1 hcase next Q hn
  rw [nN ho (show a.eval (.func f) = .func (.func f) #[] #[] from rfl) hen, Oper.upon_enter, Array.append_empty]
  refine hcall.mono fun e w' hpost => ?_
  obtain ⟨S', ρc, rs', rfl, hpc, havc, bs, hplc⟩ := hpost
  show next _ _
  obtain ⟨S'', hpc2, havc2, s1, s2, hz2, hz3⟩ : ∃ S'' : Nat → Prop, dW E w' S'' (pL E sp.outs y 0).2 ρc (far (pL E sp.outs y 0).2) ∧ az P E w' S'' (pL E sp.outs y 0).2 ρc (far (pL E sp.outs y 0).2) (pL E sp.outs y 0).1 (eZ sp.ins (args.toList.map a.eval) ++ rs') ∧
    (∀ b, S b → S'' b) ∧ (∀ b, S'' b → S' b) ∧ (∀ i q, i ∈ Tz → ρ i = some q → S'' q.b) ∧ ((∀ b, S'' b → S b) ∨ ∀ i, i ∈ Tr → i ∈ Tz) := by
   rcases hcase with ⟨rfl, hsc⟩ | rfl
   ·obtain ⟨_, l2, l3⟩ := ke (P := P) (E := E) (w := w') (S := S') (H := (pL E sp.outs y 0).2) (ρ := ρc) (Fr := far (pL E sp.outs y 0).2) (S2 := S) sp.outs y 0 hsc
    refine ⟨S, ⟨fun i o hi => l3 i o hi i (hpc.obs i o hi), fun i o q h1 h2 h3 h4 => hpc.out i o q h1 h2 h3 (bs.sub _ (.inl h4)), hpc.inj, hpc.fre, hpc.far⟩, l2 _ havc, fun _ h => h, fun b h => bs.sub b (.inl h), fun i q hi => by simp at hi, .inl fun _ h => h⟩
   ·exact ⟨S', hpc, havc, fun b h => bs.sub b (.inl h), fun _ h => h, fun i q hi hq => bs.sub _ (.inr ⟨i, q, hi, hq, rfl⟩), .inr fun _ h => h⟩
  rw [q1] at havc2
  obtain ⟨us1, us2, eu, el, av1, av2⟩ := havc2.split
  have hio2 := hargs.io (ins := sp.ins)
  have elen : (eZ sp.ins (args.toList.map a.eval)).length = us1.length := by rw [el, q4, hio2.length]
  obtain ⟨rfl, rfl⟩ := List.append_inj eu elen
  have eH : bE H s r.1 = co (hO H Tz) (co ups1 (co (eN E acc) (co (jM E s (os1 ++ os2)) H))) := by rw [hr1]; exact Hex _
  have eG : (co ups1 (co (eN E acc) (co (jM E s (os1 ++ os2)) H))).length = H.length := by rw [cx, cx, cx]
  have hlen : (bE H s r.1).length = H.length := by rw [eH, cx, eG]
  have atUps : ∀ (m : Nat) (j : Nat) (ob : Ob E.C), ups1[m]? = some (j, ob) → (bE H s r.1)[j]? = some ob := by
   intro m j ob hm
   obtain ⟨n, b, g⟩ := upAcc _ (List.mem_of_getElem? hm)
   obtain ⟨o', e1, e2⟩ := accL n j b g
   rw [eH, il Tz H _ eG, if_neg fun hh => n1 n j b g (hTz j hh)]
   refine po ups1 _ m j ob hm (fun m' u hlt hm' e => ?_) (by rw [cx, cx]; exact aH e1)
   obtain ⟨v, hv⟩ : ∃ v, (f8 E sp.ins (args.toList.map (cX E tm)))[m]? = some v := ⟨_, List.getElem?_eq_getElem (by rw [← hul]; exact aH hm)⟩
   obtain ⟨v', hv'⟩ : ∃ v, (f8 E sp.ins (args.toList.map (cX E tm)))[m']? = some v := ⟨_, List.getElem?_eq_getElem (by rw [← hul]; exact aH hm')⟩
   obtain ⟨na, fa, ga⟩ := ioN m v hv
   obtain ⟨nb, fb, gb⟩ := ioN m' v' hv'
   obtain ⟨ha, ha'⟩ := hun m v _ hv hm
   obtain ⟨hb, hb'⟩ := hun m' v' _ hv' hm'
   have hee : ∀ (v : AV E.C), ((∃ i, v = .row i) ∨ ∃ i ta, v = .adr i [] ta) → ∃ b, mY v = some (some (nO v, b)) := by
    rintro v (⟨i, rfl⟩ | ⟨i, ta, rfl⟩)
    ·exact ⟨true, rfl⟩
    ·exact ⟨false, rfl⟩
   obtain ⟨ba, ea⟩ := hee v ha'
   obtain ⟨bb, eb⟩ := hee v' hb'
   rw [ea] at ga; rw [eb] at gb
   have e0 : nO v = nO v' := by rw [← ha, ← hb]; exact e.symm
   rw [e0] at ga
   have en := n2 na nb _ _ _ ga gb
   subst en
   have := iB hins fa fb
   omega
  have atNew : ∀ (m : Nat) (ob : Ob E.C), (os1 ++ os2)[m]? = some ob → (bE H s r.1)[s + m]? = some ob := by
   intro m ob hm
   have hr2 := newRange m ob hm
   rw [eH, il Tz H _ eG, if_neg fun hh => ?_, dy, dy]
   ·refine po _ _ m (s + m) ob (by rw [jU, hm]; rfl) (fun m' u hlt hm' e => ?_) (by omega)
    rw [jU] at hm'
    cases ho' : (os1 ++ os2)[m']? with
    | none => rw [ho'] at hm'; cases hm'
    | some o' => rw [ho'] at hm'; cases hm'; simp at e; omega
   ·intro u hu e
    obtain ⟨i, b, h1, rfl⟩ := (gW acc u).1 hu
    obtain ⟨n, hn'⟩ := List.mem_iff_getElem?.1 h1
    exact notRange n i b hn' (by simp at e; omega)
   ·intro u hu e
    obtain ⟨n, b, g⟩ := upAcc u hu
    exact notRange n _ b g (by omega)
   ·obtain ⟨o', e1, e2⟩ := live _ (hTz _ hh)
    exact nfr _ o' e1 e2 (hs _ hr2.1 hr2.2)
  have hB : ∀ (k : Nat) (ob : Ob E.C), (pL E sp.outs y 0).2[k]? = some ob → (bE H s r.1)[θ k]? = some (iN θ ob) := by
   intro k ob hk
   rcases kOf k ob hk with ⟨j, v, p, i, a1, a2, a3, a4, a5, a6⟩ | ⟨m, a1, a2⟩
   ·rw [a6]; exact atUps j i _ a4
   ·rw [a2]; exact atNew m _ a1
  have θnew : ∀ m, m < (os1 ++ os2).length → ∃ k, k < (pL E sp.outs y 0).2.length ∧ θ k = s + m := by
   intro m hm
   by_cases hlt : m < os1.length
   ·obtain ⟨k, hk⟩ := hs1 m hlt
    exact ⟨k, by rw [hHcl]; have := aH hk; omega, hθ k _ (by rw [List.getElem?_append_left (aH hk)]; exact hk)⟩
   ·have hm2 : m - os1.length < f6 rs := by
     have : os2.length = f6 rs := by rw [b2, List.length_map, k9]
     simp at hm; omega
    refine ⟨ids1.length + (m - os1.length), by omega, hθ _ _ ?_⟩
    rw [List.getElem?_append_right (by omega), Nat.add_sub_cancel_left, hj2 _ hm2]
    congr 1; omega
  have θup : ∀ u, u ∈ ups1 → ∃ k, k < (pL E sp.outs y 0).2.length ∧ θ k = u.1 := by
   intro u hu
   obtain ⟨k, hk⟩ := hs2 u hu
   exact ⟨k, by rw [hHcl]; have := aH hk; omega, hθ k _ (by rw [List.getElem?_append_left (aH hk)]; exact hk)⟩
  have hnumb : ∀ u, u ∈ jM E s (os1 ++ os2) → ∃ k, k < (pL E sp.outs y 0).2.length ∧ θ k = u.1 := by
   intro u hu
   obtain ⟨m, hm⟩ := List.mem_iff_getElem?.1 hu
   rw [jU] at hm
   cases ho' : (os1 ++ os2)[m]? with
   | none => rw [ho'] at hm; cases hm
   | some o' =>
    rw [ho'] at hm; cases hm
    exact θnew m (aH ho')
  refine And.elim (fun g1 g23 => ?_) (Bf (H' := bE H s r.1) (θ := θ) (s := s) (kk := f6 sp.outs) (Tz := Tz) hp st.sb pg hnd hrd hpc2 bs s1 s2 hTz hz2 hz3 hs hl hlen
   (fun k hk => ?_) hinj (fun j h1 h2 h3 => ?_) hB (fun j n b h1 h2 ob hob => ?_) (fun j hj => by rw [eH, il Tz H _ eG, if_pos hj]) (fun k ob hk => uS hk))
  ·obtain ⟨g2, g3⟩ := g23
   refine hn _ w' S'' _ g1 g2 ?_
   have er : r.1.v = one E vs := by rw [hr1]
   rw [er, b1]
   exact yj (az.rn g3 av2)
  ·have hko : (pL E sp.outs y 0).2[k]? = some (pL E sp.outs y 0).2[k] := List.getElem?_eq_getElem hk
   generalize (pL E sp.outs y 0).2[k] = ob at hko
   rcases kOf k ob hko with ⟨j, v, p, i, a1, a2, a3, a4, a5, a6⟩ | ⟨m, a1, a2⟩
   ·right
    rw [a6]
    obtain ⟨n, b, c1, c2, c3⟩ := ioAcc j v p i k ob a1 a3
    obtain ⟨n', sh, o1, d1, d2, d3, d4, d5⟩ := iz (n0 := 0) x hins hio a1
    rw [Nat.zero_add] at d1
    rw [c1] at d1
    obtain rfl := Option.some.inj d1
    obtain ⟨sh', e1, e2, e3⟩ := gE hins hsame d3
    obtain ⟨o2, f1, f2⟩ := kf (n0 := 0) (k := k) y (by rw [Nat.zero_add]; exact a5) e1 e2
    obtain ⟨u, u1, u2⟩ := hio2.nth a1
    obtain ⟨u', u3, u4⟩ := av1.nth a2
    rw [u1] at u3
    obtain rfl := Option.some.inj u3
    refine ⟨⟨n, b, c2⟩, fun t l fz hh => ?_, fun t x' fz hh => ?_⟩
    ·rw [hko] at hh
     obtain rfl := Option.some.inj hh
     rcases a3 with ⟨rfl, rfl, t0, l0, hob⟩ | ⟨ta, t0, x0, rfl, rfl, hob⟩
     ·cases hob
      obtain rfl := c3 rfl
      have hacc := pg.ac n _ c2
      obtain ⟨k1, t2, l2, k2, k3⟩ := hacc
      rcases e3 with ⟨tt, rfl, rfl⟩ | ⟨tt, s1', s2', rfl, rfl⟩
      ·obtain ⟨l3, rfl⟩ := d5
       obtain ⟨l4, rfl⟩ := f2
       rw [d4] at k2; cases k2
       rw [hko] at f1; cases f1
       have hpk := hplc j n k c1 a5 ⟨t, l, false, hko⟩
       refine ⟨(hpk.trans k1).symm, _, false, k3, ?_⟩
       have hv1 : ia E H ρ Fr i u := by unfold aF at u2; exact u2
       have hv2 : ia E (pL E sp.outs y 0).2 ρc (far (pL E sp.outs y 0).2) k u := by unfold aF at u4; exact u4
       have w1 := hv1.2 _ _ _ k3
       have w2 := hv2.2 _ _ _ hko
       have ob1 := hp.obs i _ k3
       have ob2 := hpc2.obs k _ hko
       rw [hpk.trans k1] at w2
       unfold dw at ob1 ob2
       cases hq : ρ i with
       | none =>
        rw [hq] at ob1
        rw [hpk.trans k1, hq] at ob2
        rcases ob1 with ⟨z1, _⟩ | ⟨_, _, _, _, z1, _⟩
        ·rcases ob2 with ⟨z2, _⟩ | ⟨_, _, _, _, z2, _⟩
         ·rw [z1, z2]
         ·cases z2
        ·cases z1
       | some q =>
        rw [hq] at w1 w2
        obtain ⟨cap, z1, _⟩ := w1
        obtain ⟨cap', z2, _⟩ := w2
        rw [z1] at z2
        simp only [Value.slice.injEq] at z2
        exact z2.2.1
      ·obtain ⟨x2, rfl⟩ := f2
       rw [hko] at f1; cases f1
     ·cases hob
    ·rw [hko] at hh
     obtain rfl := Option.some.inj hh
     rcases a3 with ⟨rfl, rfl, t0, l0, hob⟩ | ⟨ta, t0, x0, rfl, rfl, hob⟩
     ·cases hob
     ·cases hob
      rcases e3 with ⟨tt, rfl, rfl⟩ | ⟨tt, s1', s2', rfl, rfl⟩
      ·obtain ⟨l4, rfl⟩ := f2
       rw [hko] at f1; cases f1
      ·obtain ⟨x3, rfl⟩ := d5
       obtain ⟨x4, rfl⟩ := f2
       rw [hko] at f1; cases f1
       have c2' : acc[n]? = some (some (i, false)) := d2
       obtain ⟨⟨o3, k1, k2, k3⟩, _⟩ := pg.ac n _ c2'
       obtain ⟨x5, rfl⟩ := k3 _ _ _ d4
       have hv1 : j0 E H ρ Fr i [] ta u := by unfold aF at u2; exact u2
       have hv2 : j0 E (pL E sp.outs y 0).2 ρc (far (pL E sp.outs y 0).2) k [] t u := by unfold aF at u4; exact u4
       obtain ⟨q1', o1', w1, w2, w3⟩ := hv1.2.2.1 _ _ _ k1
       obtain ⟨q2', o2', w4, w5, w6⟩ := hv2.2.2.1 _ _ _ hko
       rw [w3] at w6
       refine ⟨q2', q1', x5, false, w4, w1, ?_, k1⟩
       simp [at_] at w6
       exact w6.1
   ·left
    rw [a2]
    have := newRange m _ a1
    omega
  ·rw [eH, il Tz H _ eG, if_neg h3, dy, dy, dy]
   ·intro u hu e
    obtain ⟨k, k1, k2⟩ := hnumb u hu
    exact h1 k k1 (k2.trans e)
   ·intro u hu e
    obtain ⟨i, b, g1, rfl⟩ := (gW acc u).1 hu
    obtain ⟨n, hn'⟩ := List.mem_iff_getElem?.1 g1
    exact h2 n b (e ▸ hn')
   ·intro u hu e
    obtain ⟨n, b, g⟩ := upAcc u hu
    exact h2 n b (e ▸ g)
  ·rw [eH, il Tz H _ eG, if_neg (fun hh => n1 n j b h2 (hTz j hh)), dy] at hob
   ·exact kK acc _ j ⟨b, List.mem_of_getElem? h2⟩ ob hob
   ·intro u hu e
    obtain ⟨k, k1, k2⟩ := θup u hu
    exact h1 k k1 (k2.trans e)
 cases hsc : nU E sp.outs with
 | true =>
  rw [hsc] at h
  simp only [cond_true, aj, Option.some.injEq] at h
  exact fin [] (by simp) (by rw [← h]; simp [hO]) (.inl ⟨rfl, hsc⟩)
 | false =>
  rw [hsc] at h
  replace h := s5 h
  obtain ⟨T3, h, _⟩ := h
  simp only [aj, Option.some.injEq] at h
  exact fin Tr (fun _ h => h) (by rw [← h]) (.inr rfl)
end
end Go.Ev
end
section
namespace Go.Ev
section
variable {P : Program} {E : dD} {w w' : World} {S S' : Nat → Prop} {H H' : List (Ob E.C)} {ρ ρ' : Nat → Option Pl} {Fr Fr' : Nat → Prop} {F : List (Nat × cw E.C)}
theorem zn (hT : eP P E) (hC : dp P F) (hF : jq P E F) {o : Oper} {a : Act} {tm : List (AV E.C)} (st : tP P E a w S H ρ Fr tm) {s : Nat} (hs : ∀ j, s ≤ j → j < s + bg E F o.op → Fr j) (hl : s + bg E F o.op ≤ H.length)
  {r : lF E.C × List Nat} (h : aj H (mI E F s tm o.op) [] = some r) : qJ P E o a w S H ρ Fr s (bg E F o.op) r.1 := by
 by_cases hpl : tD o.op = true
 ·exact wi hT hC st hs hl hpl h
 ·obtain ⟨dst, op, ty, pos, after, guard⟩ := o
  cases op <;> first | (exact absurd rfl hpl) | skip
  rename_i c
  obtain ⟨callee, args, ats⟩ := c
  cases callee with
  | builtin b => exact absurd rfl hpl
  | invoke r m => simp only [mI] at h; cases h
  | value x =>
   cases x with
   | func f => exact s4 hT hC hF st rfl hs hl (by simpa only [mI] using h)
   | tmp t =>
    have := jT (s := s) hT hC (o := ⟨dst, .call ⟨.value (.tmp t), args, ats⟩, ty, pos, after, guard⟩) st rfl (by simpa only [mI] using h)
    simpa [bg] using this
   | const v =>
    have := jT (s := s) hT hC (o := ⟨dst, .call ⟨.value (.const v), args, ats⟩, ty, pos, after, guard⟩) st rfl (by simpa only [mI] using h)
    simpa [bg] using this
   | global g =>
    have := jT (s := s) hT hC (o := ⟨dst, .call ⟨.value (.global g), args, ats⟩, ty, pos, after, guard⟩) st rfl (by simpa only [mI] using h)
    simpa [bg] using this
theorem wa {C : Nat → Type} {α : Type} {H : List (Ob C)} : ∀ (m : HM C α) (T : List Nat) (r : α × List Nat), aj H m T = some r → ∀ i, i ∈ T → i ∈ r.2 := by
 intro m
 induction m with
 | ret a => intro T r h i hi; simp only [aj, Option.some.injEq] at h; subst h; exact hi
 | fail => intro T r h; cases h
 | get j f ih =>
  intro T r h i hi
  replace h := bw h
  obtain ⟨o, _, h⟩ := h
  exact ih o _ r h i (by simp [hi])
 | gd b m ih => intro T r h i hi; exact ih _ r (bI h).2 i hi
 | br b f ih => intro T r h i hi; exact ih b _ r h i hi
 | call t x f ih =>
  intro T r h i hi
  replace h := dr h
  obtain ⟨v, _, h⟩ := h
  exact ih v _ r h i hi
theorem xk {C : Nat → Type} {α : Type} {H G : List (Ob C)} : ∀ (m : HM C α) (T : List Nat) (r : α × List Nat), aj H m T = some r → (∀ i, i ∈ r.2 → G[i]? = H[i]?) → aj G m T = some r := by
 intro m
 induction m with
 | ret a => intro T r h _; exact h
 | fail => intro T r h; cases h
 | get j f ih =>
  intro T r h hg
  replace h := bw h
  obtain ⟨o, ho, h⟩ := h
  have hj : j ∈ r.2 := wa _ _ _ h j (by simp)
  simp only [aj, hg j hj, ho]
  exact ih o _ r h hg
 | gd b m ih =>
  intro T r h hg
  obtain ⟨hb, h⟩ := bI h
  simp only [aj, hb, if_true]
  exact ih _ r h hg
 | br b f ih => intro T r h hg; exact ih b _ r h hg
 | call t x f ih =>
  intro T r h hg
  replace h := dr h
  obtain ⟨v, hv, h⟩ := h
  simp only [aj, hv]
  exact ih v _ r h hg
theorem ye {tm tm' : List (AV E.C)} {x : Operand} (h : ∀ t, x = .tmp t → tm'[t]? = tm[t]?) : cX E tm' x = cX E tm x := by
 cases x with
 | tmp t => have := h t rfl; unfold cX; dsimp only; rw [this]
 | _ => rfl
theorem sX : ∀ {xs : List Operand} {t : Nat}, Operand.tmp t ∈ xs → t ∈ ja xs := by
 intro xs
 induction xs with
 | nil => intro t h; simp at h
 | cons x xs ih =>
  intro t h
  rcases List.mem_cons.1 h with h | h
  ·subst h; simp [ja]
  ·have := ih h
   cases x <;> simp [ja, this]
theorem xQ {s : Nat} {tm tm' : List (AV E.C)} {op : Op} (h : ∀ t, t ∈ ja (tr op) → tm'[t]? = tm[t]?) : mI E F s tm' op = mI E F s tm op := by
 have hx : ∀ x, x ∈ tr op → cX E tm' x = cX E tm x := fun x hx => ye fun t e => h t (sX (e ▸ hx))
 clear h
 have pairs : ∀ ps : Array (Nat × Operand), (∀ x ∈ ps.toList.map (·.2), cX E tm' x = cX E tm x) → (ps.toList.map fun p => (p.1, cX E tm' p.2)) = (ps.toList.map fun p => (p.1, cX E tm p.2)) := fun ps hp =>
  List.map_congr_left fun p hm => by rw [hp p.2 (List.mem_map.2 ⟨p, hm, rfl⟩)]
 have maps : ∀ xs : List Operand, (∀ x ∈ xs, cX E tm' x = cX E tm x) → xs.map (cX E tm') = xs.map (cX E tm) := fun xs hp => List.map_congr_left hp
 cases op <;> simp only [tr] at hx <;> simp only [mI]
 case move x => rw [hx x (by simp)]
 case assign x => rw [hx x (by simp)]
 case pick c a b => rw [hx c (by simp), hx a (by simp), hx b (by simp)]
 case box T x => rw [hx x (by simp)]
 case build T ps => rw [pairs ps hx]
 case buildSlice T n ps => rw [pairs ps hx]
 case load T a => rw [hx a (by simp)]
 case store T a v => rw [hx a (by simp), hx v (by simp)]
 case nilCheck x => rw [hx x (by simp)]
 case binOp op T a b U => rw [hx a (by simp), hx b (by simp)]
 case unOp op T x => rw [hx x (by simp)]
 case convert a b x => rw [hx x (by simp)]
 case makeFunc f fst cs =>
  cases f <;> simp only
  rw [maps cs.toList hx]
 case makeSlice T n c => rw [hx n (by simp), hx c (by simp)]
 case slice T x lo hi mx =>
  have e0 := hx x (by simp)
  have o1 : lo.map (cX E tm') = lo.map (cX E tm) := by cases lo with | none => rfl | some y => simp only [Option.map_some]; rw [hx y (by simp)]
  have o2 : hi.map (cX E tm') = hi.map (cX E tm) := by cases hi with | none => rfl | some y => simp only [Option.map_some]; rw [hx y (by simp)]
  have o3 : mx.map (cX E tm') = mx.map (cX E tm) := by cases mx with | none => rfl | some y => simp only [Option.map_some]; rw [hx y (by simp)]
  rw [e0, o1, o2, o3]
 case fieldAddr T x f => rw [hx x (by simp)]
 case field T x f => rw [hx x (by simp)]
 case indexAddr T x i => rw [hx x (by simp), hx i (by simp)]
 case index T x i => rw [hx x (by simp), hx i (by simp)]
 case extract x i => rw [hx x (by simp)]
 case call c =>
  obtain ⟨callee, args, ats⟩ := c
  cases callee with
  | builtin b => simp only at hx ⊢; rw [maps args.toList hx]
  | invoke r m => rfl
  | value x =>
   have e1 : args.toList.map (cX E tm') = args.toList.map (cX E tm) := maps _ fun y hy => hx y (by simp only; exact List.mem_cons_of_mem _ hy)
   have e2 := hx x (by simp)
   cases x <;> simp only [e1] <;> first | rfl | rw [e2]
def kt (tm : List (AV E.C)) (dst : Option Nat) (v : AV E.C) : List (AV E.C) := match dst with | some d => an tm d v | none => tm
def xD (all : List Oper) (tm : List (AV E.C)) (o : Oper) (use : List Nat) (yes : Bool) : Prop := match o.guard with
 | none => use = [] ∧ yes = true
 | some (j, want) => ∃ oj dj, all[j]? = some oj ∧ oj.dst = some dj ∧ use = [dj] ∧ ((tm[dj]? = some (.tup []) ∧ yes = false) ∨ ∃ b : Bool, tm[dj]? = some (.pv .bool b) ∧ yes = (b == want))
structure mS (F : List (Nat × cw E.C)) (pins : List Nat) (all : List Oper) (ups : Bool) (i s : Nat) (o : Oper) (f : FP) (v : AV E.C) (u : List (Nat × Ob E.C)) (yes : Bool) (tm : List (AV E.C)) (H : List (Ob E.C)) : Prop where
 pin : ∀ d, o.dst = some d → d ∉ pins
 fj : f.j = i
 fd : f.dst = o.dst
 fw : f.W = u.map (·.1)
 grd : ∃ use, xD all tm o use yes ∧ ((yes = true ∧ f.uses = use ++ ja (tr o.op) ∧ ∃ r T, aj H (mI E F s tm o.op) [] = some (r, T) ∧ v = r.v ∧ u = jM E s r.new ++ r.ups ∧ f.T = T ∧ (ups = true ∨ r.ups = [])) ∨
  (yes = false ∧ f.uses = use ∧ v = .tup [] ∧ u = [] ∧ f.T = []))
structure Cx where
 w0 : World
 S0 : Nat → Prop
 O0 : Nat → Prop
 pins : List Nat
 a0 : Nat → Value
 iop : List (Nat × Option Pl)
 n : Nat
 iopin : ∀ d p, (d, p) ∈ iop → d ∈ pins
def oo {C : Nat → Type} (ρ : Nat → Option Pl) (p : Option Pl) : AV C → Prop
 | .row i => ρ i = p
 | .nils => False
 | .sub _ _ _ => False
 | _ => True
structure fY (P : Program) (E : dD) (X : Cx) (a : Act) (w : World) (S : Nat → Prop) (H : List (Ob E.C)) (ρ : Nat → Option Pl) (Fr : Nat → Prop) (tm : List (AV E.C)) : Prop where
 st : tP P E a w S H ρ Fr tm
 bs : iw X.w0 w X.S0 S X.O0 (lD H ρ)
 pin : ∀ d, d ∈ X.pins → a.tmps.getD d undef = X.a0 d
 plc : ∀ d p, (d, p) ∈ X.iop → ∀ v, tm[d]? = some v → oo ρ p v
 dfr : a.defers = []
 sz : tm.length = X.n
theorem qU {a : Act} {dst : Option Nat} {u : Value} {i : Nat} (h : dst ≠ some i) : (a.put dst u).tmps.getD i undef = a.tmps.getD i undef := by
 cases dst with
 | none => rfl
 | some d =>
  have : d ≠ i := fun e => h (by rw [e])
  simp [Act.put, Array.getElem?_setIfInBounds_ne this]
theorem wE {a : Act} {dst : Option Nat} {u : Value} : (a.put dst u).tmps.size = a.tmps.size := by
 cases dst with
 | none => rfl
 | some d => simp [Act.put]
theorem jS {tm : List (AV E.C)} {dst : Option Nat} {v : AV E.C} : (kt tm dst v).length = tm.length := by
 cases dst with
 | none => rfl
 | some d => exact aY tm d v
theorem kr {tm : List (AV E.C)} {dst : Option Nat} {v : AV E.C} {i : Nat} (h : dst ≠ some i) : (kt tm dst v)[i]? = tm[i]? := by
 cases dst with
 | none => rfl
 | some d => exact cj tm v fun e => h (by rw [e])
theorem fY.step {X : Cx} {a : Act} {tm : List (AV E.C)} (h : fY P E X a w S H ρ Fr tm) (st : f7 w w' S S' H H' ρ ρ' Fr Fr') (hp : dW E w' S' H' ρ' Fr') {dst : Option Nat} {v : AV E.C} {u : Value} (hv : aF P E w' S' H' ρ' Fr' v u) (hd : ∀ d, dst = some d → d ∉ X.pins) :
  fY P E X (a.put dst u) w' S' H' ρ' Fr' (kt tm dst v) := by
 refine ⟨⟨fun i x hi => ?_, by rw [wE, jS]; exact h.st.len, hp, st.mon.st.2.2.2⟩, h.bs.trans st.blk, fun d hdp => ?_, fun d p hdp x hx => ?_, ?_, ?_⟩
 ·by_cases e : dst = some i
  ·subst e
   have hlt : i < tm.length := by have := aH hi; rwa [jS] at this
   have : (kt tm (some i) v)[i]? = some v := bR tm v hlt
   rw [this] at hi
   cases hi
   have hlt' : i < a.tmps.size := by rw [h.st.len]; exact hlt
   have : (a.put (some i) u).tmps.getD i undef = u := by simp [Act.put, hlt']
   rw [this]; exact hv
  ·rw [qU e]
   rw [kr e] at hi
   exact aF.mono st.mon (h.st.tmp i x hi)
 ·rw [qU fun e => hd d e hdp]; exact h.pin d hdp
 ·have hdp' := X.iopin d p hdp
  rw [kr fun e => hd d e hdp'] at hx
  have := h.plc d p hdp x hx
  cases x <;> first | exact this | skip
  rename_i i
  have hv' := h.st.tmp d _ hx
  unfold aF at hv'
  exact (st.mon.pl i hv'.1.1).trans this
 ·cases dst <;> exact h.dfr
 ·rw [jS]; exact h.sz
theorem sJ {ops : Array Oper} {a : Act} {tm : List (AV E.C)} (st : tP P E a w S H ρ Fr tm) {j dj : Nat} {oj : Oper} (h1 : ops.toList[j]? = some oj) (h2 : oj.dst = some dj) {b : Bool} (h3 : tm[dj]? = some (.pv .bool b)) : yielded ops a.tmps j = some b := by
 have hlt : dj < a.tmps.size := by rw [st.len]; exact aH h3
 have := fI.1 (st.tmp dj _ h3)
 have e1 : ops[j]? = some oj := by simpa using h1
 have e2 : a.tmps[dj]? = some (.bool b) := by
  rw [Array.getElem?_eq_getElem hlt]
  simpa [hlt] using this
 simp [yielded, e1, h2, e2]
theorem tu {ops : Array Oper} {a : Act} {tm : List (AV E.C)} (st : tP P E a w S H ρ Fr tm) {j dj : Nat} {oj : Oper} (h1 : ops.toList[j]? = some oj) (h2 : oj.dst = some dj) (h3 : tm[dj]? = some (.tup [])) : yielded ops a.tmps j = none := by
 have hlt : dj < a.tmps.size := by rw [st.len]; exact aH h3
 have := st.tmp dj _ h3
 unfold aF at this
 obtain ⟨us, hu, hus⟩ := this
 unfold az at hus
 subst hus
 have e1 : ops[j]? = some oj := by simpa using h1
 have e2 : a.tmps[dj]? = some (.tuple #[]) := by
  rw [Array.getElem?_eq_getElem hlt]
  simpa [hlt] using hu
 simp [yielded, e1, h2, e2]
theorem sG {ops : Array Oper} {a : Act} {tm : List (AV E.C)} (st : tP P E a w S H ρ Fr tm) {o : Oper} {use : List Nat} {yes : Bool} (h : xD ops.toList tm o use yes) : Region.wanted o (yielded ops a.tmps) = yes := by
 unfold xD at h
 unfold Region.wanted
 split at h
 ·rename_i hg; rw [hg]; exact h.2.symm
 ·rename_i j want hg
  rw [hg]
  obtain ⟨oj, dj, h1, h2, _, h3⟩ := h
  rcases h3 with ⟨h3, rfl⟩ | ⟨b, h3, rfl⟩
  ·simp [tu st h1 h2 h3]
  ·simp [sJ st h1 h2 h3]
theorem ru (hT : eP P E) (hC : dp P F) (hF : jq P E F) {X : Cx} {ops : Array Oper} {ups : Bool} {i s : Nat} {o : Oper} {f : FP} {v : AV E.C} {u : List (Nat × Ob E.C)} {yes : Bool} {tm : List (AV E.C)} {a : Act}
  (hi : ops.toList[i]? = some o) (hr : mS F X.pins ops.toList ups i s o f v u yes tm H) (h : fY P E X a w S H ρ Fr tm)
  (hs : ∀ j, s ≤ j → j < s + bg E F o.op → Fr j) (hl : s + bg E F o.op ≤ H.length) {K : Act → World → Prop} {Q : Exit → Act → World → Prop}
  (hK : ∀ a' w' S' ρ' Fr', fY P E X a' w' S' (co u H) ρ' Fr' (kt tm o.dst v) → (∀ j, Fr' j → Fr j) → (∀ j, Fr j → ¬ (s ≤ j ∧ j < s + bg E F o.op) → Fr' j) → f7 w w' S S' H (co u H) ρ ρ' Fr Fr' → K a' w') : wpOp P ops Q i K a w := by
 have hi' : ops[i]? = some o := by simpa using hi
 unfold wpOp
 simp only [hi']
 obtain ⟨use, hg, hc⟩ := hr.grd
 rw [sG h.st hg]
 rcases hc with ⟨rfl, _, r, T, h1, rfl, rfl, _, _⟩ | ⟨rfl, _, rfl, rfl, _⟩
 ·rw [if_pos rfl]
  left
  have := zn hT hC hF h.st hs hl h1
  unfold Oper.wp
  refine this K Q fun u w' S' ρ' q1 q2 q3 => ?_
  have e : bE H s r = co (jM E s r.new ++ r.ups) H := by unfold bE; rw [hG]
  rw [e] at q1 q2 q3
  exact hK _ w' S' ρ' _ (h.step q1 q2 q3 hr.pin) (fun j hj => hj.1) (fun j hj hn => ⟨hj, hn⟩) q1
 ·rw [if_neg (by simp)]
  exact hK _ w S ρ Fr (h.step (f7.refl h.st.sb) h.st.hp (by unfold aF; exact ⟨[], rfl, by unfold az; rfl⟩) hr.pin) (fun _ hj => hj) (fun _ hj _ => hj) (f7.refl h.st.sb)
end
end Go.Ev
end
section
namespace Go.Ev
section
variable {P : Program} {E : dD} {w w' : World} {S S' : Nat → Prop} {H H' : List (Ob E.C)} {ρ ρ' : Nat → Option Pl} {Fr Fr' : Nat → Prop} {F : List (Nat × cw E.C)}
structure En (E : dD) where
 i : Nat
 s : Nat
 o : Oper
 f : FP
 v : AV E.C
 u : List (Nat × Ob E.C)
 yes : Bool
def kz (F : List (Nat × cw E.C)) (pins : List Nat) (all : List Oper) (ups : Bool) : List (En E) → List (AV E.C) → List (Ob E.C) → List (AV E.C) → List (Ob E.C) → Prop
 | [], tm, H, tm', H' => tm' = tm ∧ H' = H
 | e :: r, tm, H, tm', H' => mS F pins all ups e.i e.s e.o e.f e.v e.u e.yes tm H ∧ kz F pins all ups r (kt tm e.o.dst e.v) (co e.u H) tm' H'
inductive jy (all : List Oper) : Nat → Nat → Prop
 | one {i : Nat} {o : Oper} {e : Edge} (h : all[i]? = some o) (he : e ∈ o.after.toList) (hb : Region.binds .any e = true) : jy all e.on i
 | more {i j : Nat} {o : Oper} {e : Edge} (h : all[i]? = some o) (he : e ∈ o.after.toList) (hb : Region.binds .any e = true) (hp : jy all j e.on) : jy all j i
structure vT (g f : FP) : Prop where
 wt : ∀ x, x ∈ g.W → x ∉ f.T
 ww : ∀ x, x ∈ g.W → x ∉ f.W
 tw : ∀ x, x ∈ g.T → x ∉ f.W
 du : ∀ d, g.dst = some d → d ∉ f.uses
 dd : ∀ d, g.dst = some d → f.dst ≠ some d
 ud : ∀ d, f.dst = some d → d ∉ g.uses
theorem qC : ∀ {a b : List Nat}, iP a b = true ↔ ∀ x, x ∈ a → x ∉ b
 | [], b => by simp [iP]
 | x :: a, b => by
  simp only [iP, Bool.and_eq_true, Bool.not_eq_true', qC (a := a), List.mem_cons]
  constructor
  ·rintro ⟨h1, h2⟩ y (rfl | hy)
   ·exact fun hh => by rw [mem_iff.2 hh] at h1; cases h1
   ·exact h2 y hy
  ·intro h
   refine ⟨?_, fun y hy => h y (.inr hy)⟩
   cases hm : iP.mem x b with
   | false => rfl
   | true => exact absurd (mem_iff.1 hm) (h x (.inl rfl))
theorem mP {Pm : Nat} {f : FP} : ∀ {fps : List FP}, ng Pm f fps = true → ∀ g, g ∈ fps → Nat.testBit Pm g.j = true ∨ vT g f
 | [], _, g, hg => by simp at hg
 | g' :: r, h, g, hg => by
  simp only [ng, Bool.and_eq_true, Bool.or_eq_true] at h
  rcases List.mem_cons.1 hg with rfl | hg
  ·refine h.1.imp id fun h => ?_
   obtain ⟨⟨⟨⟨⟨h1, h2⟩, h3⟩, h4⟩, h5⟩, h6⟩ := h
   rw [qC] at h1 h2 h3 h4 h5 h6
   exact ⟨h1, h2, h3, fun d hd => h4 d (by simp [hd]), fun d hd e => h5 d (by simp [hd]) (by simp [e]), fun d hd hh => h6 d hh (by simp [hd])⟩
  ·exact mP h.2 g hg
theorem jw {all : List Oper} {i : Nat} {Ps : List Nat} (hPs : ∀ (i' Pm : Nat), Ps[i']? = some Pm → ∀ j, Nat.testBit Pm j = true → jy all j i') : ∀ {es : List Edge} {Pm : Nat}, ii i Ps es = some Pm →
  (∀ e, e ∈ es → Region.binds .any e = true → e.on < i) ∧ ∀ j, Nat.testBit Pm j = true → ∃ e, e ∈ es ∧ Region.binds .any e = true ∧ (e.on = j ∨ jy all j e.on)
 | [], Pm, h => by
  simp only [ii, Option.some.injEq] at h
  subst h
  exact ⟨by simp, by simp⟩
 | e :: es, Pm, h => by
  have key : ∀ (Pm : Nat), (cond (Nat.blt e.on i) (match Ps[e.on]?, ii i Ps es with | some q, some p => some (Nat.lor (Nat.lor p q) (Nat.shiftLeft 1 e.on)) | _, _ => none) none) = some Pm → Region.binds .any e = true →
    (∀ e', e' ∈ e :: es → Region.binds .any e' = true → e'.on < i) ∧ ∀ j, Nat.testBit Pm j = true → ∃ e', e' ∈ e :: es ∧ Region.binds .any e' = true ∧ (e'.on = j ∨ jy all j e'.on) := by
   intro Pm h hb
   cases hlt : Nat.blt e.on i with
   | false => rw [hlt] at h; cases h
   | true =>
    rw [hlt] at h
    simp only [cond_true] at h
    split at h
    ·rename_i q p hq hp
     obtain ⟨h1, h2⟩ := jw hPs hp
     have hlt' : e.on < i := by simpa [Nat.blt_eq] using hlt
     refine ⟨fun e' he' hb' => ?_, fun j hj => ?_⟩
     ·rcases List.mem_cons.1 he' with rfl | he'
      ·exact hlt'
      ·exact h1 e' he' hb'
     ·obtain rfl := Option.some.inj h
      have hj' : (Nat.testBit p j || Nat.testBit q j || Nat.testBit (1 <<< e.on) j) = true := by
       rw [← Nat.testBit_or, ← Nat.testBit_or]; exact hj
      simp only [Bool.or_eq_true] at hj'
      rcases hj' with (hj' | hj') | hj'
      ·obtain ⟨e', a1, a2, a3⟩ := h2 j hj'
       exact ⟨e', by simp [a1], a2, a3⟩
      ·exact ⟨e, by simp, hb, .inr (hPs _ _ hq j hj')⟩
      ·refine ⟨e, by simp, hb, .inl ?_⟩
       rw [Nat.shiftLeft_eq, Nat.one_mul, Nat.testBit_two_pow] at hj'
       simpa using hj'
    ·cases h
  have skip : Region.binds .any e = false → ii i Ps es = some Pm → (∀ e', e' ∈ e :: es → Region.binds .any e' = true → e'.on < i) ∧ ∀ j, Nat.testBit Pm j = true → ∃ e', e' ∈ e :: es ∧ Region.binds .any e' = true ∧ (e'.on = j ∨ jy all j e'.on) := by
   intro hb h
   obtain ⟨h1, h2⟩ := jw hPs h
   refine ⟨fun e' he' hb' => ?_, fun j hj => ?_⟩
   ·rcases List.mem_cons.1 he' with rfl | he'
    ·rw [hb] at hb'; cases hb'
    ·exact h1 e' he' hb'
   ·obtain ⟨e', a1, a2, a3⟩ := h2 j hj
    exact ⟨e', by simp [a1], a2, a3⟩
  unfold ii at h
  cases hg : e.ground <;> rw [hg] at h <;> first
   | exact key Pm h (by unfold Region.binds; rw [hg])
   | exact skip (by unfold Region.binds; rw [hg]; rfl) h
theorem qa {R : Type} {pins : List Nat} {tm : List (AV E.C)} {dst : Option Nat} {v : AV E.C} {k : List (AV E.C) → Option R} {r : R} (h : uY E pins tm dst v k = some r) : (∀ d, dst = some d → d ∉ pins) ∧ k (kt tm dst v) = some r := by
 cases dst with
 | none => exact ⟨by simp, h⟩
 | some d =>
  unfold uY at h
  dsimp only at h
  cases hm : iP.mem d pins with
  | true => rw [hm] at h; cases h
  | false =>
   rw [hm] at h
   simp only [cond_false] at h
   rw [iZ] at h
   refine ⟨fun d' e => ?_, h⟩
   cases e
   intro hh
   rw [mem_iff.2 hh] at hm; cases hm
def zd (F : List (Nat × cw E.C)) : List (En E) → Nat → Prop
 | [], _ => True
 | e :: r, s => e.s = s ∧ zd F r (s + bg E F e.o.op)
theorem rC : ∀ (os : List (Ob E.C)) (s : Nat), (jM E s os).map Prod.fst = vN E os s
 | [], _ => rfl
 | o :: os, s => by simp [jM, vN, rC os]
theorem vH {R : Type} {pins : List Nat} {all : List Oper} {draw ups : Bool} {k : List (AV E.C) → List (Ob E.C) → Option R} {r : R} :
  ∀ (rest : List Oper) (i s : Nat) (Ps : List Nat) (fps : List FP) (tm : List (AV E.C)) (H : List (Ob E.C)), ji E F pins all draw ups rest i s Ps fps tm H k = some r →
  (∀ (m : Nat) (o : Oper), rest[m]? = some o → all[i + m]? = some o) → (draw = true → Ps.length = i ∧ ∀ (i' Pm : Nat), Ps[i']? = some Pm → ∀ j, Nat.testBit Pm j = true → jy all j i') →
  ∃ (es : List (En E)) (tm' : List (AV E.C)) (H' : List (Ob E.C)), kz F pins all ups es tm H tm' H' ∧ k tm' H' = some r ∧ es.map (·.o) = rest ∧ (∀ (m : Nat) (e : En E), es[m]? = some e → e.i = i + m) ∧ zd F es s ∧
   (draw = true → (∀ (m : Nat) (e : En E), es[m]? = some e → (∀ ed, ed ∈ e.o.after.toList → Region.binds .any ed = true → ed.on < e.i) ∧ ∀ g, g ∈ fps → jy all g.j e.i ∨ vT g e.f) ∧
    es.Pairwise fun a b => jy all a.i b.i ∨ vT a.f b.f) := by
 intro rest
 induction rest with
 | nil =>
  intro i s Ps fps tm H h hall hPs
  exact ⟨[], tm, H, ⟨rfl, rfl⟩, h, rfl, by simp, trivial, fun _ => ⟨by simp, List.Pairwise.nil⟩⟩
 | cons o rest ih =>
  intro i s Ps fps tm H h hall hPs
  have ho : all[i]? = some o := hall 0 o rfl
  have hall' : ∀ (m : Nat) (o' : Oper), rest[m]? = some o' → all[i + 1 + m]? = some o' := fun m o' hm => by
   have := hall (m + 1) o' (by simpa using hm)
   have e : i + 1 + m = i + (m + 1) := by omega
   rw [e]; exact this
  have go : ∀ (f : FP) (v : AV E.C) (u : List (Nat × Ob E.C)) (yes : Bool), mS F pins all ups i s o f v u yes tm H →
    (kx draw i o Ps fps f fun Ps fps => ji E F pins all draw ups rest (i + 1) (s + bg E F o.op) Ps fps (kt tm o.dst v) (co u H) k) = some r →
    ∃ (es : List (En E)) (tm' : List (AV E.C)) (H' : List (Ob E.C)), kz F pins all ups es tm H tm' H' ∧ k tm' H' = some r ∧ es.map (·.o) = o :: rest ∧ (∀ (m : Nat) (e : En E), es[m]? = some e → e.i = i + m) ∧ zd F es s ∧
     (draw = true → (∀ (m : Nat) (e : En E), es[m]? = some e → (∀ ed, ed ∈ e.o.after.toList → Region.binds .any ed = true → ed.on < e.i) ∧ ∀ g, g ∈ fps → jy all g.j e.i ∨ vT g e.f) ∧
      es.Pairwise fun a b => jy all a.i b.i ∨ vT a.f b.f) := by
   intro f v u yes hst hd
   have hfj := hst.fj
   unfold kx at hd
   cases draw with
   | false =>
    simp only [cond_false] at hd
    obtain ⟨es, tm', H', c1, c2, c3, c4, c5, _⟩ := ih _ _ _ _ _ _ hd hall' (by simp)
    refine ⟨⟨i, s, o, f, v, u, yes⟩ :: es, tm', H', ⟨hst, c1⟩, c2, by simp [c3], fun m e hm => ?_, ⟨rfl, c5⟩, by simp⟩
    cases m with
    | zero => simp at hm; subst hm; rfl
    | succ m => have := c4 m e (by simpa using hm); omega
   | true =>
    simp only [cond_true] at hd
    obtain ⟨hlen, hP⟩ := hPs rfl
    split at hd
    ·rename_i Pm hpre
     obtain ⟨p1, p2⟩ := jw hP hpre
     cases hin : ng Pm f fps with
     | false => rw [hin] at hd; cases hd
     | true =>
      rw [hin] at hd
      simp only [cond_true] at hd
      rw [ic] at hd
      have pred : ∀ j, Nat.testBit Pm j = true → jy all j i := fun j hj => by
       obtain ⟨e, e1, e2, e3⟩ := p2 j hj
       rcases e3 with rfl | e3
       ·exact .one ho e1 e2
       ·exact .more ho e1 e2 e3
      obtain ⟨es, tm', H', c1, c2, c3, c4, c5, c6⟩ := ih _ _ _ _ _ _ hd hall' (fun _ => ⟨by simp [hlen], fun i' Pm' hi' j hj => by
       by_cases hlt : i' < Ps.length
       ·rw [List.getElem?_append_left hlt] at hi'; exact hP i' Pm' hi' j hj
       ·rw [List.getElem?_append_right (by omega)] at hi'
        have : i' = i := by have := aH hi'; simp at this; omega
        subst this
        rw [hlen] at hi'
        simp at hi'
        subst hi'
        exact pred j hj⟩)
      obtain ⟨d1, d2⟩ := c6 rfl
      refine ⟨⟨i, s, o, f, v, u, yes⟩ :: es, tm', H', ⟨hst, c1⟩, c2, by simp [c3], fun m e hm => ?_, ⟨rfl, c5⟩, fun _ => ⟨fun m e hm => ?_, ?_⟩⟩
      ·cases m with
       | zero => simp at hm; subst hm; rfl
       | succ m => have := c4 m e (by simpa using hm); omega
      ·cases m with
       | zero =>
        simp at hm; subst hm
        exact ⟨p1, fun g hg => (mP hin g hg).imp (pred _) id⟩
       | succ m =>
        obtain ⟨q1, q2⟩ := d1 m e (by simpa using hm)
        exact ⟨q1, fun g hg => q2 g (by simp [hg])⟩
      ·refine List.Pairwise.cons (fun e he => ?_) d2
       obtain ⟨m, hm⟩ := List.mem_iff_getElem?.1 he
       have := (d1 m e hm).2 f (by simp)
       rw [hfj] at this
       exact this
    ·cases hd
  have exec : ∀ (use : List Nat), xD all tm o use true → (kF H (mI E F s tm o.op) [] fun r T =>
    kx draw i o Ps fps ⟨i, o.dst, use ++ ja (tr o.op), T, vN E r.new s ++ r.ups.map (·.1)⟩ fun Ps fps =>
     xS E pins ups o.dst s r tm H fun tm H => ji E F pins all draw ups rest (i + 1) (s + bg E F o.op) Ps fps tm H k) = some r →
    ∃ (es : List (En E)) (tm' : List (AV E.C)) (H' : List (Ob E.C)), kz F pins all ups es tm H tm' H' ∧ k tm' H' = some r ∧ es.map (·.o) = o :: rest ∧ (∀ (m : Nat) (e : En E), es[m]? = some e → e.i = i + m) ∧ zd F es s ∧
     (draw = true → (∀ (m : Nat) (e : En E), es[m]? = some e → (∀ ed, ed ∈ e.o.after.toList → Region.binds .any ed = true → ed.on < e.i) ∧ ∀ g, g ∈ fps → jy all g.j e.i ∨ vT g e.f) ∧
      es.Pairwise fun a b => jy all a.i b.i ∨ vT a.f b.f) := by
   intro use hg h
   rw [kq] at h
   cases hd : aj H (mI E F s tm o.op) [] with
   | none => rw [hd] at h; cases h
   | some p =>
    rw [hd] at h
    simp only [Option.bind_some] at h
    have hpin : (∀ d, o.dst = some d → d ∉ pins) ∧ (ups = true ∨ p.1.ups = []) ∧ (kx draw i o Ps fps ⟨i, o.dst, use ++ ja (tr o.op), p.2, vN E p.1.new s ++ p.1.ups.map (·.1)⟩ fun Ps fps => ji E F pins all draw ups rest (i + 1) (s + bg E F o.op) Ps fps (kt tm o.dst p.1.v) (co (jM E s p.1.new ++ p.1.ups) H) k) = some r := by
     have eff : ∀ {k' : List (AV E.C) → List (Ob E.C) → Option R}, xS E pins ups o.dst s p.1 tm H k' = some r → (∀ d, o.dst = some d → d ∉ pins) ∧ (ups = true ∨ p.1.ups = []) ∧ k' (kt tm o.dst p.1.v) (co (jM E s p.1.new ++ p.1.ups) H) = some r := by
      intro k' h
      unfold xS at h
      obtain ⟨h1, h2⟩ := qa h
      rw [pE] at h2
      cases hu : (ups || p.1.ups.isEmpty) with
      | false => rw [hu] at h2; cases h2
      | true =>
       rw [hu] at h2
       simp only [cond_true] at h2
       rw [pE, ← hG] at h2
       refine ⟨h1, ?_, h2⟩
       simp only [Bool.or_eq_true, List.isEmpty_iff] at hu
       exact hu
     unfold kx at h ⊢
     cases draw with
     | false => simp only [cond_false] at h ⊢; exact eff h
     | true =>
      simp only [cond_true] at h ⊢
      split at h
      ·rename_i Pm hpre
       cases hin : ng Pm _ fps with
       | false => rw [hin] at h; cases h
       | true =>
        rw [hin] at h
        simp only [cond_true] at h ⊢
        rw [ic] at h ⊢
        have := eff h
        exact this
      ·cases h
    refine go _ p.1.v (jM E s p.1.new ++ p.1.ups) true ⟨hpin.1, rfl, rfl, ?_, use, hg, .inl ⟨rfl, rfl, p.1, p.2, by rw [hd], rfl, rfl, rfl, hpin.2.1⟩⟩ hpin.2.2
    rw [List.map_append, rC]
  have skip : ∀ (use : List Nat), xD all tm o use false → (kx draw i o Ps fps ⟨i, o.dst, use, [], []⟩ fun Ps fps =>
    uY E pins tm o.dst (.tup []) fun tm => ji E F pins all draw ups rest (i + 1) (s + bg E F o.op) Ps fps tm H k) = some r →
    ∃ (es : List (En E)) (tm' : List (AV E.C)) (H' : List (Ob E.C)), kz F pins all ups es tm H tm' H' ∧ k tm' H' = some r ∧ es.map (·.o) = o :: rest ∧ (∀ (m : Nat) (e : En E), es[m]? = some e → e.i = i + m) ∧ zd F es s ∧
     (draw = true → (∀ (m : Nat) (e : En E), es[m]? = some e → (∀ ed, ed ∈ e.o.after.toList → Region.binds .any ed = true → ed.on < e.i) ∧ ∀ g, g ∈ fps → jy all g.j e.i ∨ vT g e.f) ∧
      es.Pairwise fun a b => jy all a.i b.i ∨ vT a.f b.f) := by
   intro use hg h
   have hpin : (∀ d, o.dst = some d → d ∉ pins) ∧ (kx draw i o Ps fps ⟨i, o.dst, use, [], []⟩ fun Ps fps => ji E F pins all draw ups rest (i + 1) (s + bg E F o.op) Ps fps (kt tm o.dst (.tup [])) (co [] H) k) = some r := by
    unfold kx at h ⊢
    cases draw with
    | false => simp only [cond_false] at h ⊢; exact qa h
    | true =>
     simp only [cond_true] at h ⊢
     split at h
     ·rename_i Pm hpre
      cases hin : ng Pm _ fps with
      | false => rw [hin] at h; cases h
      | true =>
       rw [hin] at h
       simp only [cond_true] at h ⊢
       rw [ic] at h ⊢
       exact qa h
     ·cases h
   exact go _ (.tup []) [] false ⟨hpin.1, rfl, rfl, rfl, use, hg, .inr ⟨rfl, rfl, rfl, rfl, rfl⟩⟩ hpin.2
  unfold ji at h
  dsimp only at h
  split at h
  ·rename_i hgd
   exact exec [] (by unfold xD; rw [hgd]; exact ⟨rfl, rfl⟩) h
  ·rename_i j want hgd
   split at h
   ·rename_i oj hoj
    split at h
    ·rename_i dj hdj
     have top : ∀ (v : AV E.C), v ≠ .undef → cX E tm (.tmp dj) = v → tm[dj]? = some v := by
      intro v hv hh
      unfold cX at hh
      dsimp only at hh
      split at hh
      ·rename_i v' hv'; rw [hv', hh]
      ·exact (hv hh.symm).elim
     split at h
     ·rename_i htup
      exact skip [dj] (by unfold xD; rw [hgd]; exact ⟨oj, dj, hoj, hdj, rfl, .inl ⟨top _ (by simp) htup, rfl⟩⟩) h
     ·rename_i v hne
      generalize hv : cX E tm (.tmp dj) = vv at h
      unfold xT at h
      split at h
      ·split at h
       ·rename_i b
        have hb : tm[dj]? = some (.pv .bool b) := top _ (by simp) hv
        have same : an tm dj (.pv .bool b) = tm := by
         refine List.ext_getElem? fun j => ?_
         rw [aQ]
         split
         ·rename_i e; subst e; rw [if_pos (aH hb), hb]
         ·rfl
        have gr : ∀ yes, yes = (b == want) → xD all tm o [dj] yes := fun yes hy => by unfold xD; rw [hgd]; exact ⟨oj, dj, hoj, hdj, rfl, .inr ⟨b, hb, hy⟩⟩
        cases b with
        | true =>
         simp only [cond_true] at h
         rw [iZ, same] at h
         cases want with
         | true => exact exec [dj] (gr true rfl) h
         | false => exact skip [dj] (gr false rfl) h
        | false =>
         simp only [cond_false] at h
         rw [iZ, same] at h
         cases want with
         | true => exact skip [dj] (gr false rfl) h
         | false => exact exec [dj] (gr true rfl) h
       ·cases h
      ·cases h
    ·cases h
   ·cases h
end
end Go.Ev
end
section
namespace Go.Ev
section
variable {P : Program} {E : dD} {w w' : World} {S S' : Nat → Prop} {H H' : List (Ob E.C)} {ρ ρ' : Nat → Option Pl} {Fr Fr' : Nat → Prop} {F : List (Nat × cw E.C)}
variable {pins : List Nat} {all : List Oper} {ups : Bool}
theorem mS.loc {i s : Nat} {o : Oper} {f : FP} {v : AV E.C} {u : List (Nat × Ob E.C)} {yes : Bool} {tm tm' : List (AV E.C)} (h : mS F pins all ups i s o f v u yes tm H)
  (h1 : ∀ t, t ∈ f.uses → tm'[t]? = tm[t]?) (h2 : ∀ j, j ∈ f.T → H'[j]? = H[j]?) : mS F pins all ups i s o f v u yes tm' H' := by
 obtain ⟨p1, p2, p3, p4, use, hg, hc⟩ := h
 have guse : ∀ t, t ∈ use → t ∈ f.uses := by
  intro t ht
  rcases hc with ⟨_, h, _⟩ | ⟨_, h, _⟩ <;> rw [h]
  ·simp [ht]
  ·exact ht
 refine ⟨p1, p2, p3, p4, use, ?_, ?_⟩
 ·unfold xD at hg ⊢
  split at hg
  ·exact hg
  ·rename_i j want e
   obtain ⟨oj, dj, a1, a2, a3, a4⟩ := hg
   have : tm'[dj]? = tm[dj]? := h1 dj (guse dj (by rw [a3]; simp))
   exact ⟨oj, dj, a1, a2, a3, by rw [this]; exact a4⟩
 ·rcases hc with ⟨a1, a2, r, T, a3, a4, a5, a6, a7⟩ | hc
  ·refine .inl ⟨a1, a2, r, T, ?_, a4, a5, a6, a7⟩
   have e1 : mI E F s tm' o.op = mI E F s tm o.op := xQ fun t ht => h1 t (by rw [a2]; simp [ht])
   rw [e1]
   exact xk _ _ _ a3 fun j hj => h2 j (by rw [a6]; exact hj)
  ·exact .inr hc
theorem v8 {tm : List (AV E.C)} {d1 d2 : Option Nat} {v1 v2 : AV E.C} (h : ∀ d, d1 = some d → d2 ≠ some d) : kt (kt tm d1 v1) d2 v2 = kt (kt tm d2 v2) d1 v1 := by
 cases d1 with
 | none => rfl
 | some a => cases d2 with
  | none => rfl
  | some b =>
   have hab : a ≠ b := fun e => h a rfl (by rw [e])
   refine List.ext_getElem? fun j => ?_
   show (an (an tm a v1) b v2)[j]? = (an (an tm b v2) a v1)[j]?
   simp only [aQ, aY]
   by_cases e1 : j = a
   ·subst e1; simp [hab]
   ·by_cases e2 : j = b
    ·subst e2; simp [e1]
    ·simp [e1, e2]
theorem lT : ∀ (u : List (Nat × Ob E.C)) {A B : List (Ob E.C)}, A.length = B.length → ∀ {j : Nat}, (A[j]? = B[j]? ∨ ∃ x, x ∈ u ∧ x.1 = j) → (co u A)[j]? = (co u B)[j]?
 | [], A, B, hl, j, h => by
  rcases h with h | ⟨x, hx, _⟩
  ·exact h
  ·simp at hx
 | (i, o) :: u, A, B, hl, j, h => by
  unfold co
  refine lT u (by simpa [aY] using hl) ?_
  rcases h with h | ⟨x, hx, hj⟩
  ·left
   rw [aQ, aQ, hl, h]
  ·rcases List.mem_cons.1 hx with rfl | hx
   ·left
    rw [← hj, aQ, aQ, hl, if_pos rfl, if_pos rfl]
   ·exact .inr ⟨x, hx, hj⟩
theorem vC {u1 u2 : List (Nat × Ob E.C)} (h : ∀ x, x ∈ u1.map Prod.fst → x ∉ u2.map Prod.fst) (H : List (Ob E.C)) : co u2 (co u1 H) = co u1 (co u2 H) := by
 refine List.ext_getElem? fun j => ?_
 by_cases h1 : ∃ x, x ∈ u1 ∧ x.1 = j
 ·obtain ⟨x, hx, e⟩ := h1
  have hn : ∀ y, y ∈ u2 → y.1 ≠ j := fun y hy ey => h j (by rw [← e]; exact List.mem_map_of_mem hx) (by rw [← ey]; exact List.mem_map_of_mem hy)
  rw [dy u2 _ j hn]
  exact lT u1 (by rw [cx]) (.inr ⟨x, hx, e⟩)
 ·have hn : ∀ y, y ∈ u1 → y.1 ≠ j := fun y hy ey => h1 ⟨y, hy, ey⟩
  rw [dy u1 (co u2 H) j hn]
  refine lT u2 (by rw [cx]) ?_
  exact .inl (dy u1 H j hn)
theorem mt : ∀ {L1 L2 : List (En E)} {e : En E} {tm : List (AV E.C)} {H : List (Ob E.C)} {tmF : List (AV E.C)} {HF : List (Ob E.C)}, kz F pins all ups (L1 ++ e :: L2) tm H tmF HF → (∀ g, g ∈ L1 → vT g.f e.f) →
  mS F pins all ups e.i e.s e.o e.f e.v e.u e.yes tm H ∧ kz F pins all ups (L1 ++ L2) (kt tm e.o.dst e.v) (co e.u H) tmF HF
 | [], L2, e, tm, H, tmF, HF, h, _ => h
 | g :: L1, L2, e, tm, H, tmF, HF, h, hi => by
  obtain ⟨h1, h2⟩ := h
  obtain ⟨h3, h4⟩ := mt h2 fun g' hg' => hi g' (by simp [hg'])
  have ind := hi g (by simp)
  have hdd : ∀ d, g.o.dst = some d → e.o.dst ≠ some d := fun d hd => by rw [← h3.fd]; exact ind.dd d (by rw [h1.fd]; exact hd)
  have hww : ∀ x, x ∈ g.u.map Prod.fst → x ∉ e.u.map Prod.fst := fun x hx => by
   have := ind.ww x (by rw [h1.fw]; exact hx)
   rw [h3.fw] at this
   exact this
  refine ⟨h3.loc (fun t ht => ?_) (fun j hj => ?_), h1.loc (fun t ht => ?_) (fun j hj => ?_), ?_⟩
  ·exact (kr fun e' => ind.du t (by rw [h1.fd]; exact e') ht).symm
  ·refine (dy _ _ _ fun y hy ey => ind.wt j ?_ hj).symm
   rw [h1.fw, ← ey]; exact List.mem_map_of_mem hy
  ·exact kr fun e' => ind.ud t (by rw [h3.fd]; exact e') ht
  ·refine dy _ _ _ fun y hy ey => ind.tw j hj ?_
   rw [h3.fw, ← ey]; exact List.mem_map_of_mem hy
  ·rw [v8 hdd, vC hww] at h4
   exact h4
structure Rg (F : List (Nat × cw E.C)) (es : List (En E)) (Fr : Nat → Prop) (n : Nat) : Prop where
 fr : ∀ e, e ∈ es → ∀ j, e.s ≤ j → j < e.s + bg E F e.o.op → Fr j
 le : ∀ e, e ∈ es → e.s + bg E F e.o.op ≤ n
 pw : es.Pairwise fun a b => a.s + bg E F a.o.op ≤ b.s
theorem zd.rg : ∀ {es : List (En E)} {s : Nat}, zd F es s → (∀ e, e ∈ es → s ≤ e.s ∧ e.s + bg E F e.o.op ≤ s + dC E F (es.map (·.o))) ∧ es.Pairwise fun a b => a.s + bg E F a.o.op ≤ b.s
 | [], s, _ => ⟨by simp, List.Pairwise.nil⟩
 | e :: es, s, h => by
  obtain ⟨h1, h2⟩ := h
  obtain ⟨h3, h4⟩ := zd.rg h2
  refine ⟨fun e' he' => ?_, List.Pairwise.cons (fun e' he' => ?_) h4⟩
  ·simp only [List.map_cons, dC]
   rcases List.mem_cons.1 he' with rfl | he'
   ·omega
   ·have := h3 e' he'; omega
  ·have := h3 e' he'; omega
theorem uK {es : List (En E)} (h : es.Pairwise fun a b => a.s + bg E F a.o.op ≤ b.s) {L1 L2 : List (En E)} {e : En E} (he : es = L1 ++ e :: L2) : ∀ g, g ∈ L1 ++ L2 → ∀ j, g.s ≤ j → j < g.s + bg E F g.o.op → ¬ (e.s ≤ j ∧ j < e.s + bg E F e.o.op) := by
 subst he
 rw [List.pairwise_append] at h
 obtain ⟨h1, h2, h3⟩ := h
 intro g hg j hj hj' hh
 rcases List.mem_append.1 hg with hg | hg
 ·have := h3 g hg e (by simp); omega
 ·have := (List.pairwise_cons.1 h2).1 g hg; omega
section
variable (hT : eP P E) (hC : dp P F) (hF : jq P E F) {X : Cx} {ops : Array Oper} {Q : Exit → Act → World → Prop} {tmF : List (AV E.C)} {HF : List (Ob E.C)}
include hT hC hF
theorem md (hQ : ∀ a w S ρ Fr, fY P E X a w S HF ρ Fr tmF → Q .normal a w) : ∀ (es : List (En E)) (i : Nat) (tm : List (AV E.C)) (H : List (Ob E.C)) (a : Act) (w : World) (S : Nat → Prop) (ρ : Nat → Option Pl) (Fr : Nat → Prop),
  kz F X.pins ops.toList ups es tm H tmF HF → (∀ (m : Nat) (e : En E), es[m]? = some e → e.i = i + m ∧ ops.toList[e.i]? = some e.o) → Rg F es Fr H.length → fY P E X a w S H ρ Fr tm → wpOps P ops Q (List.range' i es.length) a w
 | [], i, tm, H, a, w, S, ρ, Fr, hc, _, _, hi => by
  obtain ⟨rfl, rfl⟩ := hc
  exact hQ a w S ρ Fr hi
 | e :: es, i, tm, H, a, w, S, ρ, Fr, hc, hes, hr, hi => by
  obtain ⟨h1, h2⟩ := hc
  obtain ⟨e1, e2⟩ := hes 0 e rfl
  rw [Nat.add_zero] at e1
  rw [List.length_cons, List.range'_succ, wpOps_cons, ← e1]
  refine ru hT hC hF e2 h1 hi (hr.fr e (by simp)) (hr.le e (by simp)) fun a' w' S' ρ' Fr' q1 q2 q3 _ => ?_
  rw [e1]
  refine md hQ es (i + 1) _ _ a' w' S' ρ' Fr' h2 (fun m e' hm => ?_) ⟨fun g hg j hj hj' => q3 j (hr.fr g (by simp [hg]) j hj hj') ?_, fun g hg => by rw [cx]; exact hr.le g (by simp [hg]), (List.pairwise_cons.1 hr.pw).2⟩ q1
  ·obtain ⟨a1, a2⟩ := hes (m + 1) e' (by simpa using hm)
   exact ⟨by omega, a2⟩
  ·exact uK (L1 := []) hr.pw rfl g (by simpa using hg) j hj hj'
theorem vJ {listed : Array Bool} (hcl : ∀ (j : Nat) (o : Oper), ops.toList[j]? = some o → listed.getD j true = true → ∀ ed, ed ∈ o.after.toList → Region.binds .any ed = true → listed.getD ed.on false = true) (hsz : listed.size = ops.size) :
  ∀ {j i : Nat}, jy ops.toList j i → (∀ o, ops.toList[i]? = some o → ∀ ed, ed ∈ o.after.toList → Region.binds .any ed = true → listed.getD ed.on false = true) → listed.getD j false = true := by
 intro j i hp
 clear hT hC hF
 induction hp with
 | one h he hb => intro hr; exact hr _ h _ he hb
 | more h he hb hp ih =>
  intro hr
  refine ih fun o ho ed hed hb' => hcl _ o ho ?_ ed hed hb'
  have := hr _ h _ he hb
  rename_i e
  cases hg : listed[e.on]? with
  | none => simp [hg] at this
  | some b => simp [hg] at this ⊢; exact this
theorem sD (hQ : ∀ a w S ρ Fr, fY P E X a w S HF ρ Fr tmF → Q .normal a w) : ∀ (fuel : Nat) (L : List (En E)) (listed : Array Bool) (tm : List (AV E.C)) (H : List (Ob E.C)) (a : Act) (w : World) (S : Nat → Prop) (ρ : Nat → Option Pl) (Fr : Nat → Prop),
  L.length = fuel → listed.size = ops.size → (∀ j, j < ops.size → (listed.getD j true = false ↔ ∃ e, e ∈ L ∧ e.i = j)) →
  (∀ (j : Nat) (o : Oper), ops.toList[j]? = some o → listed.getD j true = true → ∀ ed, ed ∈ o.after.toList → Region.binds .any ed = true → listed.getD ed.on false = true) →
  (∀ e, e ∈ L → ops.toList[e.i]? = some e.o ∧ ∀ ed, ed ∈ e.o.after.toList → Region.binds .any ed = true → ed.on < e.i) →
  (L.Pairwise fun a b => jy ops.toList a.i b.i ∨ vT a.f b.f) → (L.Pairwise fun a b => a.i < b.i) →
  kz F X.pins ops.toList ups L tm H tmF HF → Rg F L Fr H.length → fY P E X a w S H ρ Fr tm → wpAny P .any ops Q fuel listed a w := by
 intro fuel
 induction fuel with
 | zero =>
  intro L listed tm H a w S ρ Fr hlen hsz hL hcl hops hpw hlt hc hr hi
  have : L = [] := List.eq_nil_of_length_eq_zero hlen
  subst this
  obtain ⟨rfl, rfl⟩ := hc
  refine ⟨?_, hQ a w S ρ Fr hi⟩
  refine List.eq_nil_iff_forall_not_mem.2 fun j hj => ?_
  obtain ⟨h1, o, ho, _⟩ := mem_ready.1 hj
  have hj' : j < ops.size := (Array.getElem?_eq_some_iff.1 ho).1
  obtain ⟨e, he, _⟩ := (hL j hj').1 h1
  simp at he
 | succ fuel ih =>
  intro L listed tm H a w S ρ Fr hlen hsz hL hcl hops hpw hlt hc hr hi
  refine ⟨fun hempty => ?_, fun i hir => ?_⟩
  ·exfalso
   match L, hlen with
   | e :: L, _ =>
    obtain ⟨h1, h2⟩ := hops e (by simp)
    have hi' : e.i < ops.size := by have := aH h1; simpa using this
    have : e.i ∈ Region.ready .any ops listed := by
     refine mem_ready.2 ⟨(hL e.i hi').2 ⟨e, by simp, rfl⟩, e.o, by simpa using h1, fun ed hed hb => ?_⟩
     have hlt' := h2 ed (by simpa using hed) hb
     cases hg : listed.getD ed.on true with
     | true =>
      have hsz' : ed.on < listed.size := by omega
      simp [hsz'] at hg ⊢; exact hg
     | false =>
      obtain ⟨e', he', ei'⟩ := (hL ed.on (by omega)).1 hg
      rcases List.mem_cons.1 he' with rfl | he'
      ·omega
      ·have := (List.pairwise_cons.1 hlt).1 e' he'
       omega
    rw [hempty] at this
    simp at this
  ·obtain ⟨h1, o, ho, hed⟩ := mem_ready.1 hir
   have hi' : i < ops.size := (Array.getElem?_eq_some_iff.1 ho).1
   obtain ⟨e, he, rfl⟩ := (hL i hi').1 h1
   obtain ⟨h2, h3⟩ := hops e he
   have ho' : ops.toList[e.i]? = some o := by simpa using ho
   rw [h2] at ho'
   obtain rfl := Option.some.inj ho'
   obtain ⟨L1, L2, rfl⟩ := List.append_of_mem he
   have ind : ∀ g, g ∈ L1 → vT g.f e.f := by
    intro g hg
    have hpw' := hpw
    rw [List.pairwise_append] at hpw'
    rcases hpw'.2.2 g hg e (by simp) with hp | hp
    ·exfalso
     have := vJ hT hC hF hcl hsz hp fun o' ho' ed hed' hb => by
      rw [h2] at ho'
      obtain rfl := Option.some.inj ho'
      exact hed ed (by simpa using hed') hb
     have hg' : g.i < ops.size := by have := aH (hops g (by simp [hg])).1; simpa using this
     have hf := (hL g.i hg').2 ⟨g, by simp [hg], rfl⟩
     have hsz' : g.i < listed.size := by omega
     simp [hsz'] at this hf
     rw [hf] at this; cases this
    ·exact hp
   obtain ⟨c1, c2⟩ := mt hc ind
   refine ru hT hC hF h2 c1 hi (hr.fr e he) (hr.le e he) fun a' w' S' ρ' Fr' q1 q2 q3 _ => ?_
   have hmem : ∀ g, g ∈ L1 ++ L2 → g ∈ L1 ++ e :: L2 := fun g hg => by
    rcases List.mem_append.1 hg with hg | hg
    ·simp [hg]
    ·simp [hg]
   have hsub : List.Sublist (L1 ++ L2) (L1 ++ e :: L2) := List.Sublist.append_left (List.sublist_cons_self _ _) _
   have hne : ∀ g, g ∈ L1 ++ L2 → g.i ≠ e.i := by
    intro g hg
    have hlt' := hlt
    rw [List.pairwise_append] at hlt'
    rcases List.mem_append.1 hg with hg | hg
    ·have := hlt'.2.2 g hg e (by simp); omega
    ·have := (List.pairwise_cons.1 hlt'.2.1).1 g hg; omega
   have hsz' : e.i < listed.size := by omega
   refine ih (L1 ++ L2) (listed.setIfInBounds e.i true) _ _ a' w' S' ρ' Fr' (by simp at hlen ⊢; omega) (by simp [hsz]) (fun j hj => ?_) (fun j o' ho' hd ed hed' hb => ?_) (fun g hg => hops g (hmem g hg)) (hpw.sublist hsub) (hlt.sublist hsub) c2
    ⟨fun g hg j hj hj' => q3 j (hr.fr g (hmem g hg) j hj hj') (uK hr.pw rfl g hg j hj hj'), fun g hg => by rw [cx]; exact hr.le g (hmem g hg), hr.pw.sublist hsub⟩ q1
   ·by_cases ej : e.i = j
    ·subst ej
     constructor
     ·intro h; simp [hsz'] at h
     ·rintro ⟨g, hg, eg⟩; exact (hne g hg eg).elim
    ·rw [getD_set_ne true ej, hL j hj]
     constructor
     ·rintro ⟨g, hg, eg⟩
      refine ⟨g, ?_, eg⟩
      rcases List.mem_append.1 hg with hg | hg
      ·simp [hg]
      ·rcases List.mem_cons.1 hg with rfl | hg
       ·exact (ej eg).elim
       ·simp [hg]
     ·rintro ⟨g, hg, eg⟩; exact ⟨g, hmem g hg, eg⟩
   ·refine getD_set_true ?_
    by_cases ej : e.i = j
    ·subst ej
     rw [h2] at ho'
     obtain rfl := Option.some.inj ho'
     exact hed ed (by simpa using hed') hb
    ·rw [getD_set_ne true ej] at hd
     exact hcl j o' ho' hd ed hed' hb
end
theorem yw (hp : dW E w S H ρ Fr) (hS : ∀ b, S b → b < w.heap.size) (h1 : ∀ i, Fr' i → Fr i) (h2 : ∀ i, H.length ≤ i → Fr' i) : f7 w w S S H H ρ ρ Fr Fr' ∧ dW E w S H ρ Fr' := by
 have m : lG w w S S H H ρ ρ Fr Fr' := ⟨⟨Nat.le_refl _, fun _ h => h, eo.refl S w, hS⟩, fun i _ => vQ.refl H i, fun _ _ => rfl, h1⟩
 refine ⟨⟨m, rfl, rfl, rfl, fun _ _ _ => rfl, fun b h => .inl h, fun b h => .inl h⟩, ?_⟩
 exact hp.upd m (fun _ => False) (fun _ _ => rfl) (fun j o q _ ho hl hq => ⟨rfl, hp.out j o q ho hl hq⟩) (fun _ _ h => h.elim) (fun _ _ _ h => h.elim) (fun i o hf ho => hp.fre i o (h1 i hf) ho) h2
theorem uU (hp : dW E w S H ρ (far H)) (hS : ∀ b, S b → b < w.heap.size) (n : Nat) : f7 w w S S H (H ++ List.replicate n .dead) ρ ρ (far H) (far H) ∧ dW E w S (H ++ List.replicate n .dead) ρ (far H) := by
 have hg : ∀ (i : Nat) (o : Ob E.C), (H ++ List.replicate n Ob.dead)[i]? = some o → o ≠ .dead → H[i]? = some o := by
  intro i o h hd
  by_cases hlt : i < H.length
  ·rw [List.getElem?_append_left hlt] at h; exact h
  ·rw [List.getElem?_append_right (by omega), List.getElem?_replicate] at h
   split at h
   ·cases h; exact (hd rfl).elim
   ·cases h
 have m : lG w w S S H (H ++ List.replicate n .dead) ρ ρ (far H) (far H) :=
  ⟨⟨Nat.le_refl _, fun _ h => h, eo.refl S w, hS⟩, fun i _ => ⟨fun t l fz h => ⟨l, fz, hg i _ h (by simp), rfl⟩, fun t x fz h => ⟨x, fz, hg i _ h (by simp)⟩⟩, fun _ _ => rfl, fun _ h => h⟩
 refine ⟨⟨m, rfl, rfl, rfl, fun _ _ _ => rfl, fun b h => .inl h, fun b h => ?_⟩, ?_⟩
 ·obtain ⟨i, o, q, h1, h2, h3, rfl⟩ := h
  exact .inl ⟨i, o, q, hg i o h1 (cd h2), h2, h3, rfl⟩
 ·refine hp.upd m (fun j => H.length ≤ j) (fun j hj => List.getElem?_append_left (by omega)) (fun j o q _ ho hl hq => ⟨rfl, hp.out j o q ho hl hq⟩) (fun j o hj ho => ?_) (fun j o q hj ho hl hq => ?_) (fun j o hf ho => ?_) (fun j hj => by simp at hj; unfold far; omega)
  ·by_cases hd : o = .dead
   ·subst hd; unfold dw; trivial
   ·have := aH (hg j o ho hd); omega
  ·have := aH (hg j o ho (cd hl)); omega
  ·by_cases hd : o = .dead
   ·exact hd
   ·have := aH (hg j o ho hd); unfold far at hf; omega
end
end Go.Ev
end
section
namespace Go.Ev
theorem uW {P : Program} {c : Code} {Q : Exit → Act → World → Prop} (R : Nat → Act → World → Prop)
  (round : ∀ n a w, R n a w → c.wp P (Exit.then (fun a' w' => ∃ m, m < n ∧ R m a' w') Q) a w) {n : Nat} {a : Act} {w : World} (h : R n a w) : (Code.loop c).wp P Q a w := by
 intro b k cs
 have key : ∀ n a w, R n a w → ∃ e a' w', Q e a' w' ∧ Arrives P (lone (b.at a (.code c :: .inLoop c :: k)) cs w) b k cs e a' w' := by
  intro n
  induction n using Nat.strongRecOn with
  | _ n ih =>
   intro a w hI
   obtain ⟨e, a1, w1, hq, harr⟩ := round n a w hI b (.inLoop c :: k) cs
   have pass : ∀ e : Exit, e ≠ .normal → Arrives P (lone (b.at a (.code c :: .inLoop c :: k)) cs w) b (.inLoop c :: k) cs e a1 w1 → Arrives P (lone (b.at a (.code c :: .inLoop c :: k)) cs w) b k cs e a1 w1 :=
    fun e he h => Arrives.pass (x := .inLoop c) rfl (fun _ _ => .inl he) h
   cases e with
   | normal =>
    obtain ⟨m, hm, hR⟩ := hq
    obtain ⟨e2, a2, w2, hq2, harr2⟩ := ih m hm a1 w1 hR
    exact ⟨e2, a2, w2, hq2, .of_steps (Steps.trans harr (.one step_inLoop)) harr2⟩
   | exit id => exact ⟨_, a1, w1, hq, pass _ (by simp) harr⟩
   | goto l => exact ⟨_, a1, w1, hq, pass _ (by simp) harr⟩
   | ret => exact ⟨_, a1, w1, hq, pass _ (by simp) harr⟩
   | panic ch => exact ⟨_, a1, w1, hq, pass _ (by simp) harr⟩
   | outgrown => exact ⟨_, a1, w1, hq, pass _ (by simp) harr⟩
 obtain ⟨e, a', w', hq, harr⟩ := key n a w h
 exact ⟨e, a', w', hq, .of_steps (.one step_loop) harr⟩
section
variable {P : Program} {E : dD} {w w' : World} {S S' : Nat → Prop} {H H' : List (Ob E.C)} {ρ ρ' : Nat → Option Pl} {Fr Fr' : Nat → Prop} {F : List (Nat × cw E.C)}
theorem fY.to {X : Cx} {a : Act} {tm : List (AV E.C)} (h : fY P E X a w S H ρ Fr tm) (st : f7 w w' S S' H H' ρ ρ' Fr Fr') (hp : dW E w' S' H' ρ' Fr') : fY P E X a w' S' H' ρ' Fr' tm :=
 h.step (dst := none) (v := .undef) (u := undef) st hp (by unfold aF; trivial) (by simp)
theorem tj (hp : dW E w S H ρ Fr) (hS : ∀ b, S b → b < w.heap.size) (h1 : w'.heap = w.heap) (h2 : w'.os = w.os) (h3 : w'.tape = w.tape) (h4 : w'.output = w.output) : f7 w w' S S H H ρ ρ Fr Fr ∧ dW E w' S H ρ Fr := by
 have m : lG w w' S S H H ρ ρ Fr Fr := ⟨⟨by rw [h1]; exact Nat.le_refl _, fun _ h => h, fun b _ => by rw [h1], by rw [h1]; exact hS⟩, fun i _ => vQ.refl H i, fun _ _ => rfl, fun _ h => h⟩
 refine ⟨⟨m, h2, h3, h4, fun b _ _ => by rw [h1], fun b h => .inl h, fun b h => .inl h⟩, ?_⟩
 exact hp.upd m (fun _ => False) (fun _ _ => rfl) (fun j o q _ ho hl hq => ⟨by rw [h1], hp.out j o q ho hl hq⟩) (fun _ _ h => h.elim) (fun _ _ _ h => h.elim) hp.fre hp.far
theorem vf (hp : dW E w S H ρ Fr) (hS : ∀ b, S b → b < w.heap.size) (hl : H'.length = H.length) (hg : ∀ (j : Nat) (o : Ob E.C), H'[j]? = some o → o ≠ .dead → H[j]? = some o) :
  f7 w w S S H H' ρ ρ Fr Fr ∧ dW E w S H' ρ Fr := by
 have m : lG w w S S H H' ρ ρ Fr Fr :=
  ⟨⟨Nat.le_refl _, fun _ h => h, eo.refl S w, hS⟩, fun i _ => ⟨fun t l fz h => ⟨l, fz, hg i _ h (by simp), rfl⟩, fun t x fz h => ⟨x, fz, hg i _ h (by simp)⟩⟩, fun _ _ => rfl, fun _ h => h⟩
 refine ⟨⟨m, rfl, rfl, rfl, fun _ _ _ => rfl, fun b h => .inl h, fun b h => ?_⟩, ?_⟩
 ·obtain ⟨i, o, q, h1, h2, h3, rfl⟩ := h
  exact .inl ⟨i, o, q, hg i o h1 (cd h2), h2, h3, rfl⟩
 ·refine hp.upd m (fun j => H'[j]? ≠ H[j]?) (fun j hj => Classical.byContradiction hj) (fun j o q _ ho hl hq => ⟨rfl, hp.out j o q ho hl hq⟩) (fun j o hj ho => ?_) (fun j o q hj ho hl hq => ?_) (fun j o hf ho => ?_) (fun j hj => hp.far j (by omega))
  ·by_cases hd : o = .dead
   ·subst hd; unfold dw; trivial
   ·exact (hj (by rw [ho, hg j o ho hd])).elim
  ·exact (hj (by rw [ho, hg j o ho (cd hl)])).elim
  ·by_cases hd : o = .dead
   ·exact hd
   ·exact hp.fre j o hf (hg j o ho hd)
def mf {β : Type} : List Nat → List β → List β → List β
 | i :: is, v :: vs, tm => mf is vs (an tm i v)
 | _, _, tm => tm
theorem rM {R : Type} : ∀ (is : List Nat) (vs tm : List (AV E.C)) (k : List (AV E.C) → Option R), u5 E is vs tm k = k (mf is vs tm)
 | i :: is, v :: vs, tm, k => by unfold u5 mf; rw [iZ]; exact rM is vs _ k
 | [], _, _, _ => rfl
 | _ :: _, [], _, _ => rfl
theorem m0 {β : Type} : ∀ (is : List Nat) (vs tm : List β), (mf is vs tm).length = tm.length
 | i :: is, v :: vs, tm => by unfold mf; rw [m0 is vs, aY]
 | [], _, _ => rfl
 | _ :: _, [], _ => rfl
theorem lM {β : Type} : ∀ (is : List Nat) (vs tm : List β) (j : Nat) (v : β), (mf is vs tm)[j]? = some v → tm[j]? = some v ∨ ∃ m : Nat, is[m]? = some j ∧ vs[m]? = some v
 | i :: is, x :: vs, tm, j, v, h => by
  unfold mf at h
  rcases lM is vs _ j v h with h | ⟨m, h1, h2⟩
  ·rw [aQ] at h
   split at h
   ·rename_i e
    split at h
    ·cases h; exact .inr ⟨0, by simp [e], rfl⟩
    ·cases h
   ·exact .inl h
  ·exact .inr ⟨m + 1, by simpa using h1, by simpa using h2⟩
 | [], _, _, _, _, h => .inl h
 | _ :: _, [], _, _, _, h => .inl h
def nE (E : dD) (n : Nat) (l : qw) (x : ap E.C l.ty) : List (AV E.C) := mf l.at_ (pL E l.sh x 0).1 (List.replicate n .undef)
theorem pq {R : Type} {n : Nat} {l : qw} {x : ap E.C l.ty} {k : List (AV E.C) → List (Ob E.C) → Option R} : tv E n l x k = k (nE E n l x) (pL E l.sh x 0).2 := by
 unfold tv nE
 refine (pW l.sh x [] _).trans ?_
 rw [rM]
 rfl
def gq (pins : List Nat) : List Nat → List Sh → Bool
 | i :: is, .part _ :: ss => !(iP.mem i pins) && gq pins is ss
 | i :: is, .nilh :: ss => !(iP.mem i pins) && gq pins is ss
 | _ :: is, _ :: ss => gq pins is ss
 | _, _ => true
theorem oS {pins : List Nat} : ∀ {is : List Nat} {ss : List Sh} {m i j : Nat}, gq pins is ss = true → is[m]? = some i → ss[m]? = some (.part j) → i ∉ pins
 | [], _, m, _, _, _, h, _ => by simp at h
 | _ :: _, [], m, _, _, _, _, h => by simp at h
 | i0 :: is, s :: ss, 0, i, j, h, h1, h2 => by
  simp at h1 h2
  subst h1; subst h2
  simp only [gq, Bool.and_eq_true, Bool.not_eq_true'] at h
  exact fun hh => by rw [mem_iff.2 hh] at h; cases h.1
 | i0 :: is, s :: ss, m + 1, i, j, h, h1, h2 => by
  have h' : gq pins is ss = true := by
   cases s <;> simp only [gq, Bool.and_eq_true] at h <;> first | exact h | exact h.2
  exact oS h' (by simpa using h1) (by simpa using h2)
theorem oO {pins : List Nat} : ∀ {is : List Nat} {ss : List Sh} {m i : Nat}, gq pins is ss = true → is[m]? = some i → ss[m]? = some .nilh → i ∉ pins
 | [], _, m, _, _, h, _ => by simp at h
 | _ :: _, [], m, _, _, _, h => by simp at h
 | i0 :: is, s :: ss, 0, i, h, h1, h2 => by
  simp at h1 h2
  subst h1; subst h2
  simp only [gq, Bool.and_eq_true, Bool.not_eq_true'] at h
  exact fun hh => by rw [mem_iff.2 hh] at h; cases h.1
 | i0 :: is, s :: ss, m + 1, i, h, h1, h2 => by
  have h' : gq pins is ss = true := by
   cases s <;> simp only [gq, Bool.and_eq_true] at h <;> first | exact h | exact h.2
  exact oO h' (by simpa using h1) (by simpa using h2)
theorem uN : ∀ {ss : List Sh} {x : ap E.C (bh ss)} {n m : Nat} {v : AV E.C}, (pL E ss x n).1[m]? = some v → (v = .nils → ss[m]? = some .nilh) ∧ ∀ i lo hi, v = .sub i lo hi → ∃ j, ss[m]? = some (.part j)
 | [], x, n, m, v, h => by change ([] : List (AV E.C))[m]? = _ at h; simp at h
 | s :: ss, x, n, 0, v, h => by
  change ((pS E s x.1 n).1 :: (pL E ss x.2 (n + (pS E s x.1 n).2.length)).1)[0]? = _ at h
  simp at h
  subst h
  cases s <;> refine ⟨fun hh => ?_, fun i lo hi hh => ?_⟩ <;> first | exact ⟨_, rfl⟩ | rfl | (nomatch hh)
 | s :: ss, x, n, m + 1, v, h => by
  change ((pS E s x.1 n).1 :: (pL E ss x.2 (n + (pS E s x.1 n).2.length)).1)[m + 1]? = _ at h
  obtain ⟨h1, h2⟩ := uN (ss := ss) (by simpa using h)
  exact ⟨fun e => by simpa using h1 e, fun i lo hi e => by obtain ⟨j, hj⟩ := h2 i lo hi e; exact ⟨j, by simpa using hj⟩⟩
theorem uL (hT : eP P E) (hC : dp P F) {R : Type} {X : Cx} {l : qw} {tm : List (AV E.C)} {k : ap E.C l.ty → Option R} {r : R} {a : Act} (h : A2 E F l tm H k = some r) (hi : fY P E X a w S H ρ Fr tm) (hl : gq X.pins l.at_ l.sh = true) :
  ∃ x, k x = some r ∧ ∃ S1 ρ1, fY P E X a w S1 (pL E l.sh x 0).2 ρ1 (far (pL E l.sh x 0).2) (nE E X.n l x) := by
 unfold A2 at h
 rw [kq] at h
 generalize hd : aj H _ _ = p at h
 cases p with
 | none => cases h
 | some p =>
  simp only [Option.bind_some] at h
  replace hd := zX hT.env hi.st.hp hC hi.st.sb hd
  obtain ⟨x, acc, T, T0', hd, hrd, hio, hro, hpg⟩ := hd
  simp only [aj, Option.some.injEq] at hd
  subst hd
  simp only at h
  cases hnd : jQ acc T with
  | false => rw [hnd] at h; cases h
  | true =>
   rw [hnd] at h
   have hus : az P E w S H ρ Fr (l.at_.map fun i => cX E tm (.tmp i)) (l.at_.map fun i => a.tmps.getD i undef) := by
    have := gI hi.st (l.at_.map Operand.tmp)
    rw [List.map_map, List.map_map] at this
    exact this
   obtain ⟨ρ1, pg, hav⟩ := hpg hnd _ hus
   refine ⟨x, h, ST S ρ T, ρ1, ⟨⟨fun i v hv => ?_, ?_, pg.hp, pg.bs.bnd⟩, hi.bs.trans pg.bs, hi.pin, fun d p hdp v hv => ?_, hi.dfr, ?_⟩⟩
   ·rcases lM _ _ _ _ _ hv with hv | ⟨m, h1, h2⟩
    ·rw [List.getElem?_replicate] at hv
     split at hv
     ·cases hv; unfold aF; trivial
     ·cases hv
    ·obtain ⟨u, u1, u2⟩ := hav.nth h2
     rw [List.getElem?_map, h1] at u1
     cases u1
     exact u2
   ·unfold nE; rw [m0, List.length_replicate, hi.st.len, hi.sz]
   ·rcases lM _ _ _ _ _ hv with hv | ⟨m, h1, h2⟩
    ·rw [List.getElem?_replicate] at hv
     split at hv
     ·cases hv; trivial
     ·cases hv
    ·obtain ⟨f1, f2⟩ := uN h2
     cases v with
     | nils => exact (oO hl h1 (f1 rfl) (X.iopin d p hdp)).elim
     | sub i lo hi' =>
      obtain ⟨j, hj⟩ := f2 i lo hi' rfl
      exact (oS hl h1 hj (X.iopin d p hdp)).elim
     | row n' =>
      have hv0 : (l.at_.map fun i => cX E tm (.tmp i))[m]? = some (cX E tm (.tmp d)) := by rw [List.getElem?_map, h1]; rfl
      have hro' := hro m _ n' hv0 h2
      have hpl : ∀ v0, cX E tm (.tmp d) = v0 → v0 ≠ .undef → oo ρ p v0 := by
       intro v0 e hne
       refine hi.plc d p hdp v0 ?_
       unfold cX at e
       dsimp only at e
       split at e
       ·rename_i v' hv'; rw [hv', e]
       ·exact (hne e.symm).elim
      rcases hro' with e | ⟨i, lo, hi', e⟩ | ⟨i, e, hacc⟩
      ·exact (hpl _ e (by simp)).elim
      ·exact (hpl _ e (by simp)).elim
      ·have := pg.ac n' _ hacc
       exact this.1.trans (hpl _ e (by simp))
     | _ => trivial
   ·unfold nE; rw [m0, List.length_replicate]
section
variable {R : Type}
def rz (P : Program) (X : Cx) (K : jc E R) (r : R) (Q : Exit → Act → World → Prop) : Prop :=
 (∀ tm H a w S ρ, K.norm tm H = some r → fY P E X a w S H ρ (far H) tm → Q .normal a w) ∧ (∀ j tm H a w S ρ, K.exit j tm H = some r → fY P E X a w S H ρ (far H) tm → Q (.exit j) a w) ∧
  ∀ tm H a w S ρ, K.ret tm H = some r → fY P E X a w S H ρ (far H) tm → Q .ret a w
def lR (pins : List Nat) (ws : List (sV × qw)) : Bool := ws.all fun w => gq pins w.2.at_ w.2.sh
theorem tH {w w' : sV} (h : np.same w w' = true) : w = w' := by
 cases w <;> cases w' <;> simp [np.same] at h <;> first | rfl | rw [h]
theorem sf (hT : eP P E) (hC : dp P F) {X : Cx} {wy : sV} {tm : List (AV E.C)} {r : R} {a : Act} (hi : fY P E X a w S H ρ Fr tm) : ∀ {ws : List (sV × qw)} {k : ap E.C (kJ ws) → Option R}, np E F wy ws tm H k = some r → lR X.pins ws = true →
  ∃ y, k y = some r ∧ ∀ (R' : Type) (K : jc E R') (r' : R'), xU E X.n K ws y = some r' → ∃ tm1 H1 S1 ρ1, K.to E wy tm1 H1 = some r' ∧ fY P E X a w S1 H1 ρ1 (far H1) tm1
 | [], k, h, _ => by unfold np at h; cases h
 | [(w', l)], k, h, hl => by
  unfold np at h
  cases hs : np.same wy w' with
  | false => rw [hs] at h; cases h
  | true =>
   rw [hs] at h
   obtain rfl := tH hs
   simp only [lR, List.all_cons, Bool.and_eq_true] at hl
   obtain ⟨x, h1, S1, ρ1, h2⟩ := uL hT hC h hi hl.1
   refine ⟨x, h1, fun R' K r' ho => ⟨_, _, S1, ρ1, ?_, h2⟩⟩
   change tv E X.n l x (K.to E wy) = some r' at ho
   rw [pq] at ho
   exact ho
 | (w', l) :: w2 :: ws, k, h, hl => by
  unfold np at h
  simp only [lR, List.all_cons, Bool.and_eq_true] at hl
  cases hs : np.same wy w' with
  | false =>
   rw [hs] at h
   simp only [cond_false] at h
   obtain ⟨y, h1, h2⟩ := sf hT hC hi (ws := w2 :: ws) h (by simp only [lR, List.all_cons, Bool.and_eq_true]; exact hl.2)
   exact ⟨Sum.inr y, h1, fun R' K r' ho => h2 R' K r' ho⟩
  | true =>
   rw [hs] at h
   simp only [cond_true] at h
   obtain rfl := tH hs
   obtain ⟨x, h1, S1, ρ1, h2⟩ := uL hT hC h hi hl.1
   refine ⟨Sum.inl x, h1, fun R' K r' ho => ⟨_, _, S1, ρ1, ?_, h2⟩⟩
   change tv E X.n l x (K.to E wy) = some r' at ho
   rw [pq] at ho
   exact ho
theorem rz.to {X : Cx} {K : jc E R} {r : R} {Q : Exit → Act → World → Prop} (h : rz P X K r Q) {wy : sV} {tm : List (AV E.C)} {a : Act} (hk : K.to E wy tm H = some r) (hi : fY P E X a w S H ρ (far H) tm) :
  match wy with | .norm => Q .normal a w | .exit j => Q (.exit j) a w | .ret => Q .ret a w := by
 cases wy with
 | norm => exact h.1 tm H a w S ρ hk hi
 | exit j => exact h.2.1 j tm H a w S ρ hk hi
 | ret => exact h.2.2 tm H a w S ρ hk hi
end
def lb (P : Program) (E : dD) (pins : List Nat) (n : Nat) (c : Code) (p : s6 E) : Prop := ∀ X : Cx, X.pins = pins → X.n = n → ∀ x y, p.fn x = some y → ∀ a w S ρ1, fY P E X a w S (pL E p.head.sh x 0).2 ρ1 (far (pL E p.head.sh x 0).2) (nE E n p.head x) →
 ∀ (R : Type) (K : jc E R) (r : R), xU E n K p.ways y = some r → ∀ Q, rz P X K r Q → (Code.loop c).wp P Q a w
def dX (P : Program) (E : dD) (A : sY E) (n : Nat) : Code → Nat → Prop
 | .seq a b, i => dX P E A n a i ∧ dX P E A n b i
 | .cond _ a b, i => dX P E A n a i ∧ dX P E A n b i
 | .block id c, _ => dX P E A n c id
 | .loop c, i => ∀ p, s7 i A.loops = some p → gq A.pins p.head.at_ p.head.sh = true ∧ lb P E A.pins n c p
 | _, _ => True
theorem xN (hT : eP P E) (hC : dp P F) {R : Type} {X : Cx} {t : Ty} {i : Nat} {tm : List (AV E.C)} {k : ap E.C t → Option R} {r : R} {a : Act} (h : wN E F H t (cX E tm (.tmp i)) k = some r) (hi : fY P E X a w S H ρ Fr tm) :
  ∃ x, k x = some r ∧ aF P E w S H ρ Fr (.pv t x) (a.tmps.getD i undef) := by
 unfold wN at h
 rw [kq] at h
 generalize hd : aj H _ _ = p at h
 cases p with
 | none => cases h
 | some p =>
  simp only [Option.bind_some] at h
  replace hd := (dZ hT.env hi.st.hp hC 40).1 _ _ _ _ _ _ hd
  obtain ⟨x, T, T0', hd, hr, hpr⟩ := hd
  simp only [aj, Option.some.injEq] at hd
  subst hd
  simp only at h
  split at h
  ·rename_i e
   refine ⟨x, h, ?_⟩
   have := hpr.2 _ (fp hi.st (.tmp i))
   rw [lW] at this
   unfold aF
   exact this
  ·cases h
def nV (Good : Nat → AV E.C → Prop) : (l : List (Nat × Ty)) → ap E.C (jY l) → Prop
 | [], _ => True
 | (i, t) :: r, x => Good i (.pv t x.1) ∧ nV Good r x.2
theorem nM (hT : eP P E) (hC : dp P F) {R : Type} {X : Cx} {tm : List (AV E.C)} {a : Act} (hi : fY P E X a w S H ρ Fr tm) : ∀ {js : List (Nat × Ty)} {k : ap E.C (jY js) → Option R} {r : R}, k6 E F tm H js k = some r →
  ∃ x, k x = some r ∧ nV (fun i v => aF P E w S H ρ Fr v (a.tmps.getD i undef)) js x
 | [], k, r, h => ⟨(), h, trivial⟩
 | (i, t) :: js, k, r, h => by
  unfold k6 at h
  obtain ⟨x, h, hx⟩ := xN hT hC h hi
  obtain ⟨y, h, hy⟩ := nM hT hC hi h
  exact ⟨(x, y), h, hx, hy⟩
theorem nV.imp {G G' : Nat → AV E.C → Prop} (h : ∀ i v, G i v → G' i v) : ∀ {js : List (Nat × Ty)} {x : ap E.C (jY js)}, nV G js x → nV G' js x
 | [], _, _ => trivial
 | (_, _) :: _, _, hh => ⟨h _ _ hh.1, nV.imp h hh.2⟩
theorem oW {R : Type} {G : Nat → AV E.C → Prop} : ∀ {js : List (Nat × Ty)} {x : ap E.C (jY js)} {tm : List (AV E.C)} {k : List (AV E.C) → Option R} {r : R}, mz E js x tm k = some r → nV (fun i v => G i v) js x → (∀ i v, tm[i]? = some v → G i v) →
  ∃ tm', k tm' = some r ∧ tm'.length = tm.length ∧ ∀ i v, tm'[i]? = some v → G i v
 | [], _, tm, k, r, h, _, hg => ⟨tm, h, rfl, hg⟩
 | (i, t) :: js, x, tm, k, r, h, hj, hg => by
  unfold mz at h
  rw [iZ] at h
  obtain ⟨tm', h1, h2, h3⟩ := oW (G := G) h hj.2 (fun j v hv => by
   rw [aQ] at hv
   split at hv
   ·rename_i e
    split at hv
    ·cases hv; subst e; exact hj.1
    ·cases hv
   ·exact hg j v hv)
  exact ⟨tm', h1, h2.trans (aY _ _ _), h3⟩
theorem wh {R : Type} {pins : List Nat} : ∀ {ops : List Oper} {tm : List (AV E.C)} {k : List (AV E.C) → Option R} {r : R}, yA E pins ops tm k = some r →
  ∃ tm', k tm' = some r ∧ tm'.length = tm.length ∧ ∀ i v, tm'[i]? = some v → v = .undef ∨ (tm[i]? = some v ∧ ∀ o, o ∈ ops → o.dst ≠ some i)
 | [], tm, k, r, h => ⟨tm, h, rfl, fun i v hv => .inr ⟨hv, by simp⟩⟩
 | o :: ops, tm, k, r, h => by
  unfold yA at h
  obtain ⟨_, h⟩ := qa h
  obtain ⟨tm', h1, h2, h3⟩ := wh h
  refine ⟨tm', h1, h2.trans jS, fun i v hv => ?_⟩
  rcases h3 i v hv with h4 | ⟨h4, h5⟩
  ·exact .inl h4
  ·by_cases e : o.dst = some i
   ·left
    rw [e] at h4
    have h4 : (an tm i .undef)[i]? = some v := h4
    rw [aQ, if_pos rfl] at h4
    split at h4
    ·cases h4; rfl
    ·cases h4
   ·rw [kr e] at h4
    exact .inr ⟨h4, fun o' ho' => by
     rcases List.mem_cons.1 ho' with rfl | ho'
     ·exact e
     ·exact h5 o' ho'⟩
theorem oT {pins : List Nat} {all : List Oper} {ups : Bool} : ∀ {es : List (En E)} {tm : List (AV E.C)} {H : List (Ob E.C)} {tm' : List (AV E.C)} {H' : List (Ob E.C)} {n : Nat}, kz F pins all ups es tm H tm' H' → (∀ e, e ∈ es → n ≤ e.s) →
  tm'.length = tm.length ∧ H'.length = H.length ∧ (∀ i, (∀ e, e ∈ es → e.o.dst ≠ some i) → tm'[i]? = tm[i]?) ∧ (ups = false → ∀ j, j < n → H'[j]? = H[j]?)
 | [], tm, H, tm', H', n, h, _ => by obtain ⟨rfl, rfl⟩ := h; exact ⟨rfl, rfl, fun _ _ => rfl, fun _ _ _ => rfl⟩
 | e :: es, tm, H, tm', H', n, h, hn => by
  obtain ⟨h1, h2⟩ := h
  obtain ⟨h3, h4, h5, h6⟩ := oT h2 fun e' he' => hn e' (by simp [he'])
  refine ⟨h3.trans jS, h4.trans (cx _ _), fun i hi => ?_, fun hu j hj => ?_⟩
  ·rw [h5 i fun e' he' => hi e' (by simp [he']), kr (hi e (by simp))]
  ·rw [h6 hu j hj]
   obtain ⟨use, _, hc⟩ := h1.grd
   rcases hc with ⟨_, _, r, T, _, _, hu', _, h7⟩ | ⟨_, _, _, hu', _⟩
   ·rw [hu', dy]
    intro y hy e'
    rcases h7 with h7 | h7
    ·rw [hu] at h7; cases h7
    ·rw [h7, List.append_nil] at hy
     obtain ⟨m, hm⟩ := List.mem_iff_getElem?.1 hy
     rw [jU] at hm
     cases ho : r.new[m]? with
     | none => rw [ho] at hm; cases hm
     | some o' =>
      rw [ho] at hm; cases hm
      have := hn e (by simp)
      simp at e'; omega
   ·rw [hu']; rfl
section
variable (hT : eP P E) (hC : dp P F) (hF : jq P E F) (hmix : P.follows .mixedOrders = true)
include hT hC hF hmix
theorem lC {R : Type} {X : Cx} {ops : Array Oper} {id : Nat} {draw ups : Bool} {tm : List (AV E.C)} {k : List (AV E.C) → List (Ob E.C) → Option R} {r : R} {a : Act} {Q : Exit → Act → World → Prop}
  (h : ji E F X.pins ops.toList draw ups ops.toList 0 H.length [] [] tm (H ++ List.replicate (dC E F ops.toList) .dead) k = some r) (hi : fY P E X a w S H ρ (far H) tm)
  (hQ : ∀ tm' H', k tm' H' = some r → tm'.length = tm.length → H'.length = H.length + dC E F ops.toList → (∀ i, (∀ o, o ∈ ops.toList → o.dst ≠ some i) → tm'[i]? = tm[i]?) → (ups = false → ∀ j, j < H.length → H'[j]? = H[j]?) →
   ∀ a' w' S' ρ', fY P E X a' w' S' H' ρ' (far H') tm' → Q .normal a' w') : (Code.region id ops draw).wp P Q a w := by
 obtain ⟨es, tmF, HF, c1, c2, c3, c4, c5, c6⟩ := vH ops.toList 0 H.length [] [] tm _ h (fun m o ho => by rw [Nat.zero_add]; exact ho) (fun _ => ⟨rfl, by simp⟩)
 obtain ⟨r1, r2⟩ := c5.rg
 rw [c3] at r1
 have hlen : es.length = ops.size := by rw [← List.length_map (f := (·.o)), c3]; simp
 have hrg : Rg F es (far H) (H ++ List.replicate (dC E F ops.toList) Ob.dead).length :=
  ⟨fun e he j hj _ => by have := r1 e he; unfold far; omega, fun e he => by have := r1 e he; simp; omega, r2⟩
 obtain ⟨o1, o2, o3, o4⟩ := oT (n := H.length) c1 fun e he => (r1 e he).1
 have ops_at : ∀ (m : Nat) (e : En E), es[m]? = some e → ops.toList[e.i]? = some e.o := fun m e hm => by
  rw [c4 m e hm, Nat.zero_add, ← c3, List.getElem?_map, hm]; rfl
 have fin : ∀ a' w' S' ρ' Fr', fY P E X a' w' S' HF ρ' Fr' tmF → Q .normal a' w' := by
  intro a' w' S' ρ' Fr' hinv
  obtain ⟨s1, s2⟩ := yw (Fr' := far HF) hinv.st.hp hinv.st.sb hinv.st.hp.far (fun i h => h)
  refine hQ tmF HF c2 o1 (by rw [o2]; simp) (fun i hni => o3 i fun e he => hni _ ?_) (fun hu j hj => by rw [o4 hu j hj, List.getElem?_append_left hj]) a' w' S' ρ' (hinv.to s1 s2)
  rw [← c3]; exact List.mem_map_of_mem he
 obtain ⟨d1, d2⟩ := uU hi.st.hp hi.st.sb (dC E F ops.toList)
 have hi1 := hi.to d1 d2
 cases draw with
 | false =>
  refine wp_region ?_
  rw [List.range_eq_range', ← hlen]
  exact md hT hC hF fin es 0 tm _ a w S ρ (far H) c1 (fun m e hm => ⟨c4 m e hm, ops_at m e hm⟩) hrg hi1
 | true =>
  obtain ⟨q1, q2⟩ := c6 rfl
  refine wp_region_any hmix ?_
  obtain ⟨s1, s2⟩ := tj (w' := { w with drawn := w.drawn + 1 }) hi1.st.hp hi1.st.sb rfl rfl rfl rfl
  have aB : ∀ e, e ∈ es → ∃ m : Nat, es[m]? = some e ∧ e.i = m := fun e he => by
   obtain ⟨m, hm⟩ := List.mem_iff_getElem?.1 he
   exact ⟨m, hm, by rw [c4 m e hm]; omega⟩
  have getF : ∀ j, j < ops.size → (Array.replicate ops.size false).getD j true = false := fun j hj => by simp [hj]
  refine sD hT hC hF fin ops.size es (Array.replicate ops.size false) tm _ a _ S ρ (far H) hlen (by simp) (fun j hj => ⟨fun _ => ?_, fun _ => getF j hj⟩) (fun j o ho hd => ?_) (fun e he => ?_) q2 ?_ c1 hrg (hi1.to s1 s2)
  ·have hj' : j < es.length := by omega
   exact ⟨es[j], List.getElem_mem hj', by rw [c4 j _ (List.getElem?_eq_getElem hj')]; omega⟩
  ·rw [getF j (by have := aH ho; simpa using this)] at hd; cases hd
  ·obtain ⟨m, hm, _⟩ := aB e he
   exact ⟨ops_at m e hm, (q1 m e hm).1⟩
  ·rw [List.pairwise_iff_getElem]
   intro i j hi' hj' hij
   rw [c4 i _ (List.getElem?_eq_getElem hi'), c4 j _ (List.getElem?_eq_getElem hj')]
   omega
theorem iG {X : Cx} {A : sY E} (hpin : A.pins = X.pins) {R : Type} {r : R} : ∀ (c : Code) (i : Nat) (K : jc E R) (tm : List (AV E.C)) (H : List (Ob E.C)), eval E F A X.n c i K tm H = some r → dX P E A X.n c i →
  ∀ (Q : Exit → Act → World → Prop), rz P X K r Q → ∀ (a : Act) (w : World) (S : Nat → Prop) (ρ : Nat → Option Pl), fY P E X a w S H ρ (far H) tm → c.wp P Q a w := by
 intro c
 induction c with
 | skip => intro i K tm H h _ Q hm a w S ρ hi; exact wp_skip (hm.1 tm H a w S ρ h hi)
 | exit j => intro i K tm H h _ Q hm a w S ρ hi; exact wp_exit (hm.2.1 j tm H a w S ρ h hi)
 | ret => intro i K tm H h _ Q hm a w S ρ hi; exact wp_ret (hm.2.2 tm H a w S ρ h hi)
 | seq c1 c2 ih1 ih2 =>
  intro i K tm H h hl Q hm a w S ρ hi
  refine wp_seq (ih1 i _ tm H h hl.1 _ ⟨fun tm' H' a' w' S' ρ' h' hi' => ?_, fun j tm' H' a' w' S' ρ' h' hi' => ?_, fun tm' H' a' w' S' ρ' h' hi' => ?_⟩ a w S ρ hi)
  ·exact ih2 i K tm' H' h' hl.2 Q hm a' w' S' ρ' hi'
  ·exact hm.2.1 j tm' H' a' w' S' ρ' h' hi'
  ·exact hm.2.2 tm' H' a' w' S' ρ' h' hi'
 | cond c c1 c2 ih1 ih2 =>
  intro i K tm H h hl Q hm a w S ρ hi
  have ho := fp hi.st c
  unfold eval at h
  generalize cX E tm c = v at h ho
  unfold xT at h
  split at h
  ·split at h
   ·rename_i b
    have hb := fI.1 ho
    refine wp_cond hb ?_
    cases b with
    | true => simp only [cond_true] at h; exact ih1 i K tm H h hl.1 Q hm a w S ρ hi
    | false => simp only [cond_false] at h; exact ih2 i K tm H h hl.2 Q hm a w S ρ hi
   ·cases h
  ·cases h
 | block id c ih =>
  intro i K tm H h hl Q hm a w S ρ hi
  refine wp_block (ih id _ tm H h hl _ ⟨fun tm' H' a' w' S' ρ' h' hi' => ?_, fun j tm' H' a' w' S' ρ' h' hi' => ?_, fun tm' H' a' w' S' ρ' h' hi' => ?_⟩ a w S ρ hi)
  ·exact hm.1 tm' H' a' w' S' ρ' h' hi'
  ·dsimp only at h'
   unfold Exit.inBlock
   dsimp only
   cases hj : Nat.beq j id with
   | true =>
    rw [hj] at h'
    rw [if_pos (Nat.eq_of_beq_eq_true hj)]
    exact hm.1 tm' H' a' w' S' ρ' h' hi'
   | false =>
    rw [hj] at h'
    rw [if_neg (fun e => by rw [e, Nat.beq_refl] at hj; cases hj)]
    exact hm.2.1 j tm' H' a' w' S' ρ' h' hi'
  ·exact hm.2.2 tm' H' a' w' S' ρ' h' hi'
 | loop c ih =>
  intro i K tm H h hl Q hm a w S ρ hi
  unfold eval at h
  split at h
  ·rename_i p hlk
   obtain ⟨l1, l2⟩ := hl p hlk
   rw [hpin] at l1 l2
   obtain ⟨x, hx, S1, ρ1, hinv⟩ := uL hT hC h hi l1
   cases hy : p.fn x with
   | none => rw [hy] at hx; cases hx
   | some y =>
    rw [hy] at hx
    simp only [Option.bind_some] at hx
    exact l2 X rfl rfl x y hy a w S1 ρ1 hinv R K r hx Q hm
  ·cases h
 | region id ops draw =>
  intro i K tm H h hl Q hm a w S ρ hi
  unfold eval at h
  split at h
  ·rw [ic, hpin] at h
   exact lC hT hC hF hmix h hi fun tm' H' h' _ _ _ _ a' w' S' ρ' hi' => hm.1 tm' H' a' w' S' ρ' h' hi'
  ·rename_i js hjs
   rw [ic, hpin] at h
   cases hx : ji E F X.pins ops.toList draw false ops.toList 0 H.length [] [] tm (H ++ List.replicate (dC E F ops.toList) .dead) (fun tm H => k6 E F tm H js some) with
   | none => rw [hx] at h; cases h
   | some x =>
    rw [hx] at h
    simp only [Option.bind_some] at h
    obtain ⟨tm1, h, e1, e2⟩ := wh h
    refine lC hT hC hF hmix hx hi fun tm' H' h' f1 f2 f3 f4 a' w' S' ρ' hi' => ?_
    obtain ⟨x', h', hj⟩ := nM hT hC hi' h'
    obtain rfl := Option.some.inj h'
    obtain ⟨s1, s2⟩ := vf (H' := H ++ List.replicate (dC E F ops.toList) .dead) hi'.st.hp hi'.st.sb (by simp [f2]) (fun j o ho hd => by
     by_cases hlt : j < H.length
     ·rw [List.getElem?_append_left hlt] at ho; rw [f4 rfl j hlt]; exact ho
     ·rw [List.getElem?_append_right (by omega), List.getElem?_replicate] at ho
      split at ho
      ·cases ho; exact (hd rfl).elim
      ·cases ho)
    have hi2 := hi'.to s1 s2
    have e3 : (far H' : Nat → Prop) = far (H ++ List.replicate (dC E F ops.toList) Ob.dead) := by funext i; unfold far; simp [f2]
    rw [e3] at hi2
    have hj2 : nV (fun i v => aF P E w' S' (H ++ List.replicate (dC E F ops.toList) Ob.dead) ρ' (far (H ++ List.replicate (dC E F ops.toList) Ob.dead)) v (a'.tmps.getD i undef) ∧ ∀ p, (i, p) ∈ X.iop → oo ρ' p v) js x' := by
     have key : ∀ {js : List (Nat × Ty)} {x : ap E.C (jY js)}, nV (fun i v => aF P E w' S' H' ρ' (far H') v (a'.tmps.getD i undef)) js x → nV (fun i v => aF P E w' S' (H ++ List.replicate (dC E F ops.toList) Ob.dead) ρ' (far (H ++ List.replicate (dC E F ops.toList) Ob.dead)) v (a'.tmps.getD i undef) ∧ ∀ p, (i, p) ∈ X.iop → oo ρ' p v) js x := by
      intro js
      induction js with
      | nil => intro x _; trivial
      | cons q js ih =>
       intro x hq
       obtain ⟨i, t⟩ := q
       refine ⟨⟨?_, fun p _ => trivial⟩, ih hq.2⟩
       have := hq.1
       unfold aF at this ⊢
       exact this
     exact key hj
    obtain ⟨tm2, h, g1, g2⟩ := oW (G := fun i v => aF P E w' S' (H ++ List.replicate (dC E F ops.toList) Ob.dead) ρ' (far (H ++ List.replicate (dC E F ops.toList) Ob.dead)) v (a'.tmps.getD i undef) ∧ ∀ p, (i, p) ∈ X.iop → oo ρ' p v) h hj2 (fun i v hv => by
     rcases e2 i v hv with rfl | ⟨h1, h2⟩
     ·exact ⟨by unfold aF; trivial, fun p _ => trivial⟩
     ·rw [← f3 i h2] at h1
      exact ⟨hi2.st.tmp i v h1, fun p hp => hi2.plc i p hp v h1⟩)
    refine hm.1 tm2 _ a' w' S' ρ' h ⟨⟨fun i v hv => (g2 i v hv).1, ?_, hi2.st.hp, hi2.st.sb⟩, hi2.bs, hi2.pin, fun d p hd v hv => (g2 d v hv).2 p hd, hi2.dfr, ?_⟩
    ·rw [g1, e1, hi2.st.len, f1]
    ·rw [g1, e1, ← f1, hi2.sz]
 | rangeFunc => intro i K tm H h; unfold eval at h; cases h
 | scope => intro i K tm H h; unfold eval at h; cases h
 | label => intro i K tm H h; unfold eval at h; cases h
 | goto => intro i K tm H h; unfold eval at h; cases h
 | refuse => intro i K tm H h; unfold eval at h; cases h
theorem qL {A : sY E} {n b : Nat} {c : Code} {p : s6 E} (N : ap E.C p.head.ty → Nat)
  (hfn : ∀ x, p.fn x = rZ (fun next x => l5 E F A n c b p.head p.ways next some x) (N x) x) (hl : dX P E A n c b) (h1 : gq A.pins p.head.at_ p.head.sh = true) (h2 : lR A.pins p.ways = true) : lb P E A.pins n c p := by
 intro X hX hn x y hy a w S ρ1 hi R K r hr Q hm
 subst hn
 rw [hfn] at hy
 refine uW (fun m a w => ∃ x S ρ1, rZ (fun next x => l5 E F A X.n c b p.head p.ways next some x) m x = some y ∧ fY P E X a w S (pL E p.head.sh x 0).2 ρ1 (far (pL E p.head.sh x 0).2) (nE E X.n p.head x)) ?_ (n := N x) ⟨x, S, ρ1, hy, hi⟩
 rintro m a w ⟨x, S, ρ1, hy, hi⟩
 cases m with
 | zero => cases hy
 | succ m =>
  change l5 E F A X.n c b p.head p.ways (rZ _ m) some x = some y at hy
  unfold l5 at hy
  rw [pq] at hy
  refine iG hT hC hF hmix hX.symm c b _ _ _ hy hl _ ⟨fun tm' H' a' w' S' ρ' h' hi' => ?_, fun j tm' H' a' w' S' ρ' h' hi' => ?_, fun tm' H' a' w' S' ρ' h' hi' => ?_⟩ a w S ρ1 hi
  ·obtain ⟨x', hx', S1, ρ2, hinv⟩ := uL hT hC h' hi' (by rw [hX]; exact h1)
   exact ⟨m, by omega, x', S1, ρ2, hx', hinv⟩
  ·obtain ⟨y', e, hk⟩ := sf hT hC hi' h' (by rw [hX]; exact h2)
   obtain rfl := Option.some.inj e
   obtain ⟨tm1, H1, S1, ρ2, k1, k2⟩ := hk R K r hr
   exact hm.to (wy := .exit j) k1 k2
  ·obtain ⟨y', e, hk⟩ := sf hT hC hi' h' (by rw [hX]; exact h2)
   obtain rfl := Option.some.inj e
   obtain ⟨tm1, H1, S1, ρ2, k1, k2⟩ := hk R K r hr
   exact hm.to (wy := .ret) k1 k2
end
end
end Go.Ev
end
section
namespace Go.Ev
section
variable {P : Program} {E : dD} {w w' : World} {S S' : Nat → Prop} {H H' : List (Ob E.C)} {ρ ρ' : Nat → Option Pl} {Fr Fr' : Nat → Prop} {F : List (Nat × cw E.C)}
def nh (tmps : Array Value) : ResultVar → Sem Value
 | .tmp t => pure (tmps.getD t undef)
 | .cell a t => do loadVar t (← asAddr (tmps.getD a undef))
theorem yr (vs : List Value) : (if h : vs.toArray.size = 1 then vs.toArray[0] else .tuple vs.toArray) = sd vs := by
 match vs with
 | [] => rfl
 | [v] => rfl
 | v :: v' :: vs => rfl
theorem rR {fn : Func} {tmps : Array Value} {vs : List Value} (h : (fn.results.toList.mapM (nh tmps)).run P w = .ok vs w) : (results fn tmps).run P w = .ok (sd vs) w := by
 have e : results fn tmps = (do let vs ← fn.results.mapM (nh tmps); pure (if h : vs.size = 1 then vs[0] else .tuple vs)) := by
  unfold results
  congr 1
 rw [e, Array.mapM_eq_mapM_toList]
 simp only [Sem.run_bind, map_eq_pure_bind, h, Sem.run_pure]
 simp only [Result.andThen]
 rw [← yr vs]
theorem sE (hT : eP P E) {a : Act} {tm : List (AV E.C)} (st : tP P E a w S H ρ Fr tm) : ∀ {rs : List ResultVar} {vs : List (AV E.C)}, sP E tm H rs = some vs → ∃ us, (rs.mapM (nh a.tmps)).run P w = .ok us w ∧ az P E w S H ρ Fr vs us
 | [], vs, h => by
  simp only [sP, Option.some.injEq] at h
  subst h
  exact ⟨[], by simp, by unfold az; rfl⟩
 | .tmp i :: rs, vs, h => by
  unfold sP at h
  split at h
  ·rename_i vs' hvs
   obtain rfl := Option.some.inj h
   obtain ⟨us, h1, h2⟩ := sE hT st hvs
   refine ⟨a.tmps.getD i undef :: us, ?_, ?_⟩
   ·simp [List.mapM_cons, nh, h1]
   ·unfold az
    exact ⟨_, _, rfl, fp st (.tmp i), h2⟩
  ·cases h
 | .cell i T :: rs, vs, h => by
  unfold sP at h
  split at h
  ·rename_i j ta hop
   split at h
   ·rename_i bt v fz hH
    split at h
    ·rename_i t hty
     cases hb : t.beq bt with
     | false => rw [hb] at h; cases h
     | true =>
      rw [hb] at h
      simp only [cond_true] at h
      obtain rfl := Ty.eq_of_beq hb
      split at h
      ·rename_i vs' hvs
       obtain rfl := Option.some.inj h
       obtain ⟨us, h1, h2⟩ := sE hT st hvs
       have hv : aF P E w S H ρ Fr (.adr j [] ta) (a.eval (.tmp i)) := hop ▸ fp st (.tmp i)
       unfold aF at hv
       obtain ⟨q, o, a1, a2, a3⟩ := hv.2.2.1 _ _ _ hH
       have hob := st.hp.obs j _ hH
       unfold dw at hob
       obtain ⟨q', TT, cs, b1, b2, b3, b4, _⟩ := hob
       rw [a1] at b1; cases b1
       have ho0 : o = 0 := by simp only [fM, Option.some.injEq, Prod.mk.injEq] at a2; exact a2.1.symm
       subst ho0
       have hl : (loadVar T (at_ q.b 0)).run P w = .ok (eJ (bm t) cs) w := ms hT hty (bc.len hT.env b3 b4) fun j c hc => by
        rw [World.cell_of_heap b2]; simpa using hc
       refine ⟨eJ (bm t) cs :: us, ?_, ?_⟩
       ·have a3' : a.tmps.getD i undef = .pointer (some (at_ q.b 0)) := a3
        have hr : (nh a.tmps (.cell i T)).run P w = .ok (eJ (bm t) cs) w := by
         show Sem.run P (do loadVar T (← asAddr (a.tmps.getD i undef))) w = _
         rw [a3']
         simpa [asAddr] using hl
        simp [List.mapM_cons, hr, h1]
       ·unfold az
        exact ⟨_, _, rfl, aF.ofC (hT.plain hty).2.2.1 b3 b4, h2⟩
      ·cases h
    ·cases h
   ·cases h
  ·cases h
def gU (ρ0 : Nat → Option Pl) : List Sh → Nat → Nat → List (Nat × Option Pl)
 | [], _, _ => []
 | .rowh _ :: r, d, n => (d, ρ0 n) :: gU ρ0 r (d + 1) (n + 1)
 | s :: r, d, n => gU ρ0 r (d + 1) (n + cN s)
theorem k5 {ρ0 : Nat → Option Pl} : ∀ {ins : List Sh} {d n d' : Nat} {p : Option Pl}, (d', p) ∈ gU ρ0 ins d n → d' ∈ dQ d ins
 | [], _, _, _, _, h => by simp [gU] at h
 | s :: r, d, n, d', p, h => by
  cases s with
  | rowh t =>
   simp only [gU, List.mem_cons] at h
   simp only [dQ, List.mem_cons]
   rcases h with h | h
   ·cases h; exact .inl rfl
   ·exact .inr (k5 h)
  | hole t => simp only [gU] at h; simp only [dQ]; exact k5 h
  | nilh => simp only [gU] at h; simp only [dQ]; exact k5 h
  | _ => simp only [gU] at h; simp only [dQ, List.mem_cons]; exact .inr (k5 h)
theorem rP {ρ0 : Nat → Option Pl} : ∀ {ins : List Sh} {x : ap E.C (bh ins)} {d n d' : Nat} {p : Option Pl}, (d', p) ∈ gU ρ0 ins d n → ∃ m n', d' = d + m ∧ (pL E ins x n).1[m]? = some (.row n') ∧ p = ρ0 n'
 | [], _, _, _, _, _, h => by simp [gU] at h
 | s :: r, x, d, n, d', p, h => by
  have el := gL (E := E) s x.1 n
  have e1 : (pL E (s :: r) x n).1 = (pS E s x.1 n).1 :: (pL E r x.2 (n + (pS E s x.1 n).2.length)).1 := rfl
  have key : (d', p) ∈ gU ρ0 r (d + 1) (n + cN s) → ∃ m n', d' = d + m ∧ (pL E (s :: r) x n).1[m]? = some (.row n') ∧ p = ρ0 n' := by
   intro h
   obtain ⟨m, n', h1, h2, h3⟩ := rP (x := x.2) h
   exact ⟨m + 1, n', by omega, by rw [e1, el]; simpa using h2, h3⟩
  cases s with
  | rowh t =>
   simp only [gU, List.mem_cons] at h
   rcases h with h | h
   ·cases h; exact ⟨0, n, rfl, rfl, rfl⟩
   ·exact key (by have : cN (.rowh t) = 1 := (by unfold cN; rfl); rw [this]; exact h)
  | _ => exact key h
theorem jF {ρ0 : Nat → Option Pl} : ∀ {ins : List Sh} {d0 n0 j n : Nat}, (bf ins n0)[j]? = some n → ∃ d sh, (dQ d0 ins)[j]? = some d ∧ (jx ins)[j]? = some sh ∧ ∀ t, sh = .rowh t → (d, ρ0 n) ∈ gU ρ0 ins d0 n0
 | [], _, _, _, _, h => by simp [bf] at h
 | s :: r, d0, n0, j, n, h => by
  have key : ∀ k, (n0 :: bf r (n0 + k))[j]? = some n → k = cN s → (∀ d t, d = d0 → s = .rowh t → (d, ρ0 n0) ∈ gU ρ0 (s :: r) d0 n0) → (∀ d p, (d, p) ∈ gU ρ0 r (d0 + 1) (n0 + cN s) → (d, p) ∈ gU ρ0 (s :: r) d0 n0) →
    ∃ d sh, (d0 :: dQ (d0 + 1) r)[j]? = some d ∧ (s :: jx r)[j]? = some sh ∧ ∀ t, sh = .rowh t → (d, ρ0 n) ∈ gU ρ0 (s :: r) d0 n0 := by
   intro k h hk h1 h2
   cases j with
   | zero => simp at h; subst h; exact ⟨d0, s, rfl, rfl, fun t e => h1 d0 t rfl e⟩
   | succ j =>
    subst hk
    obtain ⟨d, sh, a1, a2, a3⟩ := jF (ρ0 := ρ0) (d0 := d0 + 1) (by simpa using h)
    exact ⟨d, sh, by simpa using a1, by simpa using a2, fun t e => h2 _ _ (a3 t e)⟩
  cases s with
  | hole t =>
   have h0 : cN (.hole t) = 0 := by unfold cN; rfl
   obtain ⟨d, sh, a1, a2, a3⟩ := jF (ρ0 := ρ0) (d0 := d0 + 1) (by simpa [bf] using h)
   exact ⟨d, sh, by simpa [dQ] using a1, by simpa [jx] using a2, fun t e => by simp only [gU, h0, Nat.add_zero]; exact a3 t e⟩
  | nilh =>
   have h0 : cN .nilh = 0 := by unfold cN; rfl
   obtain ⟨d, sh, a1, a2, a3⟩ := jF (ρ0 := ρ0) (d0 := d0 + 1) (by simpa [bf] using h)
   exact ⟨d, sh, by simpa [dQ] using a1, by simpa [jx] using a2, fun t e => by simp only [gU, h0, Nat.add_zero]; exact a3 t e⟩
  | rowh t =>
   have h1 : cN (.rowh t) = 1 := by unfold cN; rfl
   exact key _ (by simpa [bf] using h) rfl (fun d t' e1 e2 => by subst e1; simp [gU]) (fun d p hp => by rw [h1] at hp; simp [gU, hp])
  | boxh t s => exact key _ (by simpa [bf] using h) rfl (fun d t' e1 e2 => by cases e2) (fun d p hp => by simp only [gU]; exact hp)
  | aggh t s => exact key _ (by simpa [bf] using h) rfl (fun d t' e1 e2 => by cases e2) (fun d p hp => by simp only [gU]; exact hp)
  | same t => exact key _ (by simpa [bf] using h) rfl (fun d t' e1 e2 => by cases e2) (fun d p hp => by simp only [gU]; exact hp)
  | part t => exact key _ (by simpa [bf] using h) rfl (fun d t' e1 e2 => by cases e2) (fun d p hp => by simp only [gU]; exact hp)
theorem mr : ∀ {outs : List Sh} {y : ap E.C (bh outs)} {n0 j n' : Nat} {t : Ty}, (dL outs n0)[j]? = some n' → outs[j]? = some (.rowh t) → (pL E outs y n0).1[j]? = some (.row n')
 | [], _, _, _, _, _, h, _ => by simp [dL] at h
 | s :: r, y, n0, j, n', t, h, hs => by
  have el := gL (E := E) s y.1 n0
  have e1 : (pL E (s :: r) y n0).1 = (pS E s y.1 n0).1 :: (pL E r y.2 (n0 + (pS E s y.1 n0).2.length)).1 := rfl
  unfold dL at h
  cases j with
  | zero => simp at h hs; subst hs; subst h; rfl
  | succ j => rw [e1, el]; simpa using mr (y := y.2) (by simpa using h) (by simpa using hs)
theorem oY {g : Nat → Value} : ∀ {ins : List Sh} {us : List Value} {k : Nat}, us.length = ins.length → (∀ (i : Nat) u, us[i]? = some u → g (k + i) = u) → (dQ k ins).map g = eZ ins us
 | [], us, k, _, _ => by cases us <;> rfl
 | s :: r, [], k, h, _ => by simp at h
 | s :: r, u :: us, k, h, hg => by
  have ih := oY (g := g) (ins := r) (us := us) (k := k + 1) (by simpa using h) fun i u' hu => by
   have := hg (i + 1) u' (by simpa using hu)
   rw [← this]; congr 1; omega
  have h0 := hg 0 u rfl
  rw [Nat.add_zero] at h0
  cases s <;> simp only [dQ, eZ, List.map_cons] <;> first | exact ih | rw [ih, h0]
theorem pR : ∀ {ss : List Sh} {x : ap E.C (bh ss)} {n : Nat}, (pL E ss x n).1.length = ss.length
 | [], _, _ => rfl
 | s :: r, x, n => by
  show ((pS E s x.1 n).1 :: (pL E r x.2 (n + (pS E s x.1 n).2.length)).1).length = _
  simp [pR (ss := r)]
def si (pins : List Nat) (ntmps : Nat) (ins outs : List Sh) : Bool := iX ins && fC ins outs && (dQ 0 ins).all (iP.mem · pins) && Nat.ble ins.length ntmps
section
variable (hT : eP P E) (hC : dp P F) (hF : jq P E F) (hmix : P.follows .mixedOrders = true)
include hT hC hF hmix
omit hF hmix in
theorem tM {pins : List Nat} {f : FuncId} {fn : Func} {c : Code} {ins outs : List Sh} (hf : P.funcs[f]? = some fn) (hb : fn.body = some c) (hok : si pins fn.ntmps ins outs = true)
  {R : Type} {fin : ap E.C (bh outs) → Option R} {x : ap E.C (bh ins)} {r : R} {ρ0 : Nat → Option Pl} {us : List Value} (hS : ∀ b, S b → b < w.heap.size)
  (hp : dW E w S (pL E ins x 0).2 ρ0 (far (pL E ins x 0).2)) (hv : az P E w S (pL E ins x 0).2 ρ0 (far (pL E ins x 0).2) (pL E ins x 0).1 us)
  (hbody : ∀ (X : Cx) (a0 : Act), X.pins = pins → X.n = fn.ntmps → fY P E X a0 w S (pL E ins x 0).2 ρ0 (far (pL E ins x 0).2) ((pL E ins x 0).1 ++ List.replicate (fn.ntmps - (pL E ins x 0).1.length) .undef) → (∀ (i : Nat) u, us[i]? = some u → a0.tmps.getD i undef = u) →
   ∀ Q, rz P X ⟨my E F (dQ 0 ins) fn.results.toList outs fin, fun _ _ _ => none, my E F (dQ 0 ins) fn.results.toList outs fin⟩ r Q → c.wp P Q a0 w) :
  Calls P f us.toArray w (fun e w' => ∃ y, fin y = some r ∧ uI P E w S (pL E ins x 0).2 ρ0 ins outs us y e w') := by
 simp only [si, Bool.and_eq_true, List.all_eq_true] at hok
 obtain ⟨⟨⟨hins, hsame⟩, hpins⟩, hnt⟩ := hok
 have hnt' : ins.length ≤ fn.ntmps := Nat.le_of_ble_eq_true hnt
 have hul : us.length = ins.length := by rw [hv.length, pR]
 refine calls_of_wp hf hb ?_
 generalize ha : ({ tmps := us.toArray ++ Array.replicate (fn.ntmps - us.toArray.size) undef, defers := [] } : Act) = a0
 have aget : ∀ (i : Nat) u, us[i]? = some u → a0.tmps.getD i undef = u := by
  intro i u hu
  have hlt := aH hu
  subst ha
  have h2 : us[i] = u := by rw [List.getElem?_eq_getElem hlt] at hu; exact Option.some.inj hu
  simp [Array.getElem?_append, hlt, h2]
 have asz : a0.tmps.size = fn.ntmps := by subst ha; simp; omega
 let X : Cx := ⟨w, S, lD (pL E ins x 0).2 ρ0, pins, fun d => a0.tmps.getD d undef, gU ρ0 ins 0 0, fn.ntmps, fun d p hd => by
  have := hpins d (k5 hd)
  exact mem_iff.1 this⟩
 have tlen : ((pL E ins x 0).1 ++ List.replicate (fn.ntmps - (pL E ins x 0).1.length) AV.undef).length = fn.ntmps := by simp [pR]; omega
 have hinv : fY P E X a0 w S (pL E ins x 0).2 ρ0 (far (pL E ins x 0).2) ((pL E ins x 0).1 ++ List.replicate (fn.ntmps - (pL E ins x 0).1.length) .undef) := by
  refine ⟨⟨fun i v hi => ?_, by rw [tlen, asz], hp, hS⟩, iw.refl hS, fun _ _ => rfl, fun d p hd v hi => ?_, by subst ha; rfl, tlen⟩
  ·by_cases hlt : i < (pL E ins x 0).1.length
   ·rw [List.getElem?_append_left hlt] at hi
    obtain ⟨u, u1, u2⟩ := hv.nth hi
    rw [aget i u u1]; exact u2
   ·rw [List.getElem?_append_right (by omega), List.getElem?_replicate] at hi
    split at hi
    ·cases hi; unfold aF; trivial
    ·cases hi
  ·obtain ⟨m, n', h1, h2, h3⟩ := rP (E := E) (x := x) hd
   rw [Nat.zero_add] at h1
   subst h1
   rw [List.getElem?_append_left (aH h2), h2] at hi
   cases hi
   exact h3.symm
 have hres : ∀ (tm : List (AV E.C)) (H : List (Ob E.C)) (a : Act) (w' : World) (S' : Nat → Prop) (ρ : Nat → Option Pl), my E F (dQ 0 ins) fn.results.toList outs fin tm H = some r → fY P E X a w' S' H ρ (far H) tm →
   a.defers = [] ∧ ∃ v, (results fn a.tmps).run P w' = .ok v w' ∧ ∃ y, fin y = some r ∧ uI P E w S (pL E ins x 0).2 ρ0 ins outs us y (.returned v) w' := by
  intro tm H a w' S' ρ h hi
  refine ⟨hi.dfr, ?_⟩
  unfold my at h
  split at h
  ·rename_i vs hvs
   obtain ⟨rvs, hrun, hav⟩ := sE hT hi.st hvs
   refine ⟨sd rvs, rR hrun, ?_⟩
   rw [kq] at h
   generalize hd : aj H _ _ = p at h
   cases p with
   | none => cases h
   | some p =>
    simp only [Option.bind_some] at h
    replace hd := zX hT.env hi.st.hp hC hi.st.sb hd
    obtain ⟨y, acc, T, T0', hd, hrd, hio, hro, hpg⟩ := hd
    simp only [aj, Option.some.injEq] at hd
    subst hd
    simp only at h
    cases hnd : jQ acc T with
    | false => rw [hnd] at h; cases h
    | true =>
     rw [hnd] at h
     have eio : (dQ 0 ins).map (fun d => a.tmps.getD d undef) = eZ ins us := by
      have : (dQ 0 ins).map (fun d => a.tmps.getD d undef) = (dQ 0 ins).map (fun d => a0.tmps.getD d undef) := List.map_congr_left fun d hd => hi.pin d (mem_iff.1 (hpins d hd))
      rw [this]
      exact oY hul fun i u hu => by rw [Nat.zero_add]; exact aget i u hu
     have happ : ∀ {va vb : List (AV E.C)} {ua ub : List Value}, az P E w' S' H ρ (far H) va ua → az P E w' S' H ρ (far H) vb ub → az P E w' S' H ρ (far H) (va ++ vb) (ua ++ ub) := by
      intro va
      induction va with
      | nil => intro vb ua ub h1 h2; unfold az at h1; subst h1; exact h2
      | cons v va ih =>
       intro vb ua ub h1 h2
       unfold az at h1
       obtain ⟨u, us', rfl, h3, h4⟩ := h1
       simp only [List.cons_append]
       unfold az
       exact ⟨u, us' ++ ub, rfl, h3, ih h4 h2⟩
     have hus : az P E w' S' H ρ (far H) ((dQ 0 ins).map (fun i => cX E tm (.tmp i)) ++ vs) (eZ ins us ++ rvs) := by
      refine happ ?_ hav
      rw [← eio]
      have := gI hi.st ((dQ 0 ins).map Operand.tmp)
      rw [List.map_map, List.map_map] at this
      exact this
     obtain ⟨ρ1, pg, hav2⟩ := hpg hnd _ hus
     refine ⟨y, h, _, ρ1, rvs, rfl, pg.hp, hav2, hi.bs.trans pg.bs, fun j n n' hn hn' hrow => ?_⟩
     obtain ⟨d, sh, d1, d2, d3⟩ := jF (ρ0 := ρ0) (d0 := 0) hn
     obtain ⟨sh', e1, e2, e3⟩ := gE hins hsame d2
     rcases e3 with ⟨t, rfl, rfl⟩ | ⟨t, s1, s2, rfl, rfl⟩
     ·have hrw := mr (E := E) (y := y) hn' e1
      have hv0 : ((dQ 0 ins).map (fun i => cX E tm (.tmp i)) ++ vs)[j]? = some (cX E tm (.tmp d)) := by
       rw [List.getElem?_append_left (by simpa using aH d1), List.getElem?_map, d1]; rfl
      have hpl : ∀ v0, cX E tm (.tmp d) = v0 → v0 ≠ .undef → oo ρ (ρ0 n) v0 := by
       intro v0 e hne
       refine hi.plc d _ (d3 t rfl) v0 ?_
       unfold cX at e
       dsimp only at e
       split at e
       ·rename_i v' hv'; rw [hv', e]
       ·exact (hne e.symm).elim
      rcases hro j _ n' hv0 hrw with e | ⟨i, lo, hi', e⟩ | ⟨i, e, hacc⟩
      ·exact (hpl _ e (by simp)).elim
      ·exact (hpl _ e (by simp)).elim
      ·exact (pg.ac n' _ hacc).1.trans (hpl _ e (by simp))
     ·obtain ⟨t', l, fz, ho⟩ := hrow
      obtain ⟨o, o1, x', o2⟩ := kf (E := E) (n0 := 0) (k := n') y (by rw [Nat.zero_add]; exact hn') e1 e2
      rw [ho] at o1
      cases o1
      cases o2
  ·cases h
 exact hbody X a0 rfl rfl hinv aget _ ⟨fun tm H a w' S' ρ h' hi' => hres tm H a w' S' ρ h' hi', fun j tm H a w' S' ρ h' hi' => (nomatch h'), fun tm H a w' S' ρ h' hi' => hres tm H a w' S' ρ h' hi'⟩
theorem ro {A : sY E} {f : FuncId} {fn : Func} {c : Code} {ins outs : List Sh} (hf : P.funcs[f]? = some fn) (hb : fn.body = some c) (hok : si A.pins fn.ntmps ins outs = true) (hl : dX P E A fn.ntmps c 0)
  {R : Type} {fin : ap E.C (bh outs) → Option R} {x : ap E.C (bh ins)} {r : R} (h : uE E F A fn ins outs fin x = some r) {ρ0 : Nat → Option Pl} {us : List Value} (hS : ∀ b, S b → b < w.heap.size)
  (hp : dW E w S (pL E ins x 0).2 ρ0 (far (pL E ins x 0).2)) (hv : az P E w S (pL E ins x 0).2 ρ0 (far (pL E ins x 0).2) (pL E ins x 0).1 us) :
  Calls P f us.toArray w (fun e w' => ∃ y, fin y = some r ∧ uI P E w S (pL E ins x 0).2 ρ0 ins outs us y e w') := by
 refine tM hT hC hf hb hok hS hp hv fun X a0 hX hn hinv _ Q hm => ?_
 unfold uE at h
 rw [pW, ic] at h
 simp only [List.nil_append, List.length_nil] at h
 have hcode : eF fn = c := by unfold eF; rw [hb]
 rw [hcode, ← hn] at h
 rw [← hn] at hinv hl
 exact iG hT hC hF hmix (X := X) (A := A) hX.symm c 0 _ _ _ h hl _ hm a0 w S ρ0 hinv
theorem qA {A : sY E} {f : FuncId} {fn : Func} {c : Code} {sp : lr E.C} (hf : P.funcs[f]? = some fn) (hb : fn.body = some c) (hnm : (fn.name == "runtime.NumGoroutine") = false) (hok : si A.pins fn.ntmps sp.ins sp.outs = true) (hl : dX P E A fn.ntmps c 0)
  (he : ∀ x, zR E F A fn sp.ins sp.outs x = sp.fn x) : fS P E f sp := by
 refine ⟨⟨fn, c, hf, hb, hnm⟩, fun w S ρ0 x us y hS hp hv hy => ?_⟩
 have := ro hT hC hF hmix hf hb hok hl (fin := some) (x := x) (r := y) (by rw [← hy]; exact he x) hS hp hv
 refine this.mono fun e w' hpost => ?_
 obtain ⟨y', h1, h2⟩ := hpost
 obtain rfl := Option.some.inj h1
 exact h2
end
end
end Go.Ev
end
section
namespace Go.Ev
section
variable {P : Program} {E : dD} {w w' : World} {S S' : Nat → Prop} {H H' : List (Ob E.C)} {ρ ρ' : Nat → Option Pl} {Fr Fr' : Nat → Prop} {F : List (Nat × cw E.C)}
def dE (E : dD) : (c : Ty) → ap E.C c → ap E.C (bh (bd c))
 | .pair _ b, y => (y.1, dE E b y.2)
 | .int _, _ => () | .bool, _ => () | .str, _ => () | .slice _, _ => () | .arr _ _, _ => () | .nm _, _ => () | .ptr _, _ => () | .unit, _ => () | .sum _ _, _ => () | .fn _ _, _ => ()
def nD (E : dD) (c : Ty) (y : ap E.C c) : (d : Ty) → ap E.C d → ap E.C (bh (bd d ++ bd c))
 | .pair _ b, x => (x.1, nD E c y b x.2)
 | .int _, _ => dE E c y | .bool, _ => dE E c y | .str, _ => dE E c y | .slice _, _ => dE E c y | .arr _ _, _ => dE E c y | .nm _, _ => dE E c y | .ptr _, _ => dE E c y
 | .unit, _ => dE E c y | .sum _ _, _ => dE E c y | .fn _ _, _ => dE E c y
theorem mE : ∀ {c : Ty} {y : ap E.C c} {us : List Value} {n : Nat}, gv c = true → lq E w S c y us → az P E w S H ρ Fr (pL E (bd c) (dE E c y) n).1 us ∧ (pL E (bd c) (dE E c y) n).2 = []
 | .pair a b, y, us, n, hn, h => by
  obtain ⟨u, us', cs, rfl, h1, h2, h3⟩ := h
  simp only [gv, Bool.and_eq_true] at hn
  have hfn : ∀ d c, a ≠ .fn d c := by rintro d c rfl; simp [gv] at hn
  obtain ⟨g1, g2⟩ := mE (n := n) hn.2 h3
  refine ⟨?_, ?_⟩
  ·show az P E w S H ρ Fr (.pv a y.1 :: (pL E (bd b) (dE E b y.2) n).1) _
   unfold az
   exact ⟨u, us', rfl, (cF hfn).2 ⟨cs, h1, h2⟩, g1⟩
  ·exact g2
 | .unit, y, us, n, _, h => by
  have h : us = [] := h
  subst h
  exact ⟨by show az P E w S H ρ Fr [] []; unfold az; rfl, rfl⟩
 | .int _, _, _, _, _, h => h.elim
 | .bool, _, _, _, _, h => h.elim
 | .str, _, _, _, _, h => h.elim
 | .slice _, _, _, _, _, h => h.elim
 | .arr _ _, _, _, _, _, h => h.elim
 | .nm _, _, _, _, _, h => h.elim
 | .ptr _, _, _, _, _, h => h.elim
 | .sum _ _, _, _, _, _, h => h.elim
 | .fn _ _, _, _, _, _, h => h.elim
theorem ur {c : Ty} {y : ap E.C c} {vs : List Value} (hc : gv c = true) (hy : lq E w S c y vs) : ∀ {d : Ty} {x : ap E.C d} {us : List Value} {n : Nat}, gv d = true → lq E w S d x us →
  az P E w S H ρ Fr (pL E (bd d ++ bd c) (nD E c y d x) n).1 (us ++ vs) ∧ (pL E (bd d ++ bd c) (nD E c y d x) n).2 = []
 | .pair a b, x, us, n, hn, h => by
  obtain ⟨u, us', cs, rfl, h1, h2, h3⟩ := h
  simp only [gv, Bool.and_eq_true] at hn
  have hfn : ∀ d c, a ≠ .fn d c := by rintro d c rfl; simp [gv] at hn
  obtain ⟨g1, g2⟩ := ur hc hy (n := n) hn.2 h3
  refine ⟨?_, ?_⟩
  ·show az P E w S H ρ Fr (.pv a x.1 :: (pL E (bd b ++ bd c) (nD E c y b x.2) n).1) _
   unfold az
   exact ⟨u, us' ++ vs, rfl, (cF hfn).2 ⟨cs, h1, h2⟩, g1⟩
  ·exact g2
 | .unit, x, us, n, _, h => by
  have h : us = [] := h
  subst h
  exact mE hc hy
 | .int _, _, _, _, _, h => h.elim
 | .bool, _, _, _, _, h => h.elim
 | .str, _, _, _, _, h => h.elim
 | .slice _, _, _, _, _, h => h.elim
 | .arr _ _, _, _, _, _, h => h.elim
 | .nm _, _, _, _, _, h => h.elim
 | .ptr _, _, _, _, _, h => h.elim
 | .sum _ _, _, _, _, _, h => h.elim
 | .fn _ _, _, _, _, _, h => h.elim
theorem nz : ∀ (d c : Ty), iX (bd d ++ bd c) = true ∧ (∀ outs, fC (bd d ++ bd c) outs = true) ∧ (∀ k, dQ k (bd d ++ bd c) = []) ∧ ∀ us, eZ (bd d ++ bd c) us = [] := by
 intro d c
 have base : iX (bd c) = true ∧ (∀ outs, fC (bd c) outs = true) ∧ (∀ k, dQ k (bd c) = []) ∧ ∀ us, eZ (bd c) us = [] := by
  induction c with
  | pair a b _ ih =>
   refine ⟨ih.1, fun outs => ih.2.1 outs, fun k => ih.2.2.1 (k + 1), fun us => ?_⟩
   cases us with
   | nil => rfl
   | cons u us => exact ih.2.2.2 us
  | _ => exact ⟨rfl, fun outs => by cases outs <;> rfl, fun k => rfl, fun us => by cases us <;> rfl⟩
 induction d with
 | pair a b _ ih =>
  refine ⟨ih.1, fun outs => ih.2.1 outs, fun k => ih.2.2.1 (k + 1), fun us => ?_⟩
  cases us with
  | nil => rfl
  | cons u us => exact ih.2.2.2 us
 | _ => exact base
theorem sv {E : dD} {w : World} {S : Nat → Prop} {ρ : Nat → Option Pl} : dW E w S ([] : List (Ob E.C)) ρ (far ([] : List (Ob E.C))) :=
 ⟨fun i o h => by simp at h, fun i o q h => by simp at h, fun i j o o' q q' h => by simp at h, fun i o _ h => by simp at h, fun i h => h⟩
section
variable (hT : eP P E) (hC : dp P F) (hF : jq P E F) (hmix : P.follows .mixedOrders = true)
include hT hC hF hmix
theorem xn {A : sY E} {f : FuncId} {fn : Func} {c : Code} {sp : mc E.C} (hf : P.funcs[f]? = some fn) (hb : fn.body = some c) (hnm : (fn.name == "runtime.NumGoroutine") = false) (hnt : Nat.ble (bd sp.d ++ bd sp.caps).length fn.ntmps = true) (hl : dX P E A fn.ntmps c 0)
  (hn1 : gv sp.caps = true) (hn2 : gv sp.d = true) (hn3 : gv sp.c = true)
  (he : ∀ x y, yQ E F A fn (bd sp.d ++ bd sp.caps) sp.c (nD E sp.caps y sp.d x) = sp.fn y x) : nJ P E f sp := by
 refine ⟨⟨fn, c, hf, hb, hnm⟩, hn1, hn2, hn3, fun w S hS y vs hy x us hx z hz => ?_⟩
 obtain ⟨k1, k2, k3, k4⟩ := nz sp.d sp.caps
 obtain ⟨g1, g2⟩ := ur (P := P) (E := E) (w := w) (S := S) (H := []) (ρ := fun _ => none) (Fr := far []) (n := 0) hn1 hy hn2 hx
 have := ro hT hC hF hmix (A := A) (ins := bd sp.d ++ bd sp.caps) (outs := [.hole sp.c]) (w := w) (S := S) (ρ0 := fun _ => none) (us := us ++ vs) hf hb
  (by simp only [si, k1, k2, k3, Bool.and_true, Bool.true_and, List.all_nil]; exact hnt) hl (fin := fun y => some y.1) (x := nD E sp.caps y sp.d x) (r := z) ((he x y).trans hz) hS
  (by rw [g2]; exact sv) (by rw [g2]; exact g1)
 refine this.mono fun e w' hpost => ?_
 obtain ⟨y', e1, S', ρ', rs, rfl, hp, hav, bs, _⟩ := hpost
 have e1 : y'.1 = z := Option.some.inj e1
 rw [k4, List.nil_append] at hav
 have hav : az P E w' S' (pL E [.hole sp.c] y' 0).2 ρ' (far (pL E [.hole sp.c] y' 0).2) [.pv sp.c y'.1] rs := hav
 unfold az at hav
 obtain ⟨u, us', rfl, hu, hus⟩ := hav
 unfold az at hus
 subst hus
 have hfn : ∀ d b, sp.c ≠ .fn d b := by intro d b e; rw [e] at hn3; cases hn3
 obtain ⟨cs, c1, rfl⟩ := (cF hfn).1 hu
 rw [e1] at c1
 rw [g2] at bs
 have hno : ∀ b, ¬ lD ([] : List (Ob E.C)) (fun _ => none) b := by rintro b ⟨i, o, q, h, _⟩; simp at h
 refine ⟨cs, rfl, c1.mono (fun b hb => ?_) (eo.refl _ _), bs.os, bs.tape, bs.output, bs.size, fun b hb => bs.frame b hb (hno b)⟩
 rcases bs.sb b hb with h | h | h
 ·exact .inl h
 ·exact .inr ⟨h, bs.bnd b hb⟩
 ·exact (hno b h).elim
end
end
end Go.Ev
end
section
namespace Go.Ev
def vA (E : dD) (T : TypeId) (t : Ty) : Bool := match E.ty T with | some t' => t'.beq t | none => false
theorem pG {E : dD} {T : TypeId} {t : Ty} (h : vA E T t = true) : E.ty T = some t := by
 unfold vA at h
 split at h
 ·rename_i t' e; rw [e, Ty.eq_of_beq h]
 ·cases h
def mN (E : dD) : List Field → Ty → Nat → Bool
 | [], .unit, _ => true
 | f :: fs, .pair a b, off => Nat.beq f.offset off && vA E f.type a && !(Nat.beq (szT E a) 0) && !(f.name == "_") && mN E fs b (off + szT E a)
 | _, _, _ => false
theorem nR {E : dD} : ∀ {fs : List Field} {t : Ty} {off : Nat}, mN E fs t off = true → dx E fs t off
 | [], t, off, h => by cases t <;> first | (cases h; done) | trivial
 | f :: fs, t, off, h => by
  cases t <;> first | (cases h; done) | skip
  rename_i a b
  simp only [mN, Bool.and_eq_true, Bool.not_eq_true'] at h
  obtain ⟨⟨⟨⟨h1, h2⟩, h3⟩, h4⟩, h5⟩ := h
  exact ⟨Nat.eq_of_beq_eq_true h1, pG h2, fun e => (by rw [e] at h3; cases h3), by simpa using h4, nR h5⟩
def xp (E : dD) : TypeDesc → Ty → Bool
 | .int k, .int k' => Nat.beq (ph k) (ph k')
 | .bool, .bool => true
 | .string, .str => true
 | .slice T, .slice e => vA E T e
 | .array n T, .arr m e => Nat.beq n m && vA E T e
 | .struct fs, .nm n => mN E fs.toList (E.fld n) 0
 | .pointer T, .ptr t => vA E T t
 | _, _ => false
theorem xq {E : dD} {d : TypeDesc} {t : Ty} (h : xp E d t = true) : wM E d t := by
 cases d <;> cases t <;> first | (cases h; done) | skip
 all_goals first
  | exact mG (Nat.eq_of_beq_eq_true h)
  | trivial
  | exact pG h
  | exact nR h
  | (simp only [xp, Bool.and_eq_true] at h; exact ⟨Nat.eq_of_beq_eq_true h.1, pG h.2⟩)
def vB : Value → Value → Bool
 | .int k n, .int k' n' => Nat.beq (ph k) (ph k') && decide (n = n')
 | .bool b, .bool b' => b == b'
 | .string s, .string s' => s.data.toList.isEmpty && s'.data.toList.isEmpty
 | .slice none 0 0, .slice none 0 0 => true
 | _, _ => false
theorem yR {u v : Value} (h : vB u v = true) : u = v := by
 unfold vB at h
 split at h
 ·simp only [Bool.and_eq_true, decide_eq_true_eq] at h
  rw [mG (Nat.eq_of_beq_eq_true h.1), h.2]
 ·simp at h; rw [h]
 ·rename_i s s'
  simp only [Bool.and_eq_true, List.isEmpty_iff] at h
  have e1 : s.data = s'.data := by apply Array.ext'; rw [h.1, h.2]
  have : s = s' := by cases s; cases s'; simp at e1; rw [e1]
  rw [this]
 ·rfl
 ·cases h
def AT : List Value → List Value → Bool
 | [], [] => true
 | u :: us, v :: vs => vB u v && AT us vs
 | _, _ => false
theorem wU : ∀ {us vs : List Value}, AT us vs = true → us = vs
 | [], [], _ => rfl
 | u :: us, v :: vs, h => by
  simp only [AT, Bool.and_eq_true] at h
  rw [yR h.1, wU h.2]
 | [], _ :: _, h => by cases h
 | _ :: _, [], h => by cases h
def xw (agg : Bool) (z : Value) (cs : List Value) : Bool := match agg, z, cs with
 | true, .agg a, cs => AT a.toList cs
 | false, z, [c] => vB z c
 | _, _, _ => false
theorem wO {agg : Bool} {z : Value} {cs : List Value} (h : xw agg z cs = true) : z = eJ agg cs := by
 unfold xw at h
 split at h
 ·have := wU h
  subst this
  simp [eJ]
 ·exact yR h
 ·cases h
def An (P : Program) (E : dD) (T : TypeId) (t : Ty) : Bool := match P.info? T with
 | some i => (match P.underlying T with | some d => xp E d t | none => false) && Nat.beq i.size (szT E t) && Nat.ble i.bytes 2048 &&
  (match zc E 40 t with | none => true | some cs => match i.zero with | some z => xw (bm t) z cs | none => false)
 | none => false
def rd (P : Program) (E : dD) : List (Option Ty) → Nat → Bool
 | [], _ => true
 | none :: r, n => rd P E r (n + 1)
 | some t :: r, n => An P E n t && rd P E r (n + 1)
theorem rA {P : Program} {E : dD} : ∀ {l : List (Option Ty)} {n i : Nat} {t : Ty}, rd P E l n = true → l[i]? = some (some t) → An P E (n + i) t = true
 | [], n, i, t, _, h => by simp at h
 | o :: r, n, i, t, hb, h => by
  cases i with
  | zero =>
   simp at h; subst h
   simp only [rd, Bool.and_eq_true] at hb
   exact hb.1
  | succ i =>
   have hb' : rd P E r (n + 1) = true := by
    cases o <;> simp only [rd, Bool.and_eq_true] at hb <;> first | exact hb | exact hb.2
   have := rA hb' (i := i) (by simpa using h)
   have e : n + 1 + i = n + (i + 1) := by omega
   rw [← e]; exact this
theorem eP.of {P : Program} {E : dD} (hE : iC E) (hb : rd P E E.tid 0 = true) (hq : ∀ T, E.eqs T = true → P.stoodInHeld T = false ∧ P.eqGuardType P.depth T = false) : eP P E := by
 have key : ∀ T t, E.ty T = some t → An P E T t = true := by
  intro T t h
  unfold dD.ty at h
  split at h
  ·rename_i o ho
   subst h
   have := rA hb ho
   rwa [Nat.zero_add] at this
  ·cases h
 refine ⟨hE, fun T t h => ?_, hq, fun T t h => ?_⟩
 ·have := key T t h
  unfold An at this
  split at this
  ·rename_i i hi
   simp only [Bool.and_eq_true] at this
   obtain ⟨⟨⟨h1, _⟩, _⟩, _⟩ := this
   split at h1
   ·rename_i d hd; exact ⟨d, hd, xq h1⟩
   ·cases h1
  ·cases this
 ·have := key T t h
  unfold An at this
  split at this
  ·rename_i i hi
   simp only [Bool.and_eq_true] at this
   obtain ⟨⟨⟨_, h2⟩, h3⟩, h4⟩ := this
   refine ⟨i, hi, Nat.eq_of_beq_eq_true h2, Nat.le_of_ble_eq_true h3, fun cs hcs => ?_⟩
   rw [hcs] at h4
   dsimp only at h4
   split at h4
   ·rename_i z hz; rw [hz, wO h4]
   ·cases h4
  ·cases this
section
variable {P : Program} {E : dD}
theorem kg : jq P E [] := fun f sp h => by cases h
theorem jn : dp P ([] : List (Nat × cw E.C)) := fun f sp h => by cases h
theorem xL {F : List (Nat × cw E.C)} {f : Nat} {sp : lr E.C} (h : fS P E f sp) (k : jq P E F) : jq P E ((f, .f sp) :: F) := by
 intro g s hl
 simp only [oJ] at hl
 cases hb : Nat.beq g f with
 | true =>
  rw [hb] at hl
  obtain rfl := Nat.eq_of_beq_eq_true hb
  obtain rfl := Option.some.inj hl
  exact h
 | false => rw [hb] at hl; exact k g s hl
theorem xK {F : List (Nat × cw E.C)} {f : Nat} {sp : mc E.C} (k : jq P E F) : jq P E ((f, .c sp) :: F) := by
 intro g s hl
 exact k g s hl
theorem xM {F : List (Nat × cw E.C)} {f : Nat} {sp : mc E.C} (h : nJ P E f sp) (k : dp P F) : dp P ((f, .c sp) :: F) := by
 intro g s hl
 simp only [lh] at hl
 cases hb : Nat.beq g f with
 | true =>
  rw [hb] at hl
  obtain rfl := Nat.eq_of_beq_eq_true hb
  obtain rfl := Option.some.inj hl
  exact h
 | false => rw [hb] at hl; exact k g s hl
theorem xV {F : List (Nat × cw E.C)} {f : Nat} {sp : lr E.C} (k : dp P F) : dp P ((f, .f sp) :: F) := by
 intro g s hl
 exact k g s hl
end
def gu : Code → Nat → List (Nat × Code)
 | .seq a b, i => gu a i ++ gu b i
 | .cond _ a b, i => gu a i ++ gu b i
 | .block id c, _ => gu c id
 | .loop c, i => [(i, c)]
 | _, _ => []
theorem iE {P : Program} {E : dD} {A : sY E} {n : Nat} : ∀ {c : Code} {i : Nat}, (∀ b c', (b, c') ∈ gu c i → ∀ p, s7 b A.loops = some p → gq A.pins p.head.at_ p.head.sh = true ∧ lb P E A.pins n c' p) → dX P E A n c i := by
 intro c
 induction c with
 | seq a b ih1 ih2 => intro i h; exact ⟨ih1 fun b' c' hm => h b' c' (by simp [gu, hm]), ih2 fun b' c' hm => h b' c' (by simp [gu, hm])⟩
 | cond c a b ih1 ih2 => intro i h; exact ⟨ih1 fun b' c' hm => h b' c' (by simp [gu, hm]), ih2 fun b' c' hm => h b' c' (by simp [gu, hm])⟩
 | block id c ih => intro i h; exact ih fun b' c' hm => h b' c' hm
 | loop c ih => intro i h; exact fun p hp => h i c (by simp [gu]) p hp
 | _ => intro i h; trivial
end Go.Ev
end
section
namespace Go.Ev
section
variable {P : Program} {E : dD}
def oM (P : Program) (E : dD) (A : sY E) (n : Nat) : List (Nat × Code) → Prop
 | [] => True
 | (b, c) :: r => (∀ p, s7 b A.loops = some p → gq A.pins p.head.at_ p.head.sh = true ∧ lb P E A.pins n c p) ∧ oM P E A n r
theorem dJ {A : sY E} {n i : Nat} {c : Code} {L : List (Nat × Code)} (h : gu c i = L) (ha : oM P E A n L) : dX P E A n c i := by
 refine iE fun b c' hm p hp => ?_
 rw [h] at hm
 clear h
 induction L with
 | nil => simp at hm
 | cons q L ih =>
  obtain ⟨b0, c0⟩ := q
  rcases List.mem_cons.1 hm with e | hm
  ·cases e; exact ha.1 p hp
  ·exact ih ha.2 hm
theorem dB {f : FuncId} {fn : Func} {c : Code} {sp : lr E.C} (hf : P.funcs[f]? = some fn) (hb : fn.body = some c) (hnm : (fn.name == "runtime.NumGoroutine") = false) (h : ∀ x, sp.fn x = none) : fS P E f sp :=
 ⟨⟨fn, c, hf, hb, hnm⟩, fun w S ρ0 x us y _ _ _ hy => by rw [h] at hy; cases hy⟩
theorem ot {f : FuncId} (d c : Ty) {fn : ap E.C (bh (bd d)) → Option (ap E.C (bh [.hole c]))} (h : fS P E f ⟨bd d, [.hole c], fn⟩) (hd : gv d = true) (hc : gv c = true) :
  nJ P E f ⟨.unit, d, c, fun _ x => (fn (dE E d x)).map (·.1)⟩ := by
 refine ⟨h.1, rfl, hd, hc, fun w S hS y vs hy x us hx z hz => ?_⟩
 have hy : vs = [] := hy
 subst hy
 dsimp only at hz
 cases hf : fn (dE E d x) with
 | none => rw [hf] at hz; cases hz
 | some y' =>
  rw [hf] at hz
  have e1 : y'.1 = z := Option.some.inj hz
  obtain ⟨g1, g2⟩ := mE (P := P) (E := E) (w := w) (S := S) (H := []) (ρ := fun _ => none) (Fr := far []) (n := 0) hd hx
  have := h.2 w S (fun _ => none) (dE E d x) us y' hS (by show dW E w S (pL E (bd d) (dE E d x) 0).2 _ (far (pL E (bd d) (dE E d x) 0).2); rw [g2]; exact sv) (by show az P E w S (pL E (bd d) (dE E d x) 0).2 _ (far (pL E (bd d) (dE E d x) 0).2) (pL E (bd d) (dE E d x) 0).1 us; rw [g2]; exact g1) hf
  rw [List.append_nil]
  refine this.mono fun e w' hpost => ?_
  obtain ⟨S', ρ', rs, rfl, hp, hav, bs, _⟩ := hpost
  have k4 : eZ (bd d) us = [] := by
   have := (nz d .unit).2.2.2 us
   have e2 : bd d ++ bd .unit = bd d := by simp [bd]
   rw [e2] at this; exact this
  dsimp only at hav
  rw [k4, List.nil_append] at hav
  have hav : az P E w' S' (pL E [.hole c] y' 0).2 ρ' (far (pL E [.hole c] y' 0).2) [.pv c y'.1] rs := hav
  unfold az at hav
  obtain ⟨u, us', rfl, hu, hus⟩ := hav
  unfold az at hus
  subst hus
  have hfn : ∀ d b, c ≠ .fn d b := by intro d b e; rw [e] at hc; cases hc
  obtain ⟨cs, c1, rfl⟩ := (cF hfn).1 hu
  rw [e1] at c1
  dsimp only at bs
  rw [g2] at bs
  have hno : ∀ b, ¬ lD ([] : List (Ob E.C)) (fun _ => none) b := by rintro b ⟨i, o, q, h, _⟩; simp at h
  refine ⟨cs, rfl, c1.mono (fun b hb => ?_) (eo.refl _ _), bs.os, bs.tape, bs.output, bs.size, fun b hb => bs.frame b hb (hno b)⟩
  rcases bs.sb b hb with h | h | h
  ·exact .inl h
  ·exact .inr ⟨h, bs.bnd b hb⟩
  ·exact (hno b h).elim
end
end Go.Ev
end
section
namespace Go.Ev
def iR {α : Type} (l : List α) : Option (List α × Unit) := cond (bX l.length) (some (l, ())) none
def indexByte (s : ByteArray) (c : Int) : Option (Int × Unit) := some (Lib.indexByte s.data.toList c.toNat.toUInt8, ())
def ins (x : Int) : List Int → List Int
 | [] => [x]
 | y :: r => cond (decide (x ≤ y)) (x :: y :: r) (y :: ins x r)
def cG : List Int → List Int
 | [] => []
 | x :: r => ins x (cG r)
def slices_Sort_int (l : List Int) : Option (List Int × Unit) := cond (bX l.length) (some (cG l, ())) none
end Go.Ev
end
section
namespace Go.Ev
section
variable {P : Program} {E : dD}
theorem jI (hT : eP P E) (hmix : P.follows .mixedOrders = true) {f : FuncId} {fn : Func} {T Y : TypeId} {e : Ty} {i0 i1 : Nat} {ops0 : Array Oper} {o0 o1 : Oper} {c1 c2 c3 : Code} (tm1 : List (ap E.C e) → List (AV E.C))
  (hf : P.funcs[f]? = some fn) (hb : fn.body = some (.seq (.region i0 ops0 false) (.seq (.seq (.region i1 #[o0, o1] false) (.cond (.tmp 4) c1 c2)) c3))) (hnm : (fn.name == "runtime.NumGoroutine") = false) (hn : Nat.ble 5 fn.ntmps = true)
  (hty : E.ty T = some (.slice e)) (h0 : o0.op = .move (.tmp 0) ∧ o0.dst = some 3 ∧ o0.guard = none) (h1 : o1.op = .binOp .eql T (.tmp 3) (.const (.slice none 0 0)) Y ∧ o1.dst = some 4 ∧ o1.guard = none)
  (htm : ∀ l, (tm1 l)[0]? = some (.pv (.slice e) l))
  (e0 : ∀ l : List (ap E.C e), eval E [] ⟨[], [], []⟩ fn.ntmps (.region i0 ops0 false) 0 (⟨fun tm H => some (tm, H), fun _ _ _ => none, fun _ _ => none⟩ : jc E (List (AV E.C) × List (Ob E.C))) (.pv (.slice e) l :: List.replicate (fn.ntmps - 1) .undef) [] = some (tm1 l, []))
  (l1 : dX P E ⟨[], [], []⟩ fn.ntmps (.cond (.tmp 4) c1 c2) 0) (l3 : dX P E ⟨[], [], []⟩ fn.ntmps c3 0)
  (e1 : ∀ (l : List (ap E.C e)) (b : Bool), eval E [] ⟨[], [], []⟩ fn.ntmps (.cond (.tmp 4) c1 c2) 0
   (⟨fun tm H => eval E [] ⟨[], [], []⟩ fn.ntmps c3 0 ⟨my E [] [] fn.results.toList [.rowh e] some, fun _ _ _ => none, my E [] [] fn.results.toList [.rowh e] some⟩ tm H, fun _ _ _ => none, my E [] [] fn.results.toList [.rowh e] some⟩ : jc E (ap E.C (bh [.rowh e])))
   (an (an (tm1 l) 3 (.pv (.slice e) l)) 4 (.pv .bool b)) [] = cond b (some ([], ())) (cond (bX (0 + l.length)) (some (l, ())) none)) :
  fS P E f ⟨[.hole (.slice e)], [.rowh e], fun x => iR x.1⟩ := by
 have hn5 : 5 ≤ fn.ntmps := Nat.le_of_ble_eq_true hn
 refine ⟨⟨fn, _, hf, hb, hnm⟩, fun w S ρ0 x us y hS hp hv hy => ?_⟩
 have hy : iR (show List (ap E.C e) from x.1) = some y := hy
 have key := tM (F := []) (pins := []) hT jn (ins := [.hole (.slice e)]) (outs := [.rowh e]) (fin := some) (x := x) (r := y) hf hb
  (by simp only [si, iX, fC, dQ, List.all_nil, Bool.and_true, Bool.true_and]; exact Nat.ble_eq_true_of_le (by simp; omega)) hS hp hv (fun X a0 hX hXn hinv hus Q hm => ?_)
 ·refine key.mono fun e w' hpost => ?_
  obtain ⟨y', h1, h2⟩ := hpost
  obtain rfl := Option.some.inj h1
  exact h2
 obtain ⟨o0d, o0p, o0t, o0s, o0a, o0g⟩ := o0
 obtain ⟨o1d, o1p, o1t, o1s, o1a, o1g⟩ := o1
 dsimp only at h0 h1
 obtain ⟨rfl, rfl, rfl⟩ := h0
 obtain ⟨rfl, rfl, rfl⟩ := h1
 have hp0 : (⟨[], [], []⟩ : sY E).pins = X.pins := hX.symm
 refine wp_seq ?_
 have hinv : fY P E X a0 w S ([] : List (Ob E.C)) ρ0 (far ([] : List (Ob E.C))) (.pv (.slice e) x.1 :: List.replicate (fn.ntmps - 1) .undef) := hinv
 refine iG hT jn kg hmix (F := []) (A := ⟨[], [], []⟩) hp0 (.region i0 ops0 false) 0
  (⟨fun tm H => some (tm, H), fun _ _ _ => none, fun _ _ => none⟩ : jc E (List (AV E.C) × List (Ob E.C))) _ _ (by rw [hXn]; exact e0 x.1) trivial _ ⟨fun tm' H' a' w' S' ρ' h' hi' => ?_, fun j tm' H' a' w' S' ρ' h' hi' => (by cases h'), fun tm' H' a' w' S' ρ' h' hi' => (by cases h')⟩ a0 w S ρ0 hinv
 obtain ⟨rfl, rfl⟩ : tm' = tm1 x.1 ∧ H' = [] := by
  have := Option.some.inj h'
  exact ⟨congrArg Prod.fst this, congrArg Prod.snd this⟩
 show Code.wp P _ Q a' w'
 refine wp_seq (wp_seq (wp_region ?_))
 have hlen : (tm1 x.1).length = fn.ntmps := by rw [hi'.sz, hXn]
 have hv0 : aF P E w' S' [] ρ' (far []) (.pv (.slice e) x.1) (a'.eval (.tmp 0)) := hi'.st.tmp 0 _ (htm x.1)
 obtain ⟨cs, hcs, hue⟩ := (cF (by intro _ _ h; cases h)).1 hv0
 have hform : ∃ a n c, a'.eval (.tmp 0) = .slice a n c ∧ (a = none → (show List (ap E.C e) from x.1) = []) := by
  rcases hcs.inv_slice with ⟨v, hv, rfl, h⟩ | ⟨b, off, cap, css, rfl, _⟩
  ·obtain ⟨a, rfl⟩ := hv.form
   exact ⟨a, 0, 0, by simpa [eJ, bm] using hue, fun _ => h⟩
  ·exact ⟨_, _, _, by simpa [eJ, bm] using hue, fun h => by cases h⟩
 obtain ⟨ua, un, uc, hu, hnil⟩ := hform
 obtain ⟨D, u1, u2⟩ := hT.und T _ hty
 cases D <;> first | exact u2.elim | skip
 have i1' := hi'.step (dst := some 3) (v := .pv (.slice e) x.1) (u := a'.eval (.tmp 0)) (f7.refl hi'.st.sb) hi'.st.hp hv0 (fun d hd => by rw [hX]; simp)
 have i2' := i1'.step (dst := some 4) (v := .pv .bool ua.isNone) (u := .bool ua.isNone) (f7.refl hi'.st.sb) hi'.st.hp (fI.2 rfl) (fun d hd => by rw [hX]; simp)
 have hsz : 5 ≤ a'.tmps.size := by rw [hi'.st.len, hlen]; exact hn5
 have ev3 : (a'.put (some 3) (a'.eval (.tmp 0))).eval (.tmp 3) = .slice ua un uc := by
  rw [← hu]
  have h3 : 3 < a'.tmps.size := by omega
  simp [Act.eval, Act.put, h3]
 have hop : (execOp (a'.put (some 3) (a'.eval (.tmp 0))).eval ⟨some 4, .binOp .eql T (.tmp 3) (.const (.slice none 0 0)) Y, o1t, o1s, o1a, none⟩).run P w' = .ok (.value (.bool ua.isNone)) w' := by
  have h1 := (oQ (P := P) (w := w') u1 ua none un 0 uc 0 (.inr rfl)).1
  simp only [execOp, Sem.run_bind]
  rw [ev3]
  show ((binOp .eql T (.slice ua un uc) (.slice none 0 0)).run P w').andThen _ = _
  rw [h1]
  simp
 have hrest : (Code.cond (.tmp 4) c1 c2).wp P (Exit.then (c3.wp P Q) Q) ((a'.put (some 3) (a'.eval (.tmp 0))).put (some 4) (.bool ua.isNone)) w' := by
  refine iG hT jn kg hmix (F := []) (A := ⟨[], [], []⟩) hp0 _ 0
   (⟨fun tm H => eval E [] ⟨[], [], []⟩ fn.ntmps c3 0 ⟨my E [] [] fn.results.toList [.rowh e] some, fun _ _ _ => none, my E [] [] fn.results.toList [.rowh e] some⟩ tm H, fun _ _ _ => none, my E [] [] fn.results.toList [.rowh e] some⟩ : jc E (ap E.C (bh [.rowh e]))) _ _
   (r := y) (by
    rw [hXn]
    refine (e1 x.1 ua.isNone).trans ?_
    cases ua with
    | some a => rw [Nat.zero_add]; exact hy
    | none =>
     have := hnil rfl
     have e2 : iR (show List (ap E.C e) from x.1) = some ([], ()) := by rw [this]; rfl
     rw [e2] at hy
     exact hy) (by rw [hXn]; exact l1) (Exit.then (c3.wp P Q) Q) ⟨fun tm2 H2 a2 w2 S2 ρ2 h2 hi2 => ?_, fun j tm2 H2 a2 w2 S2 ρ2 h2 hi2 => (by cases h2), fun tm2 H2 a2 w2 S2 ρ2 h2 hi2 => hm.2.2 tm2 H2 a2 w2 S2 ρ2 h2 hi2⟩ _ w' S' ρ' i2'
  exact iG hT jn kg hmix (F := []) (A := ⟨[], [], []⟩) hp0 c3 0 _ tm2 H2 (by rw [hXn]; exact h2) (by rw [hXn]; exact l3) Q ⟨fun tm3 H3 a3 w3 S3 ρ3 h3 hi3 => hm.1 tm3 H3 a3 w3 S3 ρ3 h3 hi3, fun j tm3 H3 a3 w3 S3 ρ3 h3 hi3 => (by cases h3), fun tm3 H3 a3 w3 S3 ρ3 h3 hi3 => hm.2.2 tm3 H3 a3 w3 S3 ρ3 h3 hi3⟩ a2 w2 S2 ρ2 hi2
 have hop0 : (execOp a'.eval ⟨some 3, .move (.tmp 0), o0t, o0s, o0a, none⟩).run P w' = .ok (.value (a'.eval (.tmp 0))) w' := by simp [execOp]
 show wpOps P _ _ [0, 1] a' w'
 rw [wpOps_cons]
 refine (show Oper.wp P ⟨some 3, .move (.tmp 0), o0t, o0s, o0a, none⟩ a' w' (wpOps P _ _ [1]) _ ∨ _ from .inl ?_)
 unfold Oper.wp
 rw [hop0]
 rw [Oper.upon_value, wpOps_cons]
 refine (show Oper.wp P ⟨some 4, .binOp .eql T (.tmp 3) (.const (.slice none 0 0)) Y, o1t, o1s, o1a, none⟩ (a'.put (some 3) (a'.eval (.tmp 0))) w' (wpOps P _ _ []) _ ∨ _ from .inl ?_)
 unfold Oper.wp
 rw [hop, Oper.upon_value]
 exact hrest
end
end Go.Ev
end
section
namespace Go.Ev
section
variable {P : Program} {E : dD}
theorem n7 {f : FuncId} {fn : Func} {c : Code}
  (hc : ∀ (s : ByteArray) (c : Int) (w : World), Calls P f #[.string s, .int .u8 c] w fun e w' => e = .returned (.int .i64 (Lib.indexByte s.data.toList c.toNat.toUInt8)) ∧ w' = w)
  (hf : P.funcs[f]? = some fn) (hb : fn.body = some c) (hnm : (fn.name == "runtime.NumGoroutine") = false) :
  fS P E f ⟨[.hole .str, .hole (.int .u8)], [.hole (.int .i64)], fun x => indexByte x.1 x.2.1⟩ := by
 refine ⟨⟨fn, c, hf, hb, hnm⟩, fun w S ρ0 x us y hS hp hv hy => ?_⟩
 have hv : az P E w S [] ρ0 (far []) [.pv .str x.1, .pv (.int .u8) x.2.1] us := hv
 unfold az at hv
 obtain ⟨u, us', rfl, h1, hv⟩ := hv
 unfold az at hv
 obtain ⟨u2, us', rfl, h2, hv⟩ := hv
 unfold az at hv
 subst hv
 obtain rfl := iv.1 h1
 obtain rfl := aX.1 h2
 refine (hc _ _ w).mono fun e w' he => ?_
 obtain ⟨rfl, rfl⟩ := he
 have hy : some (Lib.indexByte (ByteArray.data x.1).toList (Int.toNat x.2.1).toUInt8, ()) = some y := hy
 obtain rfl := Option.some.inj hy
 refine ⟨S, ρ0, [.int .i64 _], rfl, hp, ?_, iw.refl hS, fun j n n' h => by simp [bf] at h⟩
 show az P E w' S [] ρ0 (far []) [.pv (.int .i64) (Lib.indexByte (ByteArray.data x.1).toList (Int.toNat x.2.1).toUInt8)] [.int .i64 (Lib.indexByte (ByteArray.data x.1).toList (Int.toNat x.2.1).toUInt8)]
 unfold az
 exact ⟨_, [], rfl, aX.2 rfl, by unfold az; rfl⟩
theorem nS (x : Int) : ∀ l : List Int, (ins x l).Perm (x :: l)
 | [] => .refl _
 | y :: r => by
  unfold ins
  cases decide (x ≤ y) with
  | true => exact .refl _
  | false => exact ((nS x r).cons y).trans (.swap x y r)
theorem gJ : ∀ l : List Int, (cG l).Perm l
 | [] => .refl _
 | x :: r => by unfold cG; exact (nS x _).trans ((gJ r).cons x)
theorem vW (x : Int) : ∀ {l : List Int}, l.Pairwise (· ≤ ·) → (ins x l).Pairwise (· ≤ ·)
 | [], _ => by simp [ins]
 | y :: r, h => by
  unfold ins
  cases hd : decide (x ≤ y) with
  | true =>
   have hd : x ≤ y := by simpa using hd
   exact List.Pairwise.cons (fun z hz => by
    rcases List.mem_cons.1 hz with rfl | hz
    ·exact hd
    ·exact Int.le_trans hd ((List.pairwise_cons.1 h).1 z hz)) h
  | false =>
   have hd : ¬ x ≤ y := by simpa using hd
   refine List.Pairwise.cons (fun z hz => ?_) (vW x (List.pairwise_cons.1 h).2)
   rcases List.mem_cons.1 ((nS x r).mem_iff.1 hz) with rfl | hz
   ·omega
   ·exact (List.pairwise_cons.1 h).1 z hz
theorem lp : ∀ l : List Int, (cG l).Pairwise (· ≤ ·)
 | [] => by simp [cG]
 | x :: r => by unfold cG; exact vW x (lp r)
theorem ri (l : List Int) : cG l = l.mergeSort fun x y => decide (x ≤ y) := by
 refine List.Perm.eq_of_pairwise (le := (· ≤ ·)) (fun a b _ _ h1 h2 => Int.le_antisymm h1 h2) (lp l) ?_ ((gJ l).trans (List.mergeSort_perm l _).symm)
 refine (List.pairwise_mergeSort (le := fun x y => decide (x ≤ y)) (fun a b c h1 h2 => ?_) (fun a b => ?_) l).imp fun h => by simpa using h
 ·simp at h1 h2 ⊢; omega
 ·simp; omega
abbrev lg (E : dD) (l : List Int) : List (Ob E.C) := [.row (.int .i64) (l : List (ap E.C (.int .i64))) false]
theorem vO {f : FuncId} {fn : Func} {c : Code}
  (hc : ∀ (blk off cap : Nat) (zs : List Int) (w : World), Go.Sort.Holds (Value.int .i64) w blk off zs.toArray → blk < w.heap.size → zs.length < 4611686018427387904 →
   Calls P f #[.slice (some ⟨blk, off, none⟩) zs.length cap] w fun e w' => e = .returned (.tuple #[]) ∧ ∃ n os, w' = Go.Sort.grow (Go.Sort.putRow (Value.int .i64) (Go.Sort.ahead w n) blk off (zs.mergeSort fun x y => decide (x ≤ y)).toArray) os)
  (hn : ∀ (p : Option Addr) (cap : Nat) (w : World), Calls P f #[.slice p 0 cap] w fun e w' => e = .returned (.tuple #[]) ∧ w' = w)
  (hf : P.funcs[f]? = some fn) (hb : fn.body = some c) (hnm : (fn.name == "runtime.NumGoroutine") = false) :
  fS P E f ⟨[.rowh (.int .i64)], [.rowh (.int .i64)], fun x => slices_Sort_int x.1⟩ := by
 refine ⟨⟨fn, c, hf, hb, hnm⟩, fun w S ρ0 x us y hS hp hv hy => ?_⟩
 have hl : ∃ l : List Int, (show List Int from x.1) = l := ⟨_, rfl⟩
 obtain ⟨l, hl⟩ := hl
 have hp : dW E w S (lg E (l)) ρ0 (far (lg E (l))) := by rw [← hl]; exact hp
 have hv : az P E w S (lg E (l)) ρ0 (far (lg E (l))) [.row 0] us := by rw [← hl]; exact hv
 have hy : slices_Sort_int l = some y := by rw [← hl]; exact hy
 unfold az at hv
 obtain ⟨u, us', rfl, h1, hv⟩ := hv
 unfold az at hv
 subst hv
 unfold aF at h1
 unfold slices_Sort_int at hy
 cases hfit : bX l.length with
 | false => rw [hfit] at hy; cases hy
 | true =>
 rw [hfit] at hy
 simp only [cond_true] at hy
 obtain rfl := Option.some.inj hy
 have hlen : l.length ≤ 68719476736 := by simpa [bX, zC] using hfit
 have hH0 : (pL E [.rowh (.int .i64)] x 0).2 = (lg E (l)) := by rw [← hl]; rfl
 have hH1 : (pL E [.rowh (.int .i64)] ((cG l, ()) : List Int × Unit) 0).2 = (lg E (cG l)) := rfl
 have hperm := gJ l
 have hsl : (cG l).length = l.length := hperm.length_eq
 have hob := hp.obs 0 _ rfl
 have hrow := h1.2 _ _ _ (rfl : (lg E l)[0]? = _)
 cases hq : ρ0 0 with
 | none =>
  rw [hq] at hrow
  obtain ⟨a, rfl⟩ := ik.form hrow
  have hl0 : l = [] := by
   unfold dw at hob
   rcases hob with ⟨h, _⟩ | ⟨q, _, _, _, h, _⟩
   ·exact h
   ·rw [hq] at h; cases h
  subst hl0
  refine (hn a 0 w).mono fun e w' he => ?_
  obtain ⟨rfl, rfl⟩ := he
  refine ⟨S, ρ0, [], rfl, hp, ?_, (by show iw w' w' S S (lD (pL E [.rowh (.int .i64)] x 0).2 ρ0) (lD (lg E []) ρ0); rw [hH0]; exact iw.refl hS), fun j n n' h h' _ => ?_⟩
  ·show az P E w' S (lg E []) ρ0 _ [.row 0] [.slice a 0 0]
   unfold az
   exact ⟨_, [], rfl, by unfold aF; exact h1, by unfold az; rfl⟩
  ·cases j with
   | zero => simp [bf] at h; simp [dL] at h'; subst h; subst h'; rfl
   | succ j => simp [bf] at h
 | some q =>
  rw [hq] at hrow
  obtain ⟨cap, hu, k1, k2⟩ := hrow
  have e1 : szT E (.int .i64) = 1 := rfl
  rw [e1, Nat.mul_one] at hu
  subst hu
  unfold dw at hob
  rcases hob with ⟨_, h⟩ | ⟨q', cc, T, css, o1, o2, o3, o4, o5, o6, _⟩
  ·rw [hq] at h; cases h
  rw [hq] at o1
  obtain rfl := Option.some.inj o1
  rw [e1, Nat.mul_one] at o4
  have o3' : List.length (α := Int) l ≤ q.cp := o3
  have k1' : List.length (α := Int) l ≤ cap := k1
  have hcell : ∀ (j : Nat) (v : Int), l[j]? = some v → cc[q.p + j]? = some (.int .i64 v) := by
   intro j v hj
   have hr := o5 j v hj
   have he := hr.inv_int
   have := o6 j 0 (.int .i64 v) (aH hj) (by rw [he]; rfl)
   simpa [e1] using this
  have hblk : q.b < w.heap.size := (Array.getElem?_eq_some_iff.1 o2).1
  have hholds : Go.Sort.Holds (Value.int .i64) w q.b q.p l.toArray := by
   intro j hj
   have hj' : j < l.length := by simpa using hj
   refine ⟨?_, ?_⟩
   ·have := hcell j l[j] (List.getElem?_eq_getElem hj')
    simp only [World.cell?, o2]
    rw [this]
    simp [hj']
   ·simp [World.frozen?, o2]
  refine (hc q.b q.p cap l w hholds hblk (by omega)).mono fun e w' he => ?_
  obtain ⟨rfl, n, os, rfl⟩ := he
  rw [← ri]
  generalize hw' : Go.Sort.grow (Go.Sort.putRow (Value.int .i64) (Go.Sort.ahead w n) q.b q.p (cG l).toArray) os = w'
  have hheap : ∀ b, b < w.heap.size → w'.heap[b]? = if b = q.b then some (.cells (Go.Sort.putCells (Value.int .i64) q.p (cG l).toArray cc) T (0, 0)) else w.heap[b]? := by
   intro b hb
   rw [← hw']
   show ((w.heap.modify q.b (Go.Sort.onCells (Go.Sort.putCells (Value.int .i64) q.p (cG l).toArray))) ++ os)[b]? = _
   rw [Array.getElem?_append_left (by simpa using hb), Array.getElem?_modify]
   by_cases e : b = q.b
   ·subst e
    rw [if_pos rfl, if_pos rfl, o2]
    rfl
   ·rw [if_neg (fun h => e h.symm), if_neg e]
  have hsize : w.heap.size ≤ w'.heap.size := by
   rw [← hw']
   show _ ≤ ((w.heap.modify q.b (Go.Sort.onCells (Go.Sort.putCells (Value.int .i64) q.p (cG l).toArray))) ++ os).size
   simp
  have hos : w'.os = w.os ∧ w'.tape = w.tape ∧ w'.output = w.output := by rw [← hw']; exact ⟨rfl, rfl, rfl⟩
  have hout := hp.out 0 _ q rfl rfl hq
  have hcs : ∀ j v, (cG l)[j]? = some v → (Go.Sort.putCells (Value.int .i64) q.p (cG l).toArray cc)[q.p + j]? = some (.int .i64 v) := by
   intro j v hj
   have hj' := aH hj
   have hj2 : j < List.length (α := Int) l := by rw [← hsl]; exact hj'
   have hin : q.p + j < cc.size := by omega
   unfold Go.Sort.putCells
   rw [Array.getElem?_mapIdx, Array.getElem?_eq_getElem hin]
   simp only [Option.map_some]
   rw [if_pos ⟨by omega, by simp; omega⟩]
   have : q.p + j - q.p = j := by omega
   rw [this]
   rw [List.getElem?_eq_getElem hj'] at hj
   have hj := Option.some.inj hj
   simp [hj', hj]
  have hw2 : w'.heap[q.b]? = some (.cells (Go.Sort.putCells (Value.int .i64) q.p (cG l).toArray cc) T (0, 0)) := by rw [hheap q.b hblk, if_pos rfl]
  have hown : ∀ (l' : List Int) (b : Nat), lD (lg E (l')) ρ0 b ↔ b = q.b := by
   intro l' b
   constructor
   ·rintro ⟨i, o, q2, g1, g2, g3, rfl⟩
    cases i with
    | zero => rw [hq] at g3; cases g3; rfl
    | succ i => simp at g1
   ·rintro rfl
    exact ⟨0, _, q, rfl, rfl, hq, rfl⟩
  refine ⟨S, ρ0, [], rfl, ?_, ?_, ?_, fun j n n' h h' _ => ?_⟩
  ·show dW E w' S (lg E (cG l)) ρ0 (far (lg E (cG l)))
   refine ⟨fun i o hi => ?_, fun i o q2 g1 g2 g3 => ?_, fun i j o o' q1 q2 g1 g2 _ _ _ _ _ => ?_, fun i o hf hi => ?_, fun i h => h⟩
   ·cases i with
    | zero =>
     simp at hi; subst hi
     unfold dw
     refine .inr ⟨q, _, T, fun j => [.int .i64 ((cG l)[j]?.getD 0)], hq, hw2, Nat.le_trans (Nat.le_of_eq hsl) o3', ?_, fun j v hj => ?_, fun j k c hj hk => ?_, fun hh => (nomatch hh)⟩
     ·rw [e1, Nat.mul_one]
      unfold Go.Sort.putCells
      rw [Array.size_mapIdx]; exact o4
     ·have : (cG l)[j]?.getD 0 = v := by rw [show (cG l)[j]? = some v from hj]; rfl
      show aE E w' S (.int .i64) v [.int .i64 ((cG l)[j]?.getD 0)]
      rw [this]
      exact .int .i64 v
     ·cases k with
      | succ k => simp at hk
      | zero =>
       simp at hk; subst hk
       have hj' : j < List.length (α := Int) (cG l) := hj
       have := hcs j ((cG l)[j]'hj') (List.getElem?_eq_getElem hj')
       rw [e1, Nat.mul_one, Nat.add_zero, this]
       have e3 : (cG l)[j]?.getD 0 = (cG l)[j]'hj' := by rw [List.getElem?_eq_getElem hj']; rfl
       exact congrArg (fun v => some (Value.int .i64 v)) e3.symm
    | succ i => simp at hi
   ·cases i with
    | zero => rw [hq] at g3; cases g3; exact hout
    | succ i => simp at g1
   ·cases i with
    | zero => cases j with
     | zero => rfl
     | succ j => simp at g2
    | succ i => simp at g1
   ·have := aH hi; unfold far at hf; omega
  ·show az P E w' S (lg E (cG l)) ρ0 (far (lg E (cG l))) [.row 0] [.slice (some (at_ q.b q.p)) l.length cap]
   unfold az
   refine ⟨_, [], rfl, ?_, by unfold az; rfl⟩
   unfold aF
   refine ⟨⟨by unfold far; simp, _, _, _, rfl⟩, fun t' l' fz hh => ?_⟩
   cases hh
   rw [hq]
   refine ⟨cap, ?_, Nat.le_trans (Nat.le_of_eq hsl) k1', k2⟩
   rw [e1, Nat.mul_one]
   exact congrArg (fun n => Value.slice (some (at_ q.b q.p)) n cap) hsl.symm
  ·rw [hH0, hH1]
   refine ⟨hsize, hos.1, hos.2.1, hos.2.2, fun b hb ho => ?_, fun _ h => h, fun b hb => Nat.lt_of_lt_of_le (hS b hb) hsize, fun _ h => .inl h, fun b hb => .inl ((hown l b).2 ((hown (cG l) b).1 hb))⟩
   rw [hheap b hb, if_neg fun e => ho ((hown l b).2 e)]
  ·cases j with
   | zero => simp [bf] at h; simp [dL] at h'; subst h; subst h'; rfl
   | succ j => simp [bf] at h
end
end Go.Ev
end
section
namespace Go.Ev
section
variable {P : Program} {E : dD} {w : World}
inductive iT (E : dD) : (t : Ty) → ap E.C t → Prop
 | int (k : IntKind) (n : Int) (h : k.min ≤ n ∧ n ≤ k.max) : iT E (.int k) n
 | bool (b : Bool) : iT E .bool b
 | str (s : ByteArray) (h : s.size ≤ maxLen) : iT E .str s
 | slice (e : Ty) (l : List (ap E.C e)) (hl : l.length ≤ reachBytes) (h : ∀ (i : Nat) x, l[i]? = some x → iT E e x) : iT E (.slice e) l
 | arr (n : Nat) (e : Ty) (l : List (ap E.C e)) (hn : l.length = n) (h : ∀ (i : Nat) x, l[i]? = some x → iT E e x) : iT E (.arr n e) l
 | nm (n : Nat) (x : E.C n) (h : iT E (E.fld n) (E.proj n x)) : iT E (.nm n) x
 | unit (x : Unit) : iT E .unit x
 | pair (a b : Ty) (p : ap E.C a × ap E.C b) (h : iT E a p.1) (k : iT E b p.2) : iT E (.pair a b) p
theorem jo {α β : Type} {f : α → Option β} : ∀ {l : List α} {r : List β}, l.mapM f = some r → r.length = l.length ∧ ∀ (i : Nat) x, l[i]? = some x → ∃ y, f x = some y ∧ r[i]? = some y
 | [], r, h => by simp at h; subst h; simp
 | a :: l, r, h => by
  simp only [List.mapM_cons] at h
  cases hf : f a with
  | none => rw [hf] at h; cases h
  | some y =>
   rw [hf] at h
   cases hl : l.mapM f with
   | none => rw [hl] at h; cases h
   | some ys =>
    rw [hl] at h
    obtain rfl := Option.some.inj h
    obtain ⟨h1, h2⟩ := jo hl
    refine ⟨by simp [h1], fun i x hi => ?_⟩
    cases i with
    | zero => simp at hi; subst hi; exact ⟨y, hf, rfl⟩
    | succ i => obtain ⟨z, g1, g2⟩ := h2 i x (by simpa using hi); exact ⟨z, g1, by simpa using g2⟩
theorem it (hT : eP P E) {T : TypeId} {t : Ty} (h : E.ty T = some t) : P.cellsOf T = szT E t := by
 obtain ⟨i, h1, h2, _⟩ := hT.inf T t h
 simp [Program.cellsOf, h1, h2]
theorem pick {α : Type} {p : Nat → α → Prop} : ∀ n : Nat, (∀ i, i < n → ∃ x, p i x) → ∃ l : List α, l.length = n ∧ ∀ i x, l[i]? = some x → p i x
 | 0, _ => ⟨[], rfl, by simp⟩
 | n + 1, h => by
  obtain ⟨l, h1, h2⟩ := pick n fun i hi => h i (by omega)
  obtain ⟨x, hx⟩ := h n (by omega)
  refine ⟨l ++ [x], by simp [h1], fun i y hi => ?_⟩
  by_cases hlt : i < l.length
  ·rw [List.getElem?_append_left hlt] at hi; exact h2 i y hi
  ·rw [List.getElem?_append_right (by omega)] at hi
   have : i = n := by have := aH hi; simp at this; omega
   subst this
   rw [h1] at hi
   simp at hi; subst hi; exact hx
section
variable {H : Type} {enc : TypeId × Value → H} {spare : Nat → Bool} {held : Bool}
def kn (E : dD) (R : Ty → Prop) : Prop := ∀ t, R t → match t with
 | .slice e => R e ∧ szT E e ≠ 0
 | .arr _ e => R e
 | .nm n => R (E.fld n)
 | .pair a b => R a ∧ R b
 | .ptr _ => False
 | _ => True
def xG (E : dD) (L : List Nat) : Ty → Bool
 | .int _ | .bool | .str | .unit => true
 | .slice e => xG E L e && !(Nat.beq (szT E e) 0)
 | .arr _ e => xG E L e
 | .nm n => iP.mem n L
 | .pair a b => xG E L a && xG E L b
 | _ => false
theorem tp {L : List Nat} (h : L.all (fun n => xG E L (E.fld n)) = true) : kn E fun t => xG E L t = true := by
 intro t ht
 match t, ht with
 | .int _, _ => trivial
 | .bool, _ => trivial
 | .str, _ => trivial
 | .unit, _ => trivial
 | .slice e, ht =>
  have ht : (xG E L e && !(Nat.beq (szT E e) 0)) = true := ht
  simp only [Bool.and_eq_true, Bool.not_eq_true'] at ht
  exact ⟨ht.1, fun e => by rw [e] at ht; exact absurd ht.2 (by simp)⟩
 | .arr _ e, ht => exact ht
 | .nm n, ht =>
  have ht : iP.mem n L = true := ht
  simp only [List.all_eq_true] at h
  exact h _ (mem_iff.1 ht)
 | .pair a b, ht =>
  have ht : (xG E L a && xG E L b) = true := ht
  simp only [Bool.and_eq_true] at ht
  exact ht
 | .ptr _, ht => cases ht
 | .sum _ _, ht => cases ht
 | .fn _ _, ht => cases ht
abbrev tA (w : World) (b : Nat) : Prop := b < w.heap.size
theorem mB {l m : List Nat} {n : Nat} (h : (l ++ m).all (· ≤ n) = true) : l.all (· ≤ n) = true ∧ m.all (· ≤ n) = true := by
 rw [List.all_append, Bool.and_eq_true] at h; exact h
theorem iJ {P : Program} {T : TypeId} {n : Nat} : ∀ {l : List (DataW H × List MemPlace)} {i : Nat} {p : DataW H × List MemPlace}, (DataW.weightsAll P T (l.map (·.1))).all (· ≤ n) = true → l[i]? = some p → (p.1.weights P T).all (· ≤ n) = true
 | [], i, p, _, h => by simp at h
 | q :: l, i, p, hz, h => by
  have hz : (q.1.weights P T ++ DataW.weightsAll P T (l.map (·.1))).all (· ≤ n) = true := hz
  obtain ⟨z1, z2⟩ := mB hz
  cases i with
  | zero => simp at h; subst h; exact z1
  | succ i => exact iJ z2 (by simpa using h)
theorem nA (hT : eP P E) {R : Ty → Prop} (hR : kn E R) {fuel : Nat} (ih : ∀ (T : TypeId) (t : Ty) (cs : List Value) (d : DataW H) (ps : List MemPlace), E.ty T = some t → R t → DataW.trod enc P w 0 spare held fuel T cs = some (d, ps) → (d.weights P T).all (· ≤ reachBytes) = true → ∃ x, aE E w (tA w) t x cs ∧ iT E t x) :
  ∀ {fs : List Field} {t : Ty} {off : Nat} {cs : List Value} {r : List (DataW H × List MemPlace)}, R t → dx E fs t off → cs.length = off + szT E t → (fs.mapM fun f => DataW.trod enc P w 0 spare held fuel f.type ((cs.drop f.offset).take (P.cellsOf f.type))) = some r → (DataW.weightsEach P (fs.map (·.type)) (r.map (·.1))).all (· ≤ reachBytes) = true →
   ∃ x, aE E w (tA w) t x (cs.drop off) ∧ iT E t x
 | [], t, off, cs, r, _, hf, hl, _, _ => by
  cases t <;> first | exact hf.elim | skip
  refine ⟨(), ?_, .unit ()⟩
  have : cs.drop off = [] := by apply List.drop_eq_nil_of_le; rw [hl]; simp [szT]
  rw [this]
  exact .unit ()
 | f :: fs, t, off, cs, r, hrt, hf, hl, h, hz => by
  cases t <;> first | exact hf.elim | skip
  rename_i a b
  obtain ⟨f1, f2, f3, f4, f5⟩ := hf
  obtain ⟨ra, rb⟩ := hR _ hrt
  simp only [List.mapM_cons] at h
  cases h1 : DataW.trod enc P w 0 spare held fuel f.type ((cs.drop f.offset).take (P.cellsOf f.type)) with
  | none => rw [h1] at h; cases h
  | some p =>
   rw [h1] at h
   cases h2 : fs.mapM fun f => DataW.trod enc P w 0 spare held fuel f.type ((cs.drop f.offset).take (P.cellsOf f.type)) with
   | none => rw [h2] at h; cases h
   | some ps =>
    rw [h2] at h
    obtain rfl : p :: ps = r := by simpa using h
    have hz : (p.1.weights P f.type ++ DataW.weightsEach P (fs.map (·.type)) (ps.map (·.1))).all (· ≤ reachBytes) = true := hz
    obtain ⟨z1, z2⟩ := mB hz
    obtain ⟨x, hx, ix⟩ := ih f.type a _ p.1 p.2 f2 ra h1 z1
    have hl' : cs.length = off + (szT E a + szT E b) := hl
    obtain ⟨y, hy, iy⟩ := nA hT hR ih (off := off + szT E a) rb f5 (by omega) h2 z2
    rw [f1, it hT f2] at hx
    refine ⟨(x, y), ?_, .pair a b (x, y) ix iy⟩
    have e : cs.drop off = (cs.drop off).take (szT E a) ++ cs.drop (off + szT E a) := by
     rw [← List.drop_drop, List.take_append_drop]
    rw [e]
    exact .pair a b (x, y) _ _ hx hy
theorem vG {a : Addr} {n : Nat} {cs : List Value} (h : w.cells? 0 a n = some cs) : cs.length = n ∧ ∀ (i : Nat) c, cs[i]? = some c → w.cell? (a.add i) = some c := by
 unfold World.cells? at h
 rw [if_pos (Nat.zero_le _)] at h
 obtain ⟨h1, h2⟩ := jo h
 refine ⟨by simpa using h1, fun i c hc => ?_⟩
 have hi : i < n := by have := aH hc; simpa [h1] using this
 obtain ⟨y, g1, g2⟩ := h2 i i (by simp [hi])
 rw [hc] at g2
 obtain rfl := Option.some.inj g2
 exact g1
theorem yl {a : Addr} {c : Value} (h : w.cell? a = some c) : a.spot = none ∧ a.block < w.heap.size := by
 unfold World.cell? at h
 split at h
 ·rename_i heq
  refine ⟨?_, (Array.getElem?_eq_some_iff.1 heq).1⟩
  cases hs : a.spot with
  | none => rfl
  | some s => rw [hs] at h; cases h
 ·cases h
theorem wm (hT : eP P E) {R : Ty → Prop} (hR : kn E R) (hB : ∀ T t, E.ty T = some t → szT E t ≠ 0 → 0 < P.bytesOf T) (hsp : ∀ b, spare b = true) : ∀ (fuel : Nat) (T : TypeId) (t : Ty) (cs : List Value) (d : DataW H) (ps : List MemPlace), E.ty T = some t → R t →
  DataW.trod enc P w 0 spare held fuel T cs = some (d, ps) → (d.weights P T).all (· ≤ reachBytes) = true → ∃ x, aE E w (tA w) t x cs ∧ iT E t x := by
 intro fuel
 induction fuel with
 | zero => intro T t cs d ps _ _ h; cases h
 | succ fuel ih =>
  intro T t cs d ps hty hrt h hz
  obtain ⟨D, u1, u2⟩ := hT.und T t hty
  unfold DataW.trod at h
  rw [u1] at h
  split at h
  ·rename_i b heq
   obtain rfl := Option.some.inj heq
   cases t <;> first | exact u2.elim | skip
   exact ⟨b, .bool b, .bool b⟩
  ·rename_i k k' n heq
   obtain rfl := Option.some.inj heq
   cases t <;> first | exact u2.elim | skip
   obtain rfl : k = _ := u2
   split at h
   ·rename_i hc
    obtain ⟨rfl, hw⟩ := hc
    simp only [Lit.wf, Bool.and_eq_true, decide_eq_true_eq] at hw
    exact ⟨n, .int _ n, .int _ n hw⟩
   ·cases h
  ·rename_i heq
   obtain rfl := Option.some.inj heq
   cases t <;> exact u2.elim
  ·rename_i s heq
   obtain rfl := Option.some.inj heq
   cases t <;> first | exact u2.elim | skip
   split at h
   ·rename_i hc
    exact ⟨s, .str s, .str s hc⟩
   ·cases h
  ·rename_i e heq
   obtain rfl := Option.some.inj heq
   cases t <;> first | exact u2.elim | skip
   exact (hR _ hrt).elim
  ·rename_i e a heq
   obtain rfl := Option.some.inj heq
   cases t <;> first | exact u2.elim | skip
   exact (hR _ hrt).elim
  ·rename_i heq
   obtain rfl := Option.some.inj heq
   cases t <;> first | exact u2.elim | skip
   rename_i e
   exact ⟨([] : List (ap E.C e)), .nils e _ ⟨_, rfl⟩, .slice e [] (by simp) (by simp)⟩
  ·rename_i eT a len cap heq
   obtain rfl := Option.some.inj heq
   cases t <;> first | exact u2.elim | skip
   rename_i e
   have u2 : E.ty eT = some e := u2
   have hc := it hT u2
   obtain ⟨hre, hsz⟩ := hR _ hrt
   split at h
   ·rename_i hcond
    obtain ⟨_, hlc, hcm⟩ := hcond
    rw [hc] at h
    dsimp only at h
    cases hel : (List.range len).mapM (fun i => (w.cells? 0 (a.add (i * szT E e)) (szT E e)).bind (DataW.trod enc P w 0 spare held fuel eT)) with
    | none => rw [hel] at h; cases h
    | some elems =>
     rw [hel] at h
     simp only [Option.bind_some] at h
     rw [if_pos (hsp _)] at h
     cases hrs : (List.range (cap - len)).mapM (fun j => (w.cells? 0 (a.add ((len + j) * szT E e)) (szT E e)).bind (DataW.trod enc P w 0 spare held fuel eT)) with
     | none => rw [hrs] at h; cases h
     | some rest =>
      obtain ⟨e1, e2⟩ := jo hel
      obtain ⟨r1, r2⟩ := jo hrs
      have hd : d = .slice (elems.map (·.1)) (rest.map (·.1)) := by
       rw [hrs] at h; simp only [Option.map_some, Option.some.injEq, Prod.mk.injEq] at h; exact h.1.symm
      subst hd
      unfold DataW.weights at hz
      rw [u1] at hz
      dsimp only at hz
      rw [List.all_cons, Bool.and_eq_true] at hz
      obtain ⟨hz0, hz⟩ := hz
      obtain ⟨hzE, hzR⟩ := mB hz
      have hlr : len ≤ reachBytes := by
       have h1 := of_decide_eq_true hz0
       have h2 := hB eT e u2 hsz
       rw [List.length_map, List.length_map, e1, List.length_range] at h1
       exact Nat.le_trans (Nat.le_trans (Nat.le_add_right _ _) (Nat.le_mul_of_pos_right _ h2)) h1
      have elem : ∀ (i : Nat) (p : DataW H × List MemPlace), ((w.cells? 0 (a.add (i * szT E e)) (szT E e)).bind (DataW.trod enc P w 0 spare held fuel eT)) = some p → (p.1.weights P eT).all (· ≤ reachBytes) = true → ∃ (cs : List Value) (x : ap E.C e), aE E w (tA w) e x cs ∧ iT E e x ∧ cs.length = szT E e ∧
        ∀ (j : Nat) c, cs[j]? = some c → w.cell? ((a.add (i * szT E e)).add j) = some c := by
       intro i p hp hzp
       cases hcs : w.cells? 0 (a.add (i * szT E e)) (szT E e) with
       | none => rw [hcs] at hp; cases hp
       | some cs =>
        rw [hcs] at hp
        obtain ⟨x, hx, ix⟩ := ih eT e cs p.1 p.2 u2 hre hp hzp
        obtain ⟨g1, g2⟩ := vG hcs
        exact ⟨cs, x, hx, ix, g1, g2⟩
      have place : ∀ (i : Nat) (p : DataW H × List MemPlace), ((w.cells? 0 (a.add (i * szT E e)) (szT E e)).bind (DataW.trod enc P w 0 spare held fuel eT)) = some p → (p.1.weights P eT).all (· ≤ reachBytes) = true → a.block < w.heap.size ∧ (i = 0 → a.spot = none) := by
       intro i p hp hzp
       obtain ⟨cs, x, _, _, g1, g2⟩ := elem i p hp hzp
       have h0 : 0 < cs.length := by rw [g1]; omega
       have := yl (g2 0 cs[0] (List.getElem?_eq_getElem h0))
       have add0 : ∀ b : Addr, b.add 0 = b := fun b => by simp [Addr.add]
       rw [add0] at this
       have hb : (a.add (i * szT E e)).block = a.block := by unfold Addr.add; split <;> rfl
       rw [hb] at this
       exact ⟨this.2, fun hi => by subst hi; rw [Nat.zero_mul, add0] at this; exact this.1⟩
      by_cases hcap : cap = 0
      ·subst hcap
       obtain rfl : len = 0 := by omega
       exact ⟨([] : List (ap E.C e)), .nils e _ ⟨_, rfl⟩, .slice e [] (by simp) (by simp)⟩
      ·have first : a.block < w.heap.size ∧ a.spot = none := by
        by_cases hl0 : len = 0
        ·subst hl0
         obtain ⟨y, y1, y2⟩ := r2 0 0 (List.getElem?_range (by omega))
         rw [Nat.add_zero] at y1
         have := place 0 y y1 (iJ hzR y2)
         exact ⟨this.1, this.2 rfl⟩
        ·obtain ⟨y, y1, y2⟩ := e2 0 0 (List.getElem?_range (by omega))
         have := place 0 y y1 (iJ hzE y2)
         exact ⟨this.1, this.2 rfl⟩
       obtain ⟨ab, ao, asp⟩ := a
       obtain ⟨hab, rfl⟩ : ab < w.heap.size ∧ asp = none := first
       have ex : ∀ i, i < len → ∃ q : ap E.C e × List Value, aE E w (tA w) e q.1 q.2 ∧ iT E e q.1 ∧ ∀ (j : Nat) c, q.2[j]? = some c → w.cell? (at_ ab (ao + i * szT E e + j)) = some c := by
        intro i hi
        obtain ⟨y, y1, y2⟩ := e2 i i (by simp [hi])
        obtain ⟨cs, x, g1, g2, g3, g4⟩ := elem i y y1 (iJ hzE y2)
        refine ⟨(x, cs), g1, g2, fun j c hj => ?_⟩
        have := g4 j c hj
        have e3 : (Addr.add ⟨ab, ao, none⟩ (i * szT E e)).add j = at_ ab (ao + i * szT E e + j) := by
         show ((at_ ab ao).add (i * szT E e)).add j = _
         rw [jJ, jJ]
        rw [e3] at this
        exact this
       obtain ⟨l, l1, l2⟩ := pick (p := fun i (q : ap E.C e × List Value) => aE E w (tA w) e q.1 q.2 ∧ iT E e q.1 ∧ ∀ (j : Nat) c, q.2[j]? = some c → w.cell? (at_ ab (ao + i * szT E e + j)) = some c) len ex
       have hll : (l.map (·.1)).length = len := by simp [l1]
       refine ⟨(l.map (·.1) : List (ap E.C e)), ?_, .slice e _ (by rw [List.length_map, l1]; exact hlr) fun i x hx => ?_⟩
       ·have := aE.slice (E := E) (w := w) (S := tA w) e (l.map (·.1)) ab ao cap (fun i => match l[i]? with | some q => q.2 | none => []) hab (by rw [hll]; exact hlc) (fun i x hx => by
         rw [List.getElem?_map] at hx
         cases hq : l[i]? with
         | none => rw [hq] at hx; cases hx
         | some q =>
          rw [hq] at hx
          obtain rfl := Option.some.inj hx
          exact (l2 i q hq).1) (fun i j c hi hj => by
         rw [hll] at hi
         have hq : l[i]? = some l[i] := List.getElem?_eq_getElem (by omega)
         rw [hq] at hj
         exact (l2 i _ hq).2.2 j c hj)
        rw [hll] at this
        exact this
       ·rw [List.getElem?_map] at hx
        cases hq : l[i]? with
        | none => rw [hq] at hx; cases hx
        | some q =>
         rw [hq] at hx
         obtain rfl := Option.some.inj hx
         exact (l2 i q hq).2.1
   ·cases h
  ·rename_i cs xx csX fs heq
   obtain rfl := Option.some.inj heq
   cases t <;> first | exact u2.elim | skip
   rename_i n
   have u2 : dx E fs.toList (E.fld n) 0 := u2
   have hc := it hT hty
   split at h
   ·rename_i hlen
    rw [hc] at hlen
    cases hm : fs.toList.mapM (fun f => DataW.trod enc P w 0 spare held fuel f.type ((cs.drop f.offset).take (P.cellsOf f.type))) with
    | none => rw [hm] at h; cases h
    | some r =>
     rw [hm] at h
     have hd : d = .agg (r.map (·.1)) := by simp only [Option.map_some, Option.some.injEq, Prod.mk.injEq] at h; exact h.1.symm
     subst hd
     unfold DataW.weights at hz
     rw [u1] at hz
     obtain ⟨x, hx, ix⟩ := nA hT hR ih (hR _ hrt) u2 (by rw [hlen, Nat.zero_add]; exact hT.env.siz n) hm hz
     rw [List.drop_zero] at hx
     refine ⟨E.new n x, .nm n _ _ ?_, .nm n _ ?_⟩
     ·rw [hT.env.new]; exact hx
     ·rw [hT.env.new]; exact ix
   ·cases h
  ·rename_i cs xx csX n eT heq
   obtain rfl := Option.some.inj heq
   cases t <;> first | exact u2.elim | skip
   rename_i m e
   obtain ⟨rfl, u2⟩ : n = m ∧ E.ty eT = some e := u2
   have hc := it hT hty
   have hce := it hT u2
   split at h
   ·rename_i hlen
    rw [hc] at hlen
    have hlen : cs.length = n * szT E e := hlen
    rw [hce] at h
    cases hm : (List.range n).mapM (fun i => DataW.trod enc P w 0 spare held fuel eT ((cs.drop (i * szT E e)).take (szT E e))) with
    | none => rw [hm] at h; cases h
    | some r =>
     obtain ⟨e1, e2⟩ := jo hm
     rw [hm] at h
     have hd : d = .agg (r.map (·.1)) := by simp only [Option.map_some, Option.some.injEq, Prod.mk.injEq] at h; exact h.1.symm
     subst hd
     unfold DataW.weights at hz
     rw [u1] at hz
     obtain ⟨l, l1, l2⟩ := pick (p := fun i (x : ap E.C e) => aE E w (tA w) e x ((cs.drop (i * szT E e)).take (szT E e)) ∧ iT E e x) n fun i hi => by
      obtain ⟨y, y1, y2⟩ := e2 i i (by simp [hi])
      exact ih eT e _ y.1 y.2 u2 (hR _ hrt) y1 (iJ hz y2)
     refine ⟨l, ?_, .arr n e l l1 fun i x hx => (l2 i x hx).2⟩
     have ecs : cs = (List.range n).flatMap fun i => (cs.drop (i * szT E e)).take (szT E e) := by
      clear h hz hm e1 e2 l1 l2 hty hc u1
      have key : ∀ m, m ≤ n → (List.range m).flatMap (fun i => (cs.drop (i * szT E e)).take (szT E e)) = cs.take (m * szT E e) := by
       intro m
       induction m with
       | zero => intro _; simp
       | succ m ihm =>
        intro hm
        rw [List.range_succ, List.flatMap_append, ihm (by omega)]
        simp only [List.flatMap_cons, List.flatMap_nil, List.append_nil]
        rw [Nat.succ_mul, List.take_add]
      rw [key n (Nat.le_refl n), ← hlen, List.take_length]
     have := aE.arr (E := E) (w := w) (S := tA w) n e l (fun i => (cs.drop (i * szT E e)).take (szT E e)) l1 fun i x hx => (l2 i x hx).1
     rw [← ecs] at this
     exact this
   ·cases h
  all_goals first
   | (cases h; done)
   | (rename_i heq; obtain rfl := Option.some.inj heq; cases t <;> exact u2.elim)
end
end
end Go.Ev
end
section
namespace Go.Ev
open Go.ChangeShapes Go.WideShapes Go.RowKit
section
variable {P : Program} {E : dD}
def prodT : List Ty → Ty
 | [] => .unit
 | t :: ts => .pair t (prodT ts)
theorem rt (hT : eP P E) {w : World} {r : Reach} {base : Nat} {T : TypeId} {t : Ty} {v : Value} (hty : E.ty T = some t) (hnp : ∀ s, t ≠ .ptr s) (h : Value.okWide P w r base T v) : v = eJ (bm t) v.cells.toList := by
 obtain ⟨D, u1, u2⟩ := hT.und T t hty
 unfold Value.okWide at h
 rw [u1] at h
 cases t <;> cases D <;> first | exact u2.elim | skip
 case ptr.pointer => exact (hnp _ rfl).elim
 case nm.struct => obtain ⟨cs, rfl, _⟩ := h; simp [eJ, bm, Value.cells]
 case arr.array => obtain ⟨cs, rfl, _⟩ := h; simp [eJ, bm, Value.cells]
 all_goals
  dsimp only at h
  unfold Cell.okWide at h
  rw [u1] at h
  cases v <;> first | rfl | exact h.elim | (dsimp only at h; unfold Cell.ok at h; rw [u1] at h; exact h.elim)
def qd (P : Program) (E : dD) : Bool := (List.range E.tid.length).all fun T => match E.ty T with | none => true | some t => Nat.beq (szT E t) 0 || Nat.blt 0 (P.bytesOf T)
theorem wF (h : qd P E = true) (T : TypeId) (t : Ty) (ht : E.ty T = some t) (h0 : szT E t ≠ 0) : 0 < P.bytesOf T := by
 have hlt : T < E.tid.length := by
  unfold dD.ty at ht
  cases hx : E.tid[T]? with
  | none => rw [hx] at ht; cases ht
  | some o => exact (List.getElem?_eq_some_iff.1 hx).1
 have := List.all_eq_true.1 h T (List.mem_range.2 hlt)
 rw [ht] at this
 rcases Bool.or_eq_true_iff.1 this with h1 | h1
 ·exact absurd (Nat.eq_of_beq_eq_true h1) h0
 ·exact Nat.le_of_ble_eq_true h1
theorem rq (hT : eP P E) (hBy : qd P E = true) {R : Ty → Prop} (hR : kn E R) {H : Type} {enc : TypeId × Value → H} {W : World} {base : Nat} :
  ∀ {Ts : List TypeId} {ts : List Ty} {vs : List Value} {ds : List (DataW H)} {ps : List MemPlace}, DataW.TrodAll enc P W 0 (fun _ => true) true Ts vs ds ps → Ts.map (E.ty ·) = ts.map some → (∀ t, t ∈ ts → R t) → (DataW.weightsEach P Ts ds).all (· ≤ reachBytes) = true →
   (∀ (j : Nat) T v, Ts[j]? = some T → vs[j]? = some v → Value.okWide P W .any base T v) → ∃ x : ap E.C (prodT ts), lq E W (tA W) (prodT ts) x vs ∧ iT E (prodT ts) x
 | [], ts, vs, ds, ps, h, ht, _, _, _ => by
  obtain ⟨rfl, rfl, rfl⟩ := trodAll_nil h
  cases ts with
  | nil => exact ⟨(), rfl, .unit ()⟩
  | cons => simp at ht
 | T :: Ts, ts, vs, ds, ps, h, ht, hr, hz, hv => by
  obtain ⟨v, vs, d, ds, p, q, rfl, rfl, rfl, h1, h2⟩ := trodAll_cons h
  cases ts with
  | nil => simp at ht
  | cons t ts =>
   simp only [List.map_cons, List.cons.injEq] at ht
   have hz : (d.weights P T ++ DataW.weightsEach P Ts ds).all (· ≤ reachBytes) = true := hz
   obtain ⟨z1, z2⟩ := mB hz
   obtain ⟨y, r1, i1⟩ := rq hT hBy hR h2 ht.2 (fun t h => hr t (by simp [h])) z2 fun j T v hT hv' => hv (j + 1) T v (by simpa using hT) (by simpa using hv')
   obtain ⟨fuel, h1⟩ := h1
   obtain ⟨x, r2, i2⟩ := wm hT hR (wF hBy) (fun _ => rfl) fuel T t _ d p ht.1 (hr t (by simp)) h1 z1
   have hf := rt hT ht.1 (fun s e => by subst e; exact hR _ (hr (.ptr s) (by simp))) (hv 0 T v rfl rfl)
   exact ⟨(x, y), ⟨v, vs, _, rfl, r2, hf, r1⟩, .pair t (prodT ts) (x, y) i2 i1⟩
theorem vg (hT : eP P E) {f : FuncId} {D : Ty} {fn : Nat → ap E.C (bh (bd D)) → Option (ap E.C (bh [.hole .bool]))} (hg : ∀ k, fS P E f ⟨bd D, [.hole .bool], fn k⟩) (hD : gv D = true)
  (law : ∀ x, iT E D x → ∃ k, fn k (dE E D x) = some (true, ())) {W : World} {x : ap E.C D} {vs : List Value} (hr : lq E W (tA W) D x vs) (hi : iT E D x) :
  Calls P f vs.toArray W fun e W' => e = .returned (.bool true) ∧ Below W.heap.size W W' := by
 obtain ⟨g1, g2⟩ := mE (P := P) (E := E) (w := W) (S := tA W) (H := []) (ρ := fun _ => none) (Fr := far []) (n := 0) hD hr
 obtain ⟨k, hk⟩ := law x hi
 have := (hg k).2 W (tA W) (fun _ => none) (dE E D x) vs (true, ()) (fun _ h => h) (by show dW E W (tA W) (pL E (bd D) (dE E D x) 0).2 _ (far (pL E (bd D) (dE E D x) 0).2); rw [g2]; exact sv)
  (by show az P E W (tA W) (pL E (bd D) (dE E D x) 0).2 _ (far (pL E (bd D) (dE E D x) 0).2) (pL E (bd D) (dE E D x) 0).1 vs; rw [g2]; exact g1) hk
 refine this.mono fun e w' hpost => ?_
 obtain ⟨S', ρ', rs, rfl, hp, hav, bs, _⟩ := hpost
 have k4 : eZ (bd D) vs = [] := by
  have := (nz D .unit).2.2.2 vs
  have e2 : bd D ++ bd .unit = bd D := by simp [bd]
  rw [e2] at this; exact this
 dsimp only at hav
 rw [k4, List.nil_append] at hav
 have hav : az P E w' S' (pL E [.hole .bool] ((true, ()) : Bool × Unit) 0).2 ρ' (far (pL E [.hole .bool] ((true, ()) : Bool × Unit) 0).2) [.pv .bool true] rs := hav
 unfold az at hav
 obtain ⟨u, us', rfl, hu, hus⟩ := hav
 unfold az at hus
 subst hus
 have hu := fI.1 hu
 subst hu
 dsimp only at bs
 rw [g2] at bs
 have hno : ∀ b, ¬ lD ([] : List (Ob E.C)) (fun _ => none) b := by rintro b ⟨i, o, q, h, _⟩; simp at h
 exact ⟨rfl, bs.os, bs.tape, bs.output, bs.size, fun b hb => bs.frame b hb (hno b)⟩
section
variable {H : Type} {enc : TypeId × Value → H}
theorem ky (hl : laidOutB P = true) {W W' : World} {sp : Nat → Bool} (hb : Below W.heap.size W W') : ∀ {Ts : List TypeId} {vs : List Value} {ds : List (DataW H)} {ps : List MemPlace}, (∀ T, T ∈ Ts → P.readableRec T = true ∧ T < P.types.size) →
  DataW.TrodAll enc P W 0 (fun _ => true) true Ts vs ds ps → (∀ x ∈ ps, x.block < W.heap.size) → (∀ x ∈ ps, sp x.block = true) → DataW.TrodAll enc P W' 0 sp true Ts vs ds ps
 | [], vs, ds, ps, _, h, _, _ => by
  obtain ⟨rfl, rfl, rfl⟩ := trodAll_nil h
  rfl
 | T :: Ts, vs, ds, ps, ht, h, hlt, hsp => by
  obtain ⟨v, vs, d, ds, p, q, rfl, rfl, rfl, h1, h2⟩ := trodAll_cons h
  obtain ⟨r1, r2⟩ := ht T (by simp)
  exact ⟨p, q, WideElems.Trod_stays hl r1 r2 h1 (fun x hx => hb.same (hlt x (by simp [hx]))) (fun x hx => hsp x (by simp [hx])), ky hl hb (fun T hT => ht T (by simp [hT])) h2 (fun x hx => hlt x (by simp [hx])) (fun x hx => hsp x (by simp [hx])), rfl⟩
theorem nX {f : Func} {s : ChangeSpec} {apart fresh handsOn again : Bool} {W W' : World} {args : Array Value} {v : Value} {ds gs : List (DataW H)} {before pa pv : List MemPlace}
  (hW : DataW.Whole enc P f.params.toList s.vars apart W args.toList ds gs before) (hb : Below W.heap.size W W')
  (hres : ∀ (b : Nat) (sp : Nat → Bool) (hd : Bool), DataW.TrodAll enc P W' b sp hd f.resultTypes.toList (v.resultList f.resultTypes.size) (s.fn H (ds ++ gs)).results [])
  (hargs : ∀ sp : Nat → Bool, (∀ p ∈ before, sp p.block = true) → DataW.TrodAll enc P W' 0 sp true f.params.toList args.toList (s.fn H (ds ++ gs)).args pa)
  (hvars : ∀ sp : Nat → Bool, (∀ p ∈ before, sp p.block = true) → DataW.TrodVars enc P W' sp s.vars (s.fn H (ds ++ gs)).vars pv)
  (hps : before = pa ++ pv)
  (hok : ∀ (j : Nat) (t : TypeId) (r : Value), f.resultTypes[j]? = some t → (v.resultList f.resultTypes.size)[j]? = some r → Value.okWide P W' .any 0 t r) :
  s.post enc P f apart fresh handsOn again W args v W' := by
 have hold : ∀ p ∈ before, (fun b => decide (b < W.heap.size)) p.block = true := fun p hp => by simpa using hW.lt p hp
 have hlt := hW.lt
 refine ⟨ds, gs, before, [], pa, pv, hW, hres _ _ _, hargs _ hold, hvars _ hold, World.keptBut_mono (fun p hp => ⟨hp, ?_⟩) (hb.frame (· ∈ before)), fun _ => ?_⟩
 ·rw [hps, List.mem_append] at hp
  exact Or.inr hp
 ·obtain ⟨_, _, _, _, _, hz, hn⟩ := hW
  refine ⟨hok, _, _, ([] ++ pa) ++ pv, ⟨[] ++ pa, pv, trodAll_append (hargs _ (fun _ _ => rfl)) (hres _ _ _), hvars _ (fun _ _ => rfl), rfl, ?_, ?_⟩, ?_⟩
  ·intro b off hp
   have hp' : MemPlace.cell b off ∈ before := by rw [hps]; simpa using hp
   rw [hb.frozen (p := ⟨b, off, none⟩) (hlt _ hp')]
   exact hz b off hp'
  ·intro ha
   have := hn ha
   rw [hps] at this
   simpa using this
  ·intro p hp _
   rw [hps]
   simpa using hp
end
theorem qu {C : Checked} {H : Type} {enc : TypeId × Value → H} (hl : laidOutB C.prog = true) (hT : eP C.prog E) (hBy : qd C.prog E = true) {R : Ty → Prop} (hR : kn E R)
  {f : FuncId} {fn : Func} {s : ChangeSpec} {conds : List PathCond} {apart fresh handsOn again : Bool} {a : Assume} {Ts : List TypeId} {ts : List Ty} {B : TypeId} (hpar : fn.params.toList = Ts) (hres : fn.resultTypes = #[B]) (hB : C.prog.underlying B = some .bool)
  (htys : Ts.map (E.ty ·) = ts.map some) (hrt : ∀ t, t ∈ ts → R t) (hread : ∀ T, T ∈ Ts → C.prog.readableRec T = true ∧ T < C.prog.types.size) (hvars : s.vars = []) (hvt : s.plain.varTypes C.prog = [])
  (hs : ∀ ds : List (DataW H), ds.length = Ts.length → s.fn H ds = { results := [.lit (.bool true)], args := ds })
  {fv : Nat → ap E.C (bh (bd (prodT ts))) → Option (ap E.C (bh [.hole .bool]))} (hg : ∀ k, fS C.prog E f ⟨bd (prodT ts), [.hole .bool], fv k⟩) (hD : gv (prodT ts) = true)
  (law : ∀ x, iT E (prodT ts) x → ∃ k, fv k (dE E (prodT ts) x) = some (true, ())) :
  ∀ (W : World) (base : Nat) (args : Array Value) (ds gs : List (DataW H)) (before : List MemPlace),
   (∀ (j : Nat) t v, fn.params[j]? = some t → args[j]? = some v → Value.okWide C.prog W .any base t v) →
   DataW.Whole enc C.prog fn.params.toList s.vars apart W args.toList ds gs before →
   conds.all (PathCond.test C.prog ⟨fn.params.toList, ds, s.plain.varTypes C.prog, gs⟩) = true →
   (DataW.weightsEach C.prog (fn.params.toList ++ s.plain.varTypes C.prog) (ds ++ gs)).all (· ≤ reachBytes) = true →
   a.holds C.prog (lone (Frame.enter C.prog f args .normal) [] W) →
   Calls C.prog f args W fun e W' => ∃ v, e = .returned v ∧ s.post enc C.prog fn apart fresh handsOn again W args v W' := by
 intro W base args ds gs before hval hW _ hz _
 have hW' := hW
 obtain ⟨p, q, hA, hV, rfl, hfz, hnd⟩ := hW
 rw [hvars] at hV
 obtain ⟨rfl, rfl⟩ := trodVars_none hV
 have hvt : s.plain.varTypes C.prog = [] := hvt
 rw [hvt, hpar, List.append_nil, List.append_nil] at hz
 rw [hpar] at hA
 obtain ⟨x, r1, i1⟩ := rq (base := base) hT hBy hR hA htys hrt hz fun j T v hj hv => hval j T v (by
  have : fn.params.toList[j]? = some T := by rw [hpar]; exact hj
  simpa using this) (by simpa using hv)
 have hlen : ds.length = Ts.length := by
  clear hval hW' hV hfz hnd r1 i1 htys hrt hread hs hpar
  have key : ∀ {Ts : List TypeId} {vs : List Value} {ds : List (DataW H)} {ps : List MemPlace}, DataW.TrodAll enc C.prog W 0 (fun _ => true) true Ts vs ds ps → ds.length = Ts.length := by
   intro Ts
   induction Ts with
   | nil => intro vs ds ps h; obtain ⟨_, rfl, _⟩ := trodAll_nil h; rfl
   | cons T Ts ih =>
    intro vs ds ps h
    obtain ⟨v, vs, d, ds, p, q, rfl, rfl, rfl, _, h2⟩ := trodAll_cons h
    simp [ih h2]
  exact key hA
 have hcall := vg hT hg hD law r1 i1
 have ea : args.toList.toArray = args := by simp
 rw [ea] at hcall
 refine hcall.mono fun e W' he => ?_
 obtain ⟨rfl, hb⟩ := he
 refine ⟨_, rfl, nX (pa := p) (pv := []) hW' hb (fun b sp hd => ?_) (fun sp hsp => ?_) (fun sp hsp => ?_) (by simp) ?_⟩
 ·rw [hres, List.append_nil, hs ds hlen]
  refine trodAll_mk1 ⟨1, ?_⟩
  show DataW.trod enc C.prog W' b sp hd 1 B [.bool true] = _
  unfold DataW.trod
  rw [hB]
 ·rw [List.append_nil, hs ds hlen, hpar]
  exact ky hl hb hread hA (fun y hy => hW'.lt y (by simpa using hy)) (fun y hy => hsp y (by simpa using hy))
 ·rw [hvars, List.append_nil, hs ds hlen]
  rfl
 ·exact ok_one hres rfl (okWide_bool_mk hB true)
end
end Go.Ev
end
