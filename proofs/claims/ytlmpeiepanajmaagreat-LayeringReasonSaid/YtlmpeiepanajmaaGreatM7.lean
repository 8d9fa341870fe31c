import Derived.Test.YtlmpeiepanajmaaGreatM6
set_option linter.all false
section
set_option linter.unusedVariables false
namespace Go.Ev.Pl
structure B5 (all : List ae) (P : Nat) (z : Int) (f : List Int) : Prop where
 l : f.length = P
 h : ∀ p : Int, 0 ≤ p → p < P → (aA f p = -1 ∧ ∀ n, fT all n p z = false) ∨ ∃ n : Nat, aA f p = n ∧ fT all n p z = true ∧ ∀ m, m < n → fT all m p z = false
 b : ∀ p : Int, 0 ≤ p → p < P → aA f p ≤ P
def neg (f : List Int) : Nat := f.countP fun x => decide (x < 0)
structure BF (all : List ae) (P : Nat) (z : Int) (f q : List Int) : Prop where
 l : f.length = P
 z0 : aA f z = 0
 zr : 0 ≤ z ∧ z < P
 qr : ∀ p ∈ q, 0 ≤ p ∧ p < P ∧ 0 ≤ aA f p
 so : q.Pairwise fun a b => aA f a ≤ aA f b
 hd : ∀ a r, q = a :: r → ∀ p : Int, 0 ≤ p → p < P → aA f p ≤ aA f a + 1
 w : ∀ p : Int, 0 ≤ p → p < P → aA f p = -1 ∨ ∃ n : Nat, aA f p = n ∧ fT all n p z = true
 b : ∀ p : Int, 0 ≤ p → p < P → aA f p + (neg f : Int) ≤ P
 e : ∀ d ∈ all, 0 ≤ aA f d.to → d.to ∉ q → 0 ≤ aA f d.frm ∧ aA f d.frm ≤ aA f d.to + 1
theorem tZ {f : List Int} {i a : Int} (h : 0 ≤ i ∧ i < f.length) (hn : aA f i < 0) (ha : 0 ≤ a) : neg (f.set i.toNat a) + 1 = neg f := by
 have h1 : i.toNat < f.length := by omega
 have h2 : f[i.toNat] = aA f i := by
  obtain ⟨x, x1, x2, _⟩ := bl h.1 h.2
  rw [List.getElem?_eq_getElem h1] at x2
  rw [aA, x1]; simpa using x2
 have hp : 0 < neg f := by
  unfold neg
  rw [List.countP_pos_iff]
  exact ⟨f[i.toNat], List.getElem_mem h1, by rw [h2]; simpa using hn⟩
 unfold neg at *
 rw [List.countP_set h1, h2]
 have e1 : decide (aA f i < 0) = true := decide_eq_true hn
 have e2 : decide (a < 0) = false := decide_eq_false (by omega)
 simp only [e1, e2, if_true]
 simp
 omega
theorem zk {all : List ae} {P : Nat} (ho : yF P all) {z : Int} {f : List Int} (h : BF all P z f []) : B5 all P z f := by
 have key : ∀ (n : Nat) (p : Int), 0 ≤ p → p < P → fT all n p z = true → 0 ≤ aA f p ∧ aA f p ≤ n := by
  intro n
  induction n with
  | zero =>
   intro p _ _ hw
   have : p = z := by simpa [fT] using hw
   subst this
   rw [h.z0]; simp
  | succ n ih =>
   intro p _ _ hw
   obtain ⟨d, hd, h2⟩ := List.any_eq_true.1 hw
   rw [Bool.and_eq_true] at h2
   have hr := ho.r d hd
   have i1 := ih d.to hr.2.1 hr.2.2 h2.2
   have i2 := h.e d hd i1.1 (by simp)
   have : d.frm = p := by simpa using h2.1
   rw [← this]
   push_cast; omega
 refine ⟨h.l, fun p h0 h1 => ?_, fun p h0 h1 => by have := h.b p h0 h1; omega⟩
 rcases h.w p h0 h1 with e | ⟨n, e, hw⟩
 ·refine .inl ⟨e, fun n => ?_⟩
  cases hw : fT all n p z with
  | false => rfl
  | true => have := key n p h0 h1 hw; omega
 ·refine .inr ⟨n, e, hw, fun m hm => ?_⟩
  cases hw : fT all m p z with
  | false => rfl
  | true => have := key m p h0 h1 hw; omega
theorem AH {all : List ae} {P : Nat} (ho : yF P all) (hP : P ≤ 1000) {z a : Int} {f0 r0 : List Int} (h0 : BF all P z f0 (a :: r0)) (hq : (a :: r0).length + neg f0 ≤ P) :
  ∃ o, layering_distances.l2 all all all.length (Int.toNat (all.length : Int) + 1) f0 (a :: r0) 0 = some o ∧ ∃ f r, o = (all, f, a :: r, ()) ∧ BF all P z f (a :: r) ∧ r.length + neg f = r0.length + neg f0 ∧ (∀ d ∈ all, d.to = a → 0 ≤ aA f d.frm ∧ aA f d.frm ≤ aA f a + 1) := by
 have hl := ho.l
 refine nF (F := fun n (s : List Int × List Int) j => layering_distances.l2 all all all.length n s.1 s.2 j) all.length
  (fun j s => ∃ r, s.2 = a :: r ∧ BF all P z s.1 (a :: r) ∧ r.length + neg s.1 = r0.length + neg f0 ∧ ∀ d ∈ all.take j, d.to = a → 0 ≤ aA s.1 d.frm ∧ aA s.1 d.frm ≤ aA s.1 a + 1)
  _ (Int.toNat (all.length : Int) + 1) (f0, a :: r0) ⟨r0, rfl, h0, rfl, fun d hd => by simp at hd⟩ (fun n s h => ?_) (fun n s j hj h => .inr ?_) (by omega)
 ·obtain ⟨r, h1, h2, h3, h4⟩ := h
  rw [List.take_length] at h4
  obtain ⟨f, q⟩ := s
  dsimp only at h1 h2 h3 h4
  subst h1
  simp only [layering_distances.l2, ar, cond_false]
  exact ⟨_, rfl, f, r, rfl, h2, h3, h4⟩
 ·obtain ⟨r, h1, h2, h3, h4⟩ := h
  obtain ⟨f, q⟩ := s
  dsimp only at h1 h2 h3 h4
  subst h1
  have hd : all[j]? = some all[j] := List.getElem?_eq_getElem hj
  have hdm : all[j] ∈ all := List.getElem_mem hj
  generalize all[j] = d at *
  have hr := ho.r d hdm
  have fl := h2.l
  have ha := h2.qr a (by simp)
  have c1 : (decide (0 ≤ (0 : Int)) && decide ((0 : Int) < ((r.length + 1 : Nat) : Int))) = true := by rw [zZ, decide_eq_true (show (0 : Int) < ((r.length + 1 : Nat) : Int) by omega)]; rfl
  have c2 : nth (a :: r) 0 = some a := rfl
  have c3 : 0 ≤ d.frm ∧ d.frm < (f.length : Int) := by omega
  have c4 : 0 ≤ a ∧ a < (f.length : Int) := by omega
  have hva := h2.b a ha.1 ha.2.1
  have w : IntKind.i64.wrap (aA f a + 1) = aA f a + 1 := jE (by omega) (by omega)
  have f1 : bX ((a :: r).length + 1) = true := aR (by simp only [List.length_cons] at hq ⊢; omega)
  simp only [layering_distances.l2, aL hj, cond_true, idx_some hd, Option.bind_some, List.length_cons, c1, c2, j8 c3, gQ c3, j8 c4, gQ c4, w, eY, jO, List.length_nil, Nat.zero_add, wS (show j < 4611686018427387904 by omega)]
  simp only [List.length_cons] at f1
  rw [f1]
  cases hc : (d.to == a && decide (aA f d.frm < 0)) with
  | false =>
   refine ⟨(f, a :: r), ⟨r, rfl, h2, h3, fun e he hea => ?_⟩, rfl⟩
   dsimp only
   rw [fN hd] at he
   rcases List.mem_append.1 he with he | he
   ·exact h4 e he hea
   ·simp at he
    subst he
    have : ¬ aA f e.frm < 0 := by simpa [hea] using hc
    exact ⟨by omega, h2.hd a r rfl e.frm hr.1.1 hr.1.2⟩
  | true =>
   have hc' : d.to = a ∧ aA f d.frm < 0 := by simpa using hc
   obtain ⟨rfl, hn⟩ := hc'
   have hne : d.frm ≠ d.to := fun c => by rw [c] at hn; omega
   have hset : ∀ p, 0 ≤ p → aA (f.set d.frm.toNat (aA f d.to + 1)) p = if p = d.frm then aA f d.to + 1 else aA f p := fun p hp => ko c3 hp
   have hold : ∀ p, 0 ≤ p → 0 ≤ aA f p → aA (f.set d.frm.toNat (aA f d.to + 1)) p = aA f p := fun p hp h0 => by
    rw [hset p hp, if_neg]
    intro c; subst c; omega
   have hqold : ∀ p ∈ d.to :: r, aA (f.set d.frm.toNat (aA f d.to + 1)) p = aA f p := fun p hp => hold p (h2.qr p hp).1 (h2.qr p hp).2.2
   have hnew : aA (f.set d.frm.toNat (aA f d.to + 1)) d.frm = aA f d.to + 1 := by rw [hset _ hr.1.1, if_pos rfl]
   have ha2 := hqold d.to (by simp)
   have hng := tZ c3 hn (show 0 ≤ aA f d.to + 1 by omega)
   refine ⟨(f.set d.frm.toNat (aA f d.to + 1), d.to :: (r ++ [d.frm])), ⟨r ++ [d.frm], rfl, ?_, by simp; omega, fun e he hea => ?_⟩, rfl⟩
   ·refine ⟨by simpa using fl, ?_, h2.zr, fun p hp => ?_, ?_, fun a' r' ea p hp0 hp1 => ?_, fun p hp0 hp1 => ?_, fun p hp0 hp1 => ?_, fun e he h0 hnq => ?_⟩
    ·rw [hold z h2.zr.1 (by rw [h2.z0]; exact Int.le_refl _)]; exact h2.z0
    ·rcases List.mem_cons.1 hp with c | hp
     ·subst c; rw [ha2]; exact h2.qr d.to (by simp)
     ·rcases List.mem_append.1 hp with hp | hp
      ·rw [hqold p (by simp [hp])]; exact h2.qr p (by simp [hp])
      ·simp at hp; subst hp; rw [hnew]; exact ⟨hr.1.1, hr.1.2, by omega⟩
    ·rw [show d.to :: (r ++ [d.frm]) = (d.to :: r) ++ [d.frm] from rfl, List.pairwise_append]
     refine ⟨?_, by simp, fun x hx y hy => ?_⟩
     ·exact h2.so.imp_of_mem fun {x y} hx hy hxy => by rw [hqold x hx, hqold y hy]; exact hxy
     ·simp at hy; subst hy
      rw [hqold x hx, hnew]
      exact h2.hd d.to r rfl x (h2.qr x hx).1 (h2.qr x hx).2.1
    ·cases ea
     rw [ha2, hset p hp0]
     split
     ·omega
     ·exact h2.hd d.to r rfl p hp0 hp1
    ·rw [hset p hp0]
     split
     ·rename_i c; subst c
      rcases h2.w d.to ha.1 ha.2.1 with e | ⟨n, e, hw⟩
      ·omega
      ·exact .inr ⟨n + 1, by rw [e]; rfl, List.any_eq_true.2 ⟨d, hdm, by simp [hw]⟩⟩
     ·exact h2.w p hp0 hp1
    ·dsimp only
     rw [hset p hp0]
     split
     ·omega
     ·have := h2.b p hp0 hp1; omega
    ·have her := ho.r e he
     have hne2 : e.to ≠ d.frm := fun c => hnq (by rw [c]; simp)
     have : aA (f.set d.frm.toNat (aA f d.to + 1)) e.to = aA f e.to := by rw [hset _ her.2.1, if_neg hne2]
     rw [this] at h0 ⊢
     have := h2.e e he h0 (fun c => hnq ((List.mem_cons.1 c).elim (fun c => List.mem_cons.2 (.inl c)) fun c => List.mem_cons.2 (.inr (List.mem_append_left _ c))))
     rw [hold _ her.1.1 this.1]; exact this
   ·have her := ho.r e (List.mem_of_mem_take he)
    rw [ha2]
    rw [fN hd] at he
    rcases List.mem_append.1 he with he | he
    ·have := h4 e he hea
     rw [hold _ her.1.1 this.1]; exact this
    ·simp at he; subst he; rw [hnew]; omega
end Go.Ev.Pl
end
section
set_option linter.unusedVariables false
namespace Go.Ev.Pl
theorem Ah {α : Type} {c : Bool} {a a' b : Option α} {r : α} (h : a = some r → a' = some r) : cond c a b = some r → cond c a' b = some r := by
 cases c with
 | true => exact h
 | false => exact id
theorem rK : ∀ (n : Nat) (q : List Int) (i : Int) (r : List Int × Unit), slices_Repeat_lint.l0 n q i = some r → slices_Repeat_lint.l0 (n + 1) q i = some r
 | 0, _, _, _, h => by cases h
 | n + 1, q, i, r, h => by
  rw [slices_Repeat_lint.l0] at h ⊢
  exact Ah (Ah (Ah (Ah (Ah (rK n _ _ _))))) h
theorem oV {n : Nat} {q : List Int} {i : Int} {r : List Int × Unit} (h : slices_Repeat_lint.l0 n q i = some r) : ∀ j, slices_Repeat_lint.l0 (n + j) q i = some r
 | 0 => h
 | j + 1 => rK _ _ _ _ (oV h j)
theorem yE : (List.range 51).all (fun P => decide (jX (IntKind.u64.wrap 1) (IntKind.u64.wrap (P : Int)) = some (0, (P : Int), ())) && decide (slices_Repeat_lint.l0 10 (nu (List.replicate P 0) 0 (([-1] : List Int).take P)) ((min 1 P : Nat) : Int) = some (List.replicate P (-1), ()))) = true := by kernel_rfl
theorem v6 {k P : Nat} (hP : P ≤ 50) (hk : 20000 < k) : slices_Repeat_lint k [-1] P = some (List.replicate P (-1), ()) := by
 have h := List.all_eq_true.1 yE P (by simp; omega)
 rw [Bool.and_eq_true] at h
 have h1 := of_decide_eq_true h.1
 have h2 := oV (of_decide_eq_true h.2) (k - 10)
 rw [show 10 + (k - 10) = k by omega] at h2
 have d1 : ¬ ((P : Int) < 0) := by omega
 have w : IntKind.i64.wrap (P : Int) = P := jE (by omega) (by omega)
 have f1 : bX P = true := aR (by omega)
 have d2 : ¬ ((P : Int) > 9223372036854775807) := by omega
 have e2 : ([-1] : List Int).length = 1 := rfl
 simp only [slices_Repeat_lint, d1, decide_false, cond_false, e2, Int.natCast_one, h1, Option.bind_some, show ¬ ((0 : Int) > 0) by omega, d2, w, ig, lI (Nat.le_refl _), Bool.and_self, Int.toNat_natCast, f1, cond_true, List.length_replicate, h2]
theorem uH {all : List ae} {P : Nat} (ho : yF P all) (hP : P ≤ 1000) {z : Int} : ∀ (m fuel : Nat) (f q : List Int), BF all P z f q → q.length + neg f ≤ m → q.length + neg f ≤ P → m < fuel → ∃ f', layering_distances.l0 fuel all f q = some (f', ()) ∧ BF all P z f' []
 | m, 0, f, q, _, _, _, h => by omega
 | m, fuel + 1, f, [], hb, _, _, _ => ⟨f, rfl, hb⟩
 | 0, fuel + 1, f, a :: r, hb, hm, _, _ => by simp at hm
 | m + 1, fuel + 1, f, a :: r, hb, hm, hp, hf => by
  obtain ⟨_, e, f', r', rfl, hb', hc, hd⟩ := AH ho hP hb hp
  simp only [List.length_cons] at hm hp
  have d1 : decide (((a :: r).length : Int) > 0) = true := decide_eq_true (by simp only [List.length_cons]; omega)
  have d2 : (decide (0 ≤ (1 : Int)) && decide ((1 : Int) ≤ ((a :: r').length : Int)) && decide (((a :: r').length : Int) ≤ ((a :: r').length : Int))) = true := by simp; omega
  have d3 : (decide (1 ≤ (a :: r').length) && decide ((a :: r').length ≤ (a :: r').length)) = true := by simp
  have es : slc (a :: r') 1 (a :: r').length = r' := by simp [slc]
  simp only [layering_distances.l0, d1, cond_true, e, Option.bind_some, d2]
  simp only [Int.toNat_natCast, d3, es, cond_true]
  refine uH ho hP m fuel f' r' ?_ (by omega) (by omega) (by omega)
  refine ⟨hb'.l, hb'.z0, hb'.zr, fun p hp => hb'.qr p (by simp [hp]), (List.pairwise_cons.1 hb'.so).2, fun a' r'' ea p h0 h1 => ?_, hb'.w, hb'.b, fun d hdm h0 hn => ?_⟩
  ·have h2 := hb'.hd a r' rfl p h0 h1
   have h3 := (List.pairwise_cons.1 hb'.so).1 a' (by rw [ea]; simp)
   omega
  ·by_cases c : d.to = a
   ·have := hd d hdm c
    rw [c]; exact this
   ·exact hb'.e d hdm h0 (fun hm => (List.mem_cons.1 hm).elim c hn)
theorem uR (P : Nat) (a p : Int) (h : 0 ≤ p ∧ p < P) : aA (List.replicate P a) p = a := by
 have : p.toNat < P := by omega
 simp [aA, aB, nth, h.1, this]
theorem yu (P : Nat) : neg (List.replicate P (-1)) = P := by simp [neg, List.countP_replicate]
theorem y5 {k P : Nat} {all : List ae} (ho : yF P all) (hP : P ≤ 50) {z : Int} (hz : 0 ≤ z ∧ z < P) (hk : 20000 < k) : ∃ f, layering_distances k all z P = some (f, ()) ∧ B5 all P z f := by
 have hlen : (List.replicate P (-1 : Int)).length = P := by simp
 have hz' : 0 ≤ z ∧ z < ((List.replicate P (-1 : Int)).length : Int) := by rw [hlen]; exact hz
 have hs : ∀ p : Int, 0 ≤ p → p < P → aA ((List.replicate P (-1 : Int)).set z.toNat 0) p = if p = z then 0 else -1 := fun p h0 h1 => by
  rw [ko hz' h0, uR P (-1) p ⟨h0, h1⟩]
 have hn := tZ (f := List.replicate P (-1 : Int)) (i := z) (a := 0) hz' (by rw [uR P (-1) z hz]; omega) (by omega)
 rw [yu] at hn
 have b0 : BF all P z ((List.replicate P (-1 : Int)).set z.toNat 0) [z] := by
  refine ⟨by simp, by rw [hs z hz.1 hz.2, if_pos rfl], hz, fun p hp => ?_, by simp, fun a r e p h0 h1 => ?_, fun p h0 h1 => ?_, fun p h0 h1 => ?_, fun d hd h0 hn => ?_⟩
  ·simp at hp; subst hp
   rw [hs p hz.1 hz.2, if_pos rfl]; exact ⟨hz.1, hz.2, Int.le_refl _⟩
  ·cases e
   rw [hs p h0 h1, hs z hz.1 hz.2, if_pos rfl]; split <;> omega
  ·rw [hs p h0 h1]
   split
   ·rename_i c; subst c; exact .inr ⟨0, rfl, by simp [fT]⟩
   ·exact .inl rfl
  ·rw [hs p h0 h1]; split <;> omega
  ·have hr := (ho.r d hd).2
   rw [hs _ hr.1 hr.2] at h0
   split at h0
   ·rename_i c; exact absurd (by simp [c]) hn
   ·omega
 obtain ⟨f, e, hb⟩ := uH ho (by omega) P k _ _ b0 (by simp; omega) (by simp; omega) (by omega)
 refine ⟨f, ?_, zk ho hb⟩
 simp only [layering_distances, v6 hP hk, Option.bind_some, j8 hz', gQ hz', cond_true, e]
theorem zF : @api_Demand_61 = @jk ae := by kernel_rfl
theorem lf {α : Type} {p : α → Bool} : ∀ {l : List α}, (∃ x, l.find? p = some x) → ∃ i x, l.findIdx? p = some i ∧ l[i]? = some x ∧ l.find? p = some x
 | [], h => by obtain ⟨x, h⟩ := h; cases h
 | a :: l, h => by
  rw [List.find?_cons] at h
  rw [List.find?_cons, List.findIdx?_cons]
  cases hp : p a with
  | true => exact ⟨0, a, by simp, rfl, rfl⟩
  | false =>
   rw [hp] at h
   obtain ⟨i, x, h1, h2, h3⟩ := lf h
   exact ⟨i + 1, x, by simp [h1], by simpa using h2, h3⟩
theorem uy {P : Nat} {all : List ae} (ho : yF P all) {fst : ae} {f : List Int} (hf : B5 all P fst.frm f) {q1 q7 q8 : Int} {q6 : List ae} :
  ∀ (m fuel : Nat) (best : List ae) (at_ : Int), 0 ≤ at_ ∧ at_ < P → fT all m at_ fst.frm = true → (∀ m', m' < m → fT all m' at_ fst.frm = false) → m < fuel → best.length + m ≤ 1000 →
   layering_circle.l2 all q1 fst f q6 q7 q8 fuel best at_ = some (all, q1, best ++ chn all m at_ fst.frm, q6, q7, q8, ())
 | m, 0, _, _, _, _, _, h, _ => by omega
 | 0, fuel + 1, best, at_, _, hw, _, _, _ => by
  have e : at_ = fst.frm := by simpa [fT] using hw
  have : (at_ != fst.frm) = false := by simp [e]
  simp only [layering_circle.l2, this, cond_false, chn, List.append_nil]
 | m + 1, fuel + 1, best, at_, hr, hw, hmin, hf', hb => by
  have hl := ho.l
  have hne : (at_ != fst.frm) = true := by
   have := hmin 0 (by omega)
   simp only [fT] at this
   simp only [bne, this, Bool.not_false]
  have hat : aA f at_ = ((m + 1 : Nat) : Int) := by
   rcases hf.h at_ hr.1 hr.2 with ⟨_, h⟩ | ⟨n, h1, h2, h3⟩
   ·rw [h (m + 1)] at hw; cases hw
   ·rcases Nat.lt_trichotomy n (m + 1) with c | c | c
    ·rw [hmin n c] at h2; cases h2
    ·rw [h1, c]
    ·rw [h3 _ c] at hw; cases hw
  have hpred : ∀ d ∈ all, cH d at_ f = some (d.frm == at_ && fT all m d.to fst.frm) := fun d hd => by
   have hdr := (ho.r d hd).2
   have fl := hf.l
   rw [cH]
   cases hc : (d.frm == at_) with
   | false => rfl
   | true =>
    have hc' : d.frm = at_ := by simpa using hc
    have i1 : aB f d.to = some (aA f d.to) := mM (by omega)
    have i2 : aB f at_ = some (aA f at_) := mM (by omega)
    have w : IntKind.i64.wrap (((m + 1 : Nat) : Int) - 1) = (m : Int) := by rw [jE (by omega) (by omega)]; omega
    simp only [cond_true, i1, i2, hat, w, Option.bind_some, eY, jO, Bool.true_and]
    congr 1
    rcases hf.h d.to hdr.1 hdr.2 with ⟨h1, h2⟩ | ⟨n, h1, h2, h3⟩
    ·rw [h1, h2 m]; rfl
    ·rw [h1]
     have d1 : decide ((n : Int) ≥ 0) = true := decide_eq_true (by omega)
     rw [d1, Bool.true_and]
     cases hwm : fT all m d.to fst.frm with
     | true =>
      have : ¬ m < n := fun c => by rw [h3 m c] at hwm; cases hwm
      have : ¬ n < m := fun c => by
       have hx : fT all (n + 1) at_ fst.frm = true := List.any_eq_true.2 ⟨d, hd, by rw [hc, h2]; rfl⟩
       rw [hmin (n + 1) (by omega)] at hx; cases hx
      have : n = m := by omega
      subst this; simp
     | false =>
      have : n ≠ m := fun c => by subst c; rw [h2] at hwm; cases hwm
      simp; omega
  have hex : ∃ d, all.find? (fun d => d.frm == at_ && fT all m d.to fst.frm) = some d := by
   cases hx : all.find? (fun d => d.frm == at_ && fT all m d.to fst.frm) with
   | some d => exact ⟨d, rfl⟩
   | none =>
    obtain ⟨d, hd, h2⟩ := List.any_eq_true.1 hw
    exact absurd h2 (List.find?_eq_none.1 hx d hd)
  obtain ⟨i, d, h1, h2, h3⟩ := lf hex
  have hdm := cm h2
  have h4 := List.find?_some h3
  rw [Bool.and_eq_true] at h4
  have gi := iV (l := all) (q := fun z10 => cH z10.1 at_ f) (p := fun d => d.frm == at_ && fT all m d.to fst.frm) (fun x hx => hpred x hx) (cP hl (by omega))
  rw [h1] at gi
  have f1 : bX (best.length + 1) = true := aR (by omega)
  have rc := uy ho hf (q1 := q1) (q7 := q7) (q8 := q8) (q6 := q6) m fuel (best ++ [d]) d.to (ho.r d hdm).2 h4.2 (fun m' hm' => by
   cases hx : fT all m' d.to fst.frm with
   | false => rfl
   | true =>
    have : fT all (m' + 1) at_ fst.frm = true := List.any_eq_true.2 ⟨d, hdm, by rw [h4.1, hx]; rfl⟩
    rw [hmin (m' + 1) (by omega)] at this; cases this) (by omega) (by simp; omega)
  simp only [layering_circle.l2, hne, cond_true, zF, gi, tz, idx_some h2, Option.bind_some, List.length_cons, List.length_nil, Nat.zero_add, f1, rc, chn, h3, List.append_assoc, List.singleton_append]
def zw (all : List ae) (i : Nat) (best : List ae) : Prop :=
 (best = [] ∧ ∀ d ∈ all.take i, ∀ n, fT all n d.to d.frm = false) ∨
 ∃ j d n, j < i ∧ n ≤ 50 ∧ all[j]? = some d ∧ best = d :: chn all n d.to d.frm ∧ fT all n d.to d.frm = true ∧ (∀ e ∈ all.take i, ∀ m, m < n → fT all m e.to e.frm = false) ∧ ∀ e ∈ all.take j, fT all n e.to e.frm = false
theorem uZ {k P : Nat} {all : List ae} (ho : yF P all) (hP : P ≤ 50) (hk : 20000 < k) : ∃ best, layering_circle k all P = some (best, ()) ∧ zw all all.length best := by
 have hl := ho.l
 obtain ⟨r, e, best, rfl, p⟩ := nF (F := fun m (s : List ae) i => layering_circle.l0 k m all P s all all.length i) all.length (fun i s => zw all i s) (fun o => ∃ best, o = (best, ()) ∧ zw all all.length best) k [] (.inl ⟨rfl, fun d hd => by simp at hd⟩) (fun m s h => ⟨_, by simp only [layering_circle.l0, ar, cond_false], s, rfl, h⟩) (fun m s i hi h => .inr (by
  have hd : all[i]? = some all[i] := List.getElem?_eq_getElem hi
  have hdm : all[i] ∈ all := List.getElem_mem hi
  generalize all[i] = d at *
  have hr := ho.r d hdm
  obtain ⟨f, ef, far⟩ := y5 ho hP hr.1 hk
  have fl := far.l
  have htr : 0 ≤ d.to ∧ d.to < (f.length : Int) := by omega
  have hb := far.b d.to hr.2.1 hr.2.2
  have ti : ∀ e ∈ all.take (i + 1), e ∈ all.take i ∨ e = d := fun e he => by
   rw [fN hd] at he
   rcases List.mem_append.1 he with he | he
   ·exact .inl he
   ·exact .inr (by simpa using he)
  simp only [layering_circle.l0, aL hi, cond_true, idx_some hd, Option.bind_some, ef, j8 htr, gQ htr, wS (show i < 4611686018427387904 by omega)]
  rcases far.h d.to hr.2.1 hr.2.2 with ⟨t1, t2⟩ | ⟨n', t1, t2, t3⟩
  ·refine ⟨s, ?_, by rw [t1]; rfl⟩
   rcases h with ⟨rfl, h⟩ | ⟨j, d', n, j1, j2, j3, j4, j5, j6, j7⟩
   ·exact .inl ⟨rfl, fun e he n => (ti e he).elim (fun c => h e c n) fun c => by rw [c]; exact t2 n⟩
   ·exact .inr ⟨j, d', n, by omega, j2, j3, j4, j5, fun e he m hm => (ti e he).elim (fun c => j6 e c m hm) fun c => by rw [c]; exact t2 m, j7⟩
  ·have hn : n' ≤ 50 := by omega
   have d1 : decide ((n' : Int) < 0) = false := decide_eq_false (by omega)
   have w : IntKind.i64.wrap ((n' : Int) + 1) = ((n' + 1 : Nat) : Int) := wS (by omega)
   have wk := uy ho far (q1 := (P : Int)) (q6 := all) (q7 := (all.length : Int)) (q8 := (i : Int)) n' k [d] d.to hr.2 t2 t3 (by omega) (by simp; omega)
   rw [t1, d1, cond_false, w]
   rcases h with ⟨rfl, h⟩ | ⟨j, d', n, j1, j2, j3, j4, j5, j6, j7⟩
   ·refine ⟨[d] ++ chn all n' d.to d.frm, .inr ⟨i, d, n', by omega, hn, hd, rfl, t2, fun e he m hm => (ti e he).elim (fun c => h e c m) fun c => by rw [c]; exact t3 m hm, fun e he => h e he n'⟩, ?_⟩
    simp only [List.length_nil, show decide (((0 : Nat) : Int) > 0) = false from rfl, cond_false, Option.bind_some, wk, wS (show i < 4611686018427387904 by omega)]
   ·have hlen : s.length = n + 1 := by rw [j4, List.length_cons, lB _ _ _ j5]
    have d2 : decide (((n + 1 : Nat) : Int) > 0) = true := decide_eq_true (by omega)
    rw [hlen, d2, cond_true]
    by_cases c : n ≤ n'
    ·have d3 : decide (((n' + 1 : Nat) : Int) ≥ ((n + 1 : Nat) : Int)) = true := decide_eq_true (by omega)
     refine ⟨s, .inr ⟨j, d', n, by omega, j2, j3, j4, j5, fun e he m hm => (ti e he).elim (fun c => j6 e c m hm) fun c => by rw [c]; exact t3 m (by omega), j7⟩, ?_⟩
     simp only [d3, Option.bind_some, cond_true]
    ·have d3 : decide (((n' + 1 : Nat) : Int) ≥ ((n + 1 : Nat) : Int)) = false := decide_eq_false (by omega)
     refine ⟨[d] ++ chn all n' d.to d.frm, .inr ⟨i, d, n', by omega, hn, hd, rfl, t2, fun e he m hm => (ti e he).elim (fun c' => j6 e c' m (by omega)) fun c => by rw [c]; exact t3 m hm, fun e he => j6 e he n' (by omega)⟩, ?_⟩
     simp only [d3, Option.bind_some, cond_false, wk, wS (show i < 4611686018427387904 by omega)])) (by omega)
 refine ⟨best, ?_, p⟩
 simp only [layering_circle, e, Option.bind_some]
end Go.Ev.Pl
end
section
set_option linter.unusedVariables false
namespace Go.Ev.Pl
theorem tT {es : List a8} {d : ae} : d ∈ dq es → ∃ (i : Nat) (e : a8), es[i]? = some e ∧ d.frm ∈ e.deletes ∧ d.to ∈ e.creates ∧ d.strict = 1 := fun h => by
 have hs := nH h
 obtain ⟨i, _, hd⟩ := List.mem_flatMap.1 h
 unfold nW at hd
 cases he : es[i]? with
 | none => rw [he] at hd; simp at hd
 | some e =>
  rw [he] at hd
  obtain ⟨x, hx, hd⟩ := List.mem_flatMap.1 hd
  obtain ⟨y, hy, rfl⟩ := List.mem_map.1 hd
  exact ⟨i, e, he, hx, hy, rfl⟩
theorem zz {es : List a8} {x y : Int} (h : Dm es x y) : ∃ d ∈ dq es, d.frm = x ∧ d.to = y := by
 obtain ⟨e, he, hx, hy⟩ := h
 obtain ⟨i, hi, rfl⟩ := List.getElem_of_mem he
 refine ⟨⟨(i : Int), x, y, 1⟩, List.mem_flatMap.2 ⟨i, by simpa using hi, ?_⟩, rfl, rfl⟩
 unfold nW
 rw [List.getElem?_eq_getElem hi]
 exact List.mem_flatMap.2 ⟨x, hx, List.mem_map.2 ⟨y, hy, rfl⟩⟩
theorem wA {es : List a8} {d : ae} (h : d ∈ dq es) : Dm es d.frm d.to := by
 obtain ⟨i, e, he, h1, h2, _⟩ := tT h
 exact ⟨e, cm he, h1, h2⟩
theorem zy {es : List a8} {P : Nat} (ho : ∀ e ∈ es, vu P e) (hl : es.length ≤ 6) : yF P (dq es) := by
 refine ⟨Nat.le_trans (rV (fun e he => ⟨(ho e he).dl, (ho e he).cl⟩) hl) (by omega), fun d hd => ?_⟩
 obtain ⟨i, e, he, h1, h2, _⟩ := tT hd
 have o := ho e (cm he)
 exact ⟨o.d _ h1, o.c _ h2⟩
theorem xC {es : List a8} {x y : Int} {n : Nat} (h : Wk es x y n) : fT (dq es) n x y = true := by
 induction h with
 | nil => simp [fT]
 | step h d ih =>
  obtain ⟨e, he, e1, e2⟩ := zz d
  rw [mL]
  exact List.any_eq_true.2 ⟨e, he, by rw [e1, ih, e2]; simp⟩
theorem qs {es : List a8} {f : Int → Int} (hf : p9 es f) : ∀ n x y, fT (dq es) n x y = true → f x + n ≤ f y
 | 0, x, y, h => by
  have : x = y := by simpa [fT] using h
  rw [this]; simp
 | n + 1, x, y, h => by
  obtain ⟨d, hd, h2⟩ := List.any_eq_true.1 h
  rw [Bool.and_eq_true] at h2
  have h3 := qs hf n d.to y h2.2
  have h4 := hf.s _ _ (wA hd)
  have h5 : d.frm = x := by simpa using h2.1
  rw [h5] at h4
  push_cast; omega
theorem vj {α B : Type} {p : α → Bool} {v : Nat → B} (l : List α) : bO (fun i x => cond (p x) (some (v i)) none) l = (l.findIdx? p).map v := by
 suffices H : ∀ (l : List α) (i : Nat) (g : Nat → Option B), (∀ j x, l[j]? = some x → g (i + j) = cond (p x) (some (v (i + j))) none) → ce g i l.length = (l.findIdx? p).map fun j => v (i + j) from
  (H l 0 _ (fun j x hx => by rw [Nat.zero_add, hx]; rfl)).trans (by congr 1; funext j; rw [Nat.zero_add])
 intro l
 induction l with
 | nil => intro i g h; rfl
 | cons x l ih =>
  intro i g h
  rw [List.length_cons, ce, show g i = _ from h 0 x rfl, List.findIdx?_cons]
  cases hp : p x with
  | true => rfl
  | false =>
   simp only [cond_false, Bool.false_eq_true, if_false, Option.map_map]
   rw [ih (i + 1) g fun j y hy => by rw [show i + 1 + j = i + (j + 1) by omega]; exact h (j + 1) y (by simpa using hy)]
   congr 1
   funext j
   simp only [Function.comp]
   congr 1
   omega
theorem rJ {B : Type} {g : Nat → Option B} {b : B} : ∀ {c i j : Nat}, i ≤ j → j < i + c → g j = some b → (∀ j', i ≤ j' → j' < j → g j' = none) → ce g i c = some b
 | 0, i, j, h1, h2, _, _ => by omega
 | c + 1, i, j, h1, h2, h3, h4 => by
  rw [ce]
  by_cases e : i = j
  ·subst e; rw [h3]
  ·rw [h4 i (Nat.le_refl _) (by omega)]
   exact rJ (by omega) (by omega) h3 fun j' h5 h6 => h4 j' (by omega) h6
theorem nP {α : Type} {p : α → Bool} : ∀ {l : List α} {j : Nat} {d : α}, l[j]? = some d → p d = true → (∀ e ∈ l.take j, p e = false) → l.find? p = some d
 | [], j, d, h, _, _ => by simp at h
 | x :: l, 0, d, h, hp, _ => by
  have : x = d := by simpa using h
  subst this; rw [List.find?_cons, hp]
 | x :: l, j + 1, d, h, hp, hn => by
  rw [List.find?_cons, hn x (by simp)]
  exact nP (by simpa using h) hp fun e he => hn e (by simp [he])
def Lk (all : List ae) (z : Int) : Int → List ae → Prop
 | x, [] => x = z
 | x, d :: l => d ∈ all ∧ d.frm = x ∧ Lk all z d.to l
theorem wc {all : List ae} {z : Int} : ∀ n x, fT all n x z = true → Lk all z x (chn all n x z)
 | 0, x, h => by show x = z; simpa [fT] using h
 | n + 1, x, h => by
  rw [chn]
  cases hf : all.find? (fun d => d.frm == x && fT all n d.to z) with
  | none =>
   obtain ⟨d, hd, h2⟩ := List.any_eq_true.1 h
   exact absurd h2 (List.find?_eq_none.1 hf d hd)
  | some d =>
   have h2 := List.find?_some hf
   rw [Bool.and_eq_true] at h2
   exact ⟨List.mem_of_find?_eq_some hf, by simpa using h2.1, wc n d.to h2.2⟩
theorem xu {all : List ae} {z : Int} : ∀ {l : List ae} {x : Int}, Lk all z x l → ∀ (i : Nat) (e : ae), l[i]? = some e → e ∈ all ∧ ((i = 0 ∧ e.frm = x) ∨ ∃ j e', i = j + 1 ∧ l[j]? = some e' ∧ e.frm = e'.to)
 | [], x, _, i, e, h => by simp at h
 | d :: l, x, hl, 0, e, h => by
  have : d = e := by simpa using h
  subst this; exact ⟨hl.1, .inl ⟨rfl, hl.2.1⟩⟩
 | d :: l, x, hl, i + 1, e, h => by
  obtain ⟨h1, h2⟩ := xu hl.2.2 i e (by simpa using h)
  refine ⟨h1, .inr ?_⟩
  rcases h2 with ⟨rfl, h3⟩ | ⟨j, e', rfl, h3, h4⟩
  ·exact ⟨0, d, rfl, rfl, h3⟩
  ·exact ⟨j + 1, e', rfl, by simpa using h3, h4⟩
theorem tK {all : List ae} {z : Int} : ∀ {l : List ae} {x : Int} {d : ae}, Lk all z x (d :: l) → ∃ e, (d :: l)[l.length]? = some e ∧ e.to = z
 | [], x, d, h => ⟨d, rfl, h.2.2⟩
 | c :: l, x, d, h => by
  obtain ⟨e, h1, h2⟩ := tK h.2.2
  exact ⟨e, by simpa using h1, h2⟩
section
variable {k n : Nat} {t : ad} {rs : List aC} (ht : BT t) (hr : ∀ r ∈ rs, rS n r) (ok : se n t rs) (hk : 20000 + n < k)
include ht hr ok hk
theorem vr {d : ae} {l : List ae} (hl : Lk (dq (rs.map (cg t))) d.frm d.frm (d :: l)) (hlen : l.length < 40) : layering_CheckReason k t rs (d :: l) = some (true, ()) := by
 have g0 := p7 ok
 have rl := ok.l
 obtain ⟨oe, ol⟩ := qi ht ok
 have hes : ∀ e ∈ rs.map (cg t), BE e := fun e he => ⟨(oe e he).dl, (oe e he).cl⟩
 have hdl := rV hes ol
 have hds := nH hl.1
 have hx0 : aB (d :: l) 0 = some d := rfl
 have d1 : (((l.length + 1 : Nat) : Int) == 0) = false := by simp; omega
 have d2 : decide (((l.length + 1 : Nat) : Int) > 40) = false := decide_eq_false (by omega)
 have d3 : (d.strict == 0) = false := by rw [hds]; rfl
 have w : IntKind.i64.wrap (((l.length + 1 : Nat) : Int) - 1) = (l.length : Int) := by rw [jE (by omega) (by omega)]; omega
 obtain ⟨last, h1, h2⟩ := tK hl
 have hg : (j9 n t rs != 0) = false := by rw [g0]; rfl
 have cl := AF (all := dq (rs.map (cg t))) (l := d :: l) last (by omega) (by simp; omega)
 have hf : bO (xl (dq (rs.map (cg t))) (d :: l) last) (d :: l) = none := dU.2 fun i e he => by
  obtain ⟨e1, e2⟩ := xu hl i e he
  have a1 : (dq (rs.map (cg t))).any (A5 e) = true := List.any_eq_true.2 ⟨e, e1, by simp [A5]⟩
  have a2 : (e.frm != (nB (d :: l) last i).to) = false := by
   rcases e2 with ⟨rfl, h3⟩ | ⟨j, e', rfl, h3, h4⟩
   ·simp [nB, h3, h2]
   ·simp [nB, h3, h4]
  simp only [xl, a1, a2, Bool.not_true, Bool.or_self, cond_false]
 rw [hf, List.length_cons] at cl
 simp only [layering_CheckReason, mH ht hr (show rs.length ≤ 1000 by omega) hk, hg, cond_false, List.length_cons, d1, d2, Option.bind_some, hx0, d3, yU hes ol (show 20000 < k by omega), w, idx_some h1, cl, eY, Bool.and_false, jO]
 rfl
theorem xy {i : Nat} {e : a8} (he : (rs.map (cg t))[i]? = some e) (hd : e.deletes = []) : layering_CheckReason k t rs [⟨(i : Int), -1, -1, 0⟩] = some (true, ()) := by
 have g0 := p7 ok
 have rl := ok.l
 have hg : (j9 n t rs != 0) = false := by rw [g0]; rfl
 have hi := aM he
 have d1 : decide ((i : Int) < ((rs.map (cg t)).length : Int)) = true := aL hi
 have d0 : decide ((i : Int) ≥ 0) = true := decide_eq_true (by omega)
 have hx0 : aB [(⟨(i : Int), -1, -1, 0⟩ : ae)] 0 = some ⟨(i : Int), -1, -1, 0⟩ := rfl
 have hdl : ((e.deletes.length : Int) == 0) = true := by rw [hd]; rfl
 simp only [layering_CheckReason, mH ht hr (show rs.length ≤ 1000 by omega) hk, hg, cond_false, Option.bind_some, hx0, d1, d0, ig, Bool.and_self, cond_true, Int.toNat_natCast, fg he, hdl, beq_self_eq_true]
 rfl
end
theorem sq {l : List ae} (hl : l.length ≤ 1000) : api_Demand_13 l l = some (true, ()) := by
 have h := bP (F := api_Demand_13.l0 l l l.length) l () (fun _ _ => (none : Option (Bool × Unit))) (Int.toNat (l.length : Int) + 1) (fun n => by simp only [api_Demand_13.l0, ar, cond_false]) (fun n i x hx _ => by
  simp only [api_Demand_13.l0, aL (aM hx), cond_true, idx_some hx, Option.bind_some, beq_self_eq_true, Bool.and_self, Bool.not_true, cond_false, Option.elim, wS (show i < 4611686018427387904 by have := aM hx; omega)]) (by omega)
 have e : bO (fun _ _ => (none : Option (Bool × Unit))) l = none := dU.2 fun _ _ _ => rfl
 rw [e] at h
 have e2 : ((l.length : Int) != (l.length : Int)) = false := by simp
 simp only [api_Demand_13, e2, cond_false, h, Option.bind_some]
 rfl
theorem yI : @layering_effect_30 = @jk a8 := by kernel_rfl
theorem vc {k n : Nat} {t : ad} {rs : List aC} (ht : BT t) (hr : ∀ r ∈ rs, rS n r) (hrl : rs.length ≤ 1000) (hk : 30000 + n < k) :
  ∃ l e, cK k t rs = some (l, e, ()) ∧ scarfjointref40_Reason k t rs = some (l, e, ()) ∧
   ((e = j9 n t rs ∧ e ≠ 0 ∧ l = []) ∨ (j9 n t rs = 0 ∧ e = 10 ∧ l = [] ∧ (∀ e ∈ rs.map (cg t), e.deletes ≠ []) ∧ ∃ f, p9 (rs.map (cg t)) f) ∨
    (j9 n t rs = 0 ∧ e = 0 ∧ ¬ ((∀ e ∈ rs.map (cg t), e.deletes ≠ []) ∧ ∃ f, p9 (rs.map (cg t)) f) ∧ l.length ≤ 40 ∧ layering_CheckReason k t rs l = some (true, ()))) := by
 have hk1 : 20000 + n < k := by omega
 simp only [cK, scarfjointref40_Reason, mH ht hr hrl hk1, tJ ht hr hrl hk1, Option.bind_some]
 cases h0 : (j9 n t rs != 0) with
 | true => exact ⟨_, _, rfl, rfl, .inl ⟨rfl, by simpa using h0, rfl⟩⟩
 | false =>
  have g0 : j9 n t rs = 0 := by simpa using h0
  have ok := tF g0
  obtain ⟨oe, ol⟩ := qi ht ok
  have tl := uD ht ok
  have hes : ∀ e ∈ rs.map (cg t), BE e := fun e he => ⟨(oe e he).dl, (oe e he).cl⟩
  have gi := iV (l := rs.map (cg t)) (q := fun z2 => dM z2.1) (p := fun e => (e.deletes.length : Int) == 0) (fun _ _ => rfl) (cP ol (by omega))
  have l0 := bP (F := scarfjointref40_Reason.l0 k rs t) rs (rs, t, ()) (fun i r => cond (((cg t r).deletes.length : Int) == 0) (some ([(⟨(i : Int), -1, -1, 0⟩ : ae)], (0 : Int), ())) none) k (fun m => by simp only [scarfjointref40_Reason.l0, ar, cond_false]) (fun m i r hx _ => by
   have hi := aM hx
   have hD := jD (k := k) ht (hr r (cm hx)) (ok.e r (cm hx)) hk1
   simp only [scarfjointref40_Reason.l0, aL hi, cond_true, idx_some hx, hD.1, Option.bind_some, cY, wS (show i < 4611686018427387904 by omega)]) (by omega)
  rw [vj (p := fun r => ((cg t r).deletes.length : Int) == 0) (v := fun i => ([(⟨(i : Int), -1, -1, 0⟩ : ae)], (0 : Int), ()))] at l0
  have em : (rs.map (cg t)).findIdx? (fun e => (e.deletes.length : Int) == 0) = rs.findIdx? (fun r => ((cg t r).deletes.length : Int) == 0) := by rw [List.findIdx?_map]; rfl
  simp only [cond_false, yI, gi, Option.bind_some, l0, em]
  cases hi : rs.findIdx? (fun r => ((cg t r).deletes.length : Int) == 0) with
  | some i =>
   have d0 : decide ((i : Int) ≥ 0) = true := decide_eq_true (by omega)
   rw [← em] at hi
   obtain ⟨h1, h2, _⟩ := List.findIdx?_eq_some_iff_getElem.1 hi
   have he := List.getElem?_eq_getElem h1
   have hd : ((rs.map (cg t))[i]).deletes = [] := by simpa using h2
   refine ⟨[⟨(i : Int), -1, -1, 0⟩], 0, by rw [show tz (some i) = (i : Int) from rfl, d0]; rfl, rfl, .inr (.inr ⟨g0, rfl, fun h => h.1 _ (List.getElem_mem h1) hd, by simp, xy ht hr ok hk1 he hd⟩)⟩
  | none =>
   have hne : ∀ e ∈ rs.map (cg t), e.deletes ≠ [] := fun e he c => by
    rw [← em] at hi
    have := List.findIdx?_eq_none_iff.1 hi e he
    rw [c] at this; cases this
   have w1 : IntKind.i64.wrap ((t.nodes.length : Int) + (t.edges.length : Int)) = ((t.nodes.length + t.edges.length : Nat) : Int) := nY (by omega)
   have d0 : decide ((-1 : Int) ≥ 0) = false := rfl
   have hD := zy oe ol
   have P50 : t.nodes.length + t.edges.length ≤ 32 := by omega
   obtain ⟨best, ec, hb⟩ := uZ hD (show t.nodes.length + t.edges.length ≤ 50 by omega) (show 20000 < k by omega)
   have L2 := li (F := fun m i => scarfjointref40_Reason.l2 k m t (dq (rs.map (cg t))) i) (t.nodes.length + t.edges.length + 1) () (fun L => ((dq (rs.map (cg t))).find? (fun d => fT (dq (rs.map (cg t))) (L - 1) d.to d.frm)).map fun d => (d :: chn (dq (rs.map (cg t))) (L - 1) d.to d.frm, (0 : Int), ())) 1 (fun m i hi => by
    have : decide ((i : Int) ≤ ((t.nodes.length + t.edges.length : Nat) : Int)) = false := decide_eq_false (by omega)
    simp only [scarfjointref40_Reason.l2, w1, this, cond_false]) (fun m i h1 hi _ => by
    have d2 : decide ((i : Int) ≤ ((t.nodes.length + t.edges.length : Nat) : Int)) = true := decide_eq_true (by omega)
    obtain ⟨q, rfl⟩ : ∃ q, i = q + 1 := ⟨i - 1, by omega⟩
    have e1 : IntKind.i64.wrap (((q + 1 : Nat) : Int) - 1) = (q : Int) := by rw [jE (by omega) (by omega)]; omega
    have hl := hD.l
    have l4 := bP (F := scarfjointref40_Reason.l4 k t (dq (rs.map (cg t))) ((q + 1 : Nat) : Int)) (dq (rs.map (cg t))) (t, dq (rs.map (cg t)), ((q + 1 : Nat) : Int), ()) (fun _ d => cond (fT (dq (rs.map (cg t))) q d.to d.frm) (some (d :: chn (dq (rs.map (cg t))) q d.to d.frm, (0 : Int), ())) none) k (fun m => by simp only [scarfjointref40_Reason.l4, ar, cond_false]) (fun m j d hd _ => by
     have hj := aM hd
     simp only [scarfjointref40_Reason.l4, aL hj, ig, Bool.and_true, cond_true, Int.toNat_natCast, fg hd, Option.bind_some, e1, wS (show j < 4611686018427387904 by omega)]
     cases q with
     | zero =>
      have ew : fT (dq (rs.map (cg t))) 0 d.to d.frm = (d.frm == d.to) := by rw [fT]; exact Bool.eq_iff_iff.2 (by simp; exact eq_comm)
      simp only [Nat.zero_add, Int.natCast_one, beq_self_eq_true, cond_true, ew]
      cases (d.frm == d.to) with
      | false => rfl
      | true =>
       have s1 : (decide ((j : Int) ≤ ((j + 1 : Nat) : Int)) && decide (((j + 1 : Nat) : Int) ≤ ((dq (rs.map (cg t))).length : Int))) = true := by simp; omega
       have s2 : (decide (j ≤ j + 1) && decide (j + 1 ≤ (dq (rs.map (cg t))).length)) = true := by simp; omega
       have s3 : slc (dq (rs.map (cg t))) j (j + 1) = [d] := by
        simp only [slc, fN hd]
        rw [List.drop_append_of_le_length (by rw [List.length_take]; omega), List.drop_eq_nil_of_le (by rw [List.length_take]; omega)]
        rfl
       simp only [s1, s2, s3, Bool.true_and, cond_true, Option.elim, chn]
     | succ q =>
      have h1 : (((q + 1 + 1 : Nat) : Int) == 1) = false := by simp; omega
      rw [h1, cond_false, nd hD (q + 1) (by omega) d.to d.frm (show 20000 < k by omega)]
      simp only [Option.bind_some]
      cases hw : fT (dq (rs.map (cg t))) (q + 1) d.to d.frm with
      | false => rfl
      | true =>
       have hc := qR hD q k d.to d.frm (by omega) (by omega) hw
       have f1 : bX (1 + (chn (dq (rs.map (cg t))) (q + 1) d.to d.frm).length) = true := aR (by rw [lB _ _ _ hw]; omega)
       simp only [hc, cond_true, Option.bind_some, List.length_cons, List.length_nil, Nat.zero_add, f1]
       rfl) (by omega)
    rw [nj] at l4
    simp only [scarfjointref40_Reason.l2, w1, d2, cond_true, l4, Option.bind_some, Nat.add_sub_cancel]
    cases (dq (rs.map (cg t))).find? (fun d => fT (dq (rs.map (cg t))) q d.to d.frm) with
    | none => simp only [Option.map_none, Option.elim, aJ, wS (show q + 1 < 4611686018427387904 by omega)]
    | some d => rfl) k (by omega)
   rw [show ((1 : Nat) : Int) = 1 from rfl] at L2
   simp only [tz, d0, cond_false, yU hes ol (show 20000 < k by omega), Option.bind_some, w1, ec, Option.map_none, Option.elim, aJ, Ac ht hr ok hk1, L2, Nat.add_sub_cancel]
   rcases hb with ⟨rfl, hb⟩ | ⟨j, d, m, j1, j2, j3, rfl, j5, j6, j7⟩
   ·rw [List.take_length] at hb
    have hn : ce (fun L => ((dq (rs.map (cg t))).find? (fun d => fT (dq (rs.map (cg t))) (L - 1) d.to d.frm)).map fun d => (d :: chn (dq (rs.map (cg t))) (L - 1) d.to d.frm, (0 : Int), ())) 1 (t.nodes.length + t.edges.length) = none := kX.2 fun L _ _ => by
     have : (dq (rs.map (cg t))).find? (fun d => fT (dq (rs.map (cg t))) (L - 1) d.to d.frm) = none := List.find?_eq_none.2 fun d hd => by rw [hb d hd]; simp
     rw [this]; rfl
    rw [hn]
    refine ⟨[], 10, rfl, rfl, .inr (.inl ⟨g0, rfl, rfl, hne, ?_⟩)⟩
    rcases sH oe with h | ⟨x, q, h1, h2, w⟩
    ·exact ⟨_, iu oe h⟩
    ·have hw := xC w
     obtain ⟨q', rfl⟩ : ∃ q', q = q' + 1 := ⟨q - 1, by omega⟩
     obtain ⟨e, he, h3⟩ := List.any_eq_true.1 hw
     rw [Bool.and_eq_true] at h3
     have h4 : e.frm = x := by simpa using h3.1
     have := hb e he q'
     rw [h4, h3.2] at this; cases this
   ·rw [List.take_length] at j6
    have hm : m + 1 ≤ t.nodes.length + t.edges.length := by
     rcases sH oe with h | ⟨x, q, h1, h2, w⟩
     ·have hp := iu oe h
      have h5 := qs hp m d.to d.frm j5
      have h6 := hp.s _ _ (wA (cm j3))
      omega
     ·have hw := xC w
      obtain ⟨q', rfl⟩ : ∃ q', q = q' + 1 := ⟨q - 1, by omega⟩
      obtain ⟨e, he, h3⟩ := List.any_eq_true.1 hw
      rw [Bool.and_eq_true] at h3
      have h4 : e.frm = x := by simpa using h3.1
      have : ¬ q' < m := fun c => by
       have := j6 e he q' c
       rw [h4, h3.2] at this; cases this
      omega
    have hn : ce (fun L => ((dq (rs.map (cg t))).find? (fun d => fT (dq (rs.map (cg t))) (L - 1) d.to d.frm)).map fun d => (d :: chn (dq (rs.map (cg t))) (L - 1) d.to d.frm, (0 : Int), ())) 1 (t.nodes.length + t.edges.length) = some (d :: chn (dq (rs.map (cg t))) m d.to d.frm, 0, ()) := by
     refine rJ (j := m + 1) (by omega) (by omega) ?_ fun L h1 h2 => ?_
     ·have : (dq (rs.map (cg t))).find? (fun d => fT (dq (rs.map (cg t))) m d.to d.frm) = some d := nP j3 j5 j7
      rw [Nat.add_sub_cancel, this]; rfl
     ·have : (dq (rs.map (cg t))).find? (fun d => fT (dq (rs.map (cg t))) (L - 1) d.to d.frm) = none := List.find?_eq_none.2 fun e he => by rw [j6 e he (L - 1) (by omega)]; simp
      rw [this]; rfl
    have hlen := lB m d.to d.frm j5
    rw [hn]
    have d1 : (((d :: chn (dq (rs.map (cg t))) m d.to d.frm).length : Int) == 0) = false := by rw [List.length_cons]; simp; omega
    refine ⟨d :: chn (dq (rs.map (cg t))) m d.to d.frm, 0, by rw [d1]; rfl, rfl, .inr (.inr ⟨g0, rfl, fun h => ?_, by rw [List.length_cons, hlen]; omega, vr ht hr ok hk1 ⟨cm j3, rfl, wc m d.to j5⟩ (by rw [hlen]; omega)⟩)⟩
    obtain ⟨_, f, hf⟩ := h
    have h5 := qs hf m d.to d.frm j5
    have h6 := hf.s _ _ (wA (cm j3))
    omega
theorem fA {c : Bool} {a b : Int} (ha : a ≠ 10) (hb : b ≠ 10) : cond c a b ≠ 10 := by cases c <;> assumption
theorem yf {α : Type} {g : Nat → α → Option (Int × Unit)} {l : List α} (h : ∀ i x z, g i x = some z → z.1 ≠ 10) : jv (bO g l) ≠ 10 := by
 cases hf : bO g l with
 | none => simp [jv]
 | some z =>
  obtain ⟨j, _, _, j3, _⟩ := cO hf
  obtain ⟨x, _, j5⟩ := Option.bind_eq_some_iff.1 j3
  exact h j x z j5
end Go.Ev.Pl
end
section
set_option linter.unusedVariables false
namespace Go.Ev.Pl
theorem kP {c : Bool} {e : Int} {r : Option (Int × Unit)} {z : Int × Unit} (he : e ≠ 10) (hr : r = some z → z.1 ≠ 10) (h : cond c (some (e, ())) r = some z) : z.1 ≠ 10 := by
 cases c with
 | true => cases h; exact he
 | false => exact hr h
theorem vw {z : Int × Unit} (h : none = some z) : z.1 ≠ 10 := by cases h
theorem B9 {g : Nat → Option (Int × Unit)} {i c : Nat} (h : ∀ j z, g j = some z → z.1 ≠ 10) : jv (ce g i c) ≠ 10 := by
 cases hf : ce g i c with
 | none => simp [jv]
 | some z =>
  obtain ⟨j, _, _, j3, _⟩ := cO hf
  exact h j z j3
theorem z10 : (0 : Int) ≠ 10 := by decide
theorem sm (l : List ByteArray) : gR l ≠ 10 := fA (by decide) (yf fun i x z => kP (by decide) (kP (by decide) vw))
theorem vt (a : bQ) : km a ≠ 10 := fA (sm _) (fA (fA (by decide) z10) (fA (by decide) z10))
theorem uV (l : List bQ) (a : bQ) : gm l a ≠ 10 := fA (by decide) (fA (by decide) (vt a))
theorem vo (t : ad) (i : Nat) (x : aZ) : cW t i x ≠ 10 := fA (by decide) (fA (by decide) (fA (by decide) (fA (by decide) (fA (by decide) (B9 fun j z h => by
 obtain ⟨a, _, h2⟩ := Option.bind_eq_some_iff.1 h
 exact kP (uV _ _) vw h2)))))
theorem vI (t : ad) (i : Nat) (x : bk) : dk t i x ≠ 10 := fA (by decide) (fA (by decide) (fA (by decide) (fA (by decide) z10)))
theorem xj (t : ad) : jr t ≠ 10 := by
 have v10 : ∀ {α : Type} {g : Nat → α → Option (ByteArray × (Int × Unit))} {l : List α} {z : ByteArray × (Int × Unit)}, bO g l = some z → (∀ i x z, g i x = some z → z.2.1 ≠ 10) → z.2.1 ≠ 10 := by
  intro α g l z hf h
  obtain ⟨j, _, _, j3, _⟩ := cO hf
  obtain ⟨x, _, j5⟩ := Option.bind_eq_some_iff.1 j3
  exact h j x z j5
 unfold jr Aa
 cases ((t.nodes.length : Int) == 0) with
 | true => show (7 : Int) ≠ 10; decide
 | false =>
  cases (decide ((t.nodes.length : Int) > 12) || decide ((t.edges.length : Int) > 20)) with
  | true => show (3 : Int) ≠ 10; decide
  | false =>
   simp only [cond_false]
   split
   ·rename_i z hz
    exact v10 hz fun i x z h => by
     cases hc : (cW t i x != 0) with
     | true => rw [hc] at h; cases h; exact vo t i x
     | false => rw [hc] at h; cases h
   ·cases hf : bO (fun i x => cond (dk t i x != 0) (some (x.name, dk t i x, ())) none) t.edges with
    | none => simp [zK]
    | some z =>
     exact v10 hf fun i x z h => by
      cases hc : (dk t i x != 0) with
      | true => rw [hc] at h; cases h; exact vI t i x
      | false => rw [hc] at h; cases h
theorem rY (g : ag) : l7 g ≠ 10 := fA (by decide) (fA (by decide) (fA (by decide) z10))
theorem vh (n : Int) (x : dA) : fJ n x ≠ 10 := by unfold fJ; repeat' (first | exact fA (by decide) z10 | refine fA (by decide) ?_)
theorem zU (n : Int) (l : List dA) : rp n l ≠ 10 := fA (by decide) (fA (by decide) (yf fun i x z => kP (vh _ _) vw))
theorem tc (t : ad) (p : ai) : iO t p ≠ 10 := fA (xj t) (fA (rY _) (fA (by decide) (fA (by decide) (fA (by decide) (fA (by decide) (fA (zU _ _) (fA (by decide) z10)))))))
theorem vk (t : ad) (p : ai) (i : Nat) (s : dR) : gf t p i s ≠ 10 := fA (by decide) (fA (by decide) z10)
theorem xi (t : ad) (r : aC) : jz t r ≠ 10 := fA (rY _) (fA (by decide) (fA (by decide) (fA (by decide) (yf fun i x z => kP (vk _ _ _ _) vw))))
theorem wG (l : List Int) (n : Int) : lP l n ≠ 10 := yf fun i x z h => by
 unfold od at h
 exact kP (by decide) (kP (by decide) vw) h
theorem yi (g : ag) (p : dT) : rQ g p ≠ 10 := fA (wG _ _) (fA (wG _ _) (fA (by decide) z10))
theorem zv (g : ag) (p : dT) : ks g p ≠ 10 := fA (rY _) (yi _ _)
theorem we (a b : ag) (m : aO) : kD a b m ≠ 10 := by
 refine fA (rY _) (fA (rY _) (fA (by decide) ?_))
 split
 ·rename_i z hz
  have : jv (bO (rE a b) m.nodes) ≠ 10 := yf fun i x z h => by
   unfold rE at h
   exact kP (by decide) (kP (by decide) vw) h
  rw [hz] at this; exact this
 ·exact yf fun i x z h => by
   unfold sr at h
   refine kP (by decide) (fun h => ?_) h
   split at h
   ·exact kP (by decide) (kP (by decide) vw) h
   ·exact vw h
theorem yN (r : aC) : ov r ≠ 10 := fA (zv _ _) (fA (we _ _ _) (fA (by decide) z10))
theorem Am (n : Nat) (c : af) : A6 n c ≠ 10 := fA (by decide) (fA (by decide) z10)
theorem zI (t : ad) (q : ai) (v : Nat) : pn t q v ≠ 10 := fA (tc _ _) (fA (by decide) z10)
theorem s9 : ∀ (n : Nat) (t : ad) (p : ai) (c : af), m4 n t p c ≠ 10
 | 0, _, _, _ => z10
 | n + 1, t, p, c => fA (fA (by decide) (fA (zI _ _ _) (fA (we _ _ _) (fA (by decide) (yf fun i d z => kP (s9 n t _ d) vw))))) (yf fun i d z => kP (s9 n t _ d) vw)
theorem xX (n : Nat) (t : ad) (p : ai) (c : af) : rk n t p c ≠ 10 := fA (tc _ _) (fA (Am _ _) (s9 _ _ _ _))
theorem yB (n : Nat) (t : ad) (r : aC) : fU n t r ≠ 10 := fA (xj _) (fA (by decide) (fA (tc _ _) (fA (xi _ _) (fA (yN _) (fA (by decide) (xX _ _ _ _))))))
theorem zS (n : Nat) (t : ad) (r : aC) : gB n t r ≠ 10 := fA (yB _ _ _) (fA (by decide) z10)
theorem zt (n : Nat) (t : ad) (rs : List aC) : j9 n t rs ≠ 10 := fA (xj _) (fA (by decide) (yf fun i x z => kP (zS _ _ _) vw))
theorem sn {k : Nat} {t : ad} {rs : List aC} (ht : ∀ x ∈ t.nodes, x.attrs.length ≤ ml) (hr : ∀ r ∈ rs, AD r) (hk : 31000 < k) (aw : bH k = some (true, ())) : aK k t rs = some (true, ()) := by
 obtain ⟨b, e1, p1⟩ := AI (k := k) ht hr (by omega)
 simp only [aK, aw, e1, Option.bind_some, Bool.not_true, cond_false, eY, iM]
 cases hb : b with
 | false => rfl
 | true =>
  obtain ⟨bt, rl, br⟩ := p1 hb
  obtain ⟨l, e, f1, f2, f3⟩ := vc (k := k) bt br (by omega) (by omega)
  obtain ⟨a, g, h1, h2, h3⟩ := yq (k := k) bt br (by omega) (by omega)
  have ee : (e != e) = false := by simp
  simp only [Bool.not_true, Bool.false_or, cond_false, k8 (show rs.length ≤ 1000000 by omega), Option.bind_some, f1, f2, h1, ee]
  rcases f3 with ⟨q1, q2, rfl⟩ | ⟨q0, rfl, rfl, q1, q2⟩ | ⟨q0, rfl, q1, q2, q3⟩
  ·have vw : e ≠ 10 := by rw [q1]; exact zt _ _ _
   have eg : g = e := by
    rcases h3 with ⟨r1, _⟩ | ⟨r1, _⟩ | ⟨r1, _⟩
    ·rw [r1, q1]
    ·rw [r1] at q1; exact absurd q1 q2
    ·rw [r1] at q1; exact absurd q1 q2
   have d0 : (e == 0) = false := by simpa using q2
   have d1 : (e == 10) = false := by simpa using vw
   simp only [sq (l := []) (by simp), Option.bind_some, Bool.not_true, cond_false, d0, d1, eg, beq_self_eq_true]
  ·have eg : g = 0 := by
    rcases h3 with ⟨r1, r2, _⟩ | ⟨_, _, _, r2⟩ | ⟨_, r1, _⟩
    ·rw [q0] at r1; exact absurd r1 r2
    ·exact absurd ⟨q1, q2⟩ r2
    ·exact r1
   rw [sq (l := []) (by simp), eg]; rfl
  ·have eg : g = 10 := by
    rcases h3 with ⟨r1, r2, _⟩ | ⟨_, r1, _⟩ | ⟨_, _, r1, r2, _⟩
    ·rw [q0] at r1; exact absurd r1 r2
    ·exact r1
    ·exact absurd ⟨r1, r2⟩ q1
   rw [sq (l := l) (by omega), eg]
   simp only [Option.bind_some, q3]
   rfl
end Go.Ev.Pl
end
