import Derived.Test.YtlmpeiepanajmaaGreatM5
set_option linter.all false
section
set_option linter.unusedVariables false
namespace Go.Ev.Pl
def gO (t : ad) (p : aj) (i : Nat) (s : dV) : Int :=
 cond (di t p s) 6 (cond ((p.slots.take i).any fun y => y.node == s.node && y.attr == s.attr) 5 0)
def jT (t : ad) (r : aH) : Int :=
 cond (lj r.right.graph != 0) (lj r.right.graph) (cond (!sm t r.right.graph) 13 (cond (r.right.vars != r.left.vars || decide ((r.right.tests.length : Int) > 0)) 1
  (cond (decide ((r.right.slots.length : Int) > 10)) 3 (lk (bU (fun i x => cond (gO t r.right i x != 0) (some (gO t r.right i x, ())) none) r.right.slots)))))
theorem vf {t : ad} {p : aj} {s : dV} (h : jS t p.graph) (h1 : 0 ≤ s.node ∧ s.node < p.graph.nodes.length) {x : Int} (x1 : ay p.graph.nodes s.node = some x) :
  (decide (s.attr < 0) || (decide (s.attr ≥ ((bj t x).length : Int)) || (decide (s.term.var < -1) || (decide (s.term.var ≥ p.vars) || (decide (s.term.add < -1000000) || decide (s.term.add > 1000000)))))) = di t p s := by
 have d1 : decide (s.node ≥ 0) = true := decide_eq_true h1.1
 have d3 : decide (s.node < (p.graph.nodes.length : Int)) = true := decide_eq_true h1.2
 simp only [di, jx, gZ, d1, d3, x1, Bool.true_and]
 rw [Bool.eq_iff_iff]; simp <;> omega
theorem u9 {t : ad} {p : aj} {s : dV} (h1 : (decide (s.node < 0) || decide (s.node ≥ (p.graph.nodes.length : Int))) = true) : di t p s = true := by
 have d2 : ∀ b, (decide (s.node ≥ 0) && (decide (s.node < (p.graph.nodes.length : Int)) && b)) = false := fun b => by
  rw [← Bool.and_assoc]; simp at *; intros; omega
 simp only [di, jx, d2]; rfl
theorem sV {k : Nat} {t : ad} {r : aH} (h : jS t r.right.graph) (hs : r.right.slots.length ≤ 15) (hk : 2000 < k) {i : Nat} {x : dV} (hx : r.right.slots[i]? = some x) :
  ii k t r i = some (gO t r.right i x, ()) ∧ scarfjointref24_slot k t r.right i = some (gO t r.right i x, ()) := by
 have hi := aL hx
 have hn := h.gr.n
 have c1 := bz (l := r.right.slots.take i) (q := fun z6 => fR z6.1 x) (p := fun y => y.node == x.node && y.attr == x.attr) (fun y _ => by simp only [fR, eX, kf, Option.bind_some]) (cO (m := 20) (by simp; omega) (by omega))
 have c2 := ou (F := scarfjointref24_slot.l0 i r.right x) r.right.slots i () (5, ()) (fun y => y.node == x.node && y.attr == x.attr) k (by omega) (fun n => by simp only [scarfjointref24_slot.l0, az, cond_false]) (fun n j y hj hy => by
  simp only [scarfjointref24_slot.l0, aQ hj, cond_true, idx_some hy, Option.bind_some, eX, kf, wS (show j < 4611686018427387904 by omega)]) (by omega)
 simp only [ii, scarfjointref24_slot, idx_some hx, Option.bind_some, eX, i9, tF, c1, c2, iv, mv (Nat.le_of_lt hi), yt, Bool.and_true, cond_true, Int.toNat_natCast, qu]
 cases h1 : (decide (x.node < 0) || decide (x.node ≥ (r.right.graph.nodes.length : Int))) with
 | true => simp only [gO, u9 h1, cond_true, and_self]
 | false =>
  have h2 : 0 ≤ x.node ∧ x.node < r.right.graph.nodes.length := by simp at h1; omega
  obtain ⟨y, y1, y2, y3⟩ := bw h2.1 h2.2
  simp only [cond_false, y1, Option.bind_some, qa h.ok hk h.e, nP h.ok hk h.e, lz h y3, cond_true, vf h h2 y1, gO]
  cases di t r.right x with
  | true => (refine ⟨?_, ?_⟩ <;> first | rfl | trivial)
  | false => cases ((r.right.slots.take i).any fun y => y.node == x.node && y.attr == x.attr) <;> (refine ⟨?_, ?_⟩ <;> first | rfl | trivial)
theorem oH {k : Nat} {t : ad} {r : aH} (ht : ug t) (h0 : jA t = 0) (hp : BP r.right) (hk : 2000 < k) : rule_right k t r = some (jT t r, ()) ∧ scarfjointref24_right k t r = some (jT t r, ()) := by
 have hs := hp.s
 have hg := hp.g
 simp only [rule_right, scarfjointref24_right, jT, (kn hg (show 200 < k by omega)).1, (kn hg (show 200 < k by omega)).2, Option.bind_some, eX, i9, vt hg]
 cases h4 : (lj r.right.graph != 0) with
 | true => (refine ⟨?_, ?_⟩ <;> first | rfl | trivial)
 | false =>
  have hgr := jG (show lj r.right.graph = 0 by simpa using h4)
  simp only [cond_false, oJ hgr (show 200 < k by omega), Option.bind_some]
  cases h5 : sm t r.right.graph with
  | false => (refine ⟨?_, ?_⟩ <;> first | rfl | trivial)
  | true =>
   have hgt : jS t r.right.graph := ⟨ht, h0, hgr, h5⟩
   have l1 := bS (F := rule_right.l1 k t r r.right.slots.length) r.right.slots () (fun i x => cond (gO t r.right i x != 0) (some (gO t r.right i x, ())) none) (Int.toNat (r.right.slots.length : Int) + 1) (fun n => by simp only [rule_right.l1, az, cond_false]) (fun n i x hx _ => by
    simp only [rule_right.l1, aQ (aL hx), cond_true, (sV hgt hs hk hx).1, Option.bind_some, cS, wS (show i < 4611686018427387904 by have := aL hx; omega)]) (by omega)
   have l2 := bS (F := scarfjointref24_right.l0 k t r) r.right.slots () (fun i x => cond (gO t r.right i x != 0) (some (gO t r.right i x, ())) none) k (fun n => by simp only [scarfjointref24_right.l0, az, cond_false]) (fun n i x hx _ => by
    simp only [scarfjointref24_right.l0, aQ (aL hx), cond_true, (sV hgt hs hk hx).2, Option.bind_some, cS, wS (show i < 4611686018427387904 by have := aL hx; omega)]) (by omega)
   simp only [Bool.not_true, cond_false, l1, l2]
   cases (r.right.vars != r.left.vars || decide ((r.right.tests.length : Int) > 0)) <;> cases decide ((r.right.slots.length : Int) > 10) <;> first | (refine ⟨?_, ?_⟩ <;> first | rfl | trivial) | exact ⟨ks _, ks _⟩
def pV (l : List Int) (n : Int) (i : Nat) (x : Int) : Option (Int × Unit) :=
 cond (decide (x < 0) || decide (x ≥ n)) (some (6, ())) (cond (decide ((i : Int) > 0) && decide (x ≤ (l[i - 1]?).getD 0)) (some (12, ())) none)
def mu (l : List Int) (n : Int) : Int := lk (bU (pV l n) l)
theorem pb {k : Nat} {l : List Int} (n : Int) (hl : l.length ≤ 1000) (hk : 2000 < k) : subgraph_list l n = some (mu l n, ()) ∧ scarfjointref07_ascending k l n = some (mu l n, ()) := by
 have step : ∀ (i : Nat) x, l[i]? = some x → (cond (decide ((i : Int) > 0)) ((ay l (IntKind.i64.wrap ((i : Int) - 1))).bind fun x7 => some (decide (x ≤ x7), ())) (some (false, ()))) = some (decide ((i : Int) > 0) && decide (x ≤ (l[i - 1]?).getD 0), ()) := fun i x hx => by
  have := aL hx
  by_cases h : (i : Int) > 0
  ·have e : IntKind.i64.wrap ((i : Int) - 1) = ((i - 1 : Nat) : Int) := by rw [jC (by omega) (by omega)]; omega
   have hg : l[i - 1]? = some l[i - 1] := List.getElem?_eq_getElem (by omega)
   simp only [h, decide_true, cond_true, e, idx_some hg, Option.bind_some, hg, Option.getD_some, Bool.true_and]
  ·simp only [h, decide_false, cond_false, Bool.false_and]
 have l1 := bS (F := subgraph_list.l0 l n l l.length) l () (pV l n) (Int.toNat (l.length : Int) + 1) (fun m => by simp only [subgraph_list.l0, az, cond_false]) (fun m i x hx _ => by
  simp only [subgraph_list.l0, pV, aQ (aL hx), cond_true, idx_some hx, Option.bind_some, eX, i9, step i x hx, gM, jj, wS (show i < 4611686018427387904 by have := aL hx; omega)]) (by omega)
 have l2 := bS (F := scarfjointref07_ascending.l0 l n) l () (pV l n) k (fun m => by simp only [scarfjointref07_ascending.l0, az, cond_false]) (fun m i x hx _ => by
  simp only [scarfjointref07_ascending.l0, pV, aQ (aL hx), cond_true, idx_some hx, Option.bind_some, eX, i9, step i x hx, gM, jj, wS (show i < 4611686018427387904 by have := aL hx; omega)]) (by omega)
 exact ⟨by rw [subgraph_list, l1]; exact ks _, by rw [scarfjointref07_ascending, l2]; exact ks _⟩
structure zb (l : List Int) (n : Nat) : Prop where
 ran : ∀ x ∈ l, 0 ≤ x ∧ x < n
 lt : ∀ (i j : Nat) x y, i < j → l[i]? = some x → l[j]? = some y → x < y
theorem pM {l : List Int} {n : Nat} (h : mu l n = 0) : zb l n := by
 have h0 : bU (pV l n) l = none := by
  cases hf : bU (pV l n) l with
  | none => rfl
  | some z =>
   rw [mu, hf] at h
   obtain ⟨j, _, _, j3, _⟩ := dy hf
   obtain ⟨x, _, j5⟩ := Option.bind_eq_some_iff.1 j3
   simp only [pV] at j5
   cases h1 : (decide (x < 0) || decide (x ≥ (n : Int))) with
   | true => rw [h1] at j5; cases j5; cases h
   | false =>
    rw [h1] at j5
    cases h2 : (decide ((j : Int) > 0) && decide (x ≤ (l[j - 1]?).getD 0)) with
    | true => rw [h2] at j5; cases j5; cases h
    | false => rw [h2] at j5; cases j5
 rw [eJ] at h0
 have key : ∀ (i : Nat) x, l[i]? = some x → (0 ≤ x ∧ x < n) ∧ (0 < i → (l[i - 1]?).getD 0 < x) := fun i x hx => by
  have := h0 i x hx
  simp only [pV] at this
  cases h1 : (decide (x < 0) || decide (x ≥ (n : Int))) with
  | true => rw [h1] at this; cases this
  | false =>
   rw [h1] at this
   cases h2 : (decide ((i : Int) > 0) && decide (x ≤ (l[i - 1]?).getD 0)) with
   | true => rw [h2] at this; cases this
   | false => simp at h1 h2; exact ⟨by omega, fun hi => by omega⟩
 refine ⟨fun x hx => ?_, fun i j x y hij hx hy => ?_⟩
 ·obtain ⟨i, hi, rfl⟩ := List.getElem_of_mem hx
  exact (key i _ (List.getElem?_eq_getElem hi)).1
 ·induction j generalizing y with
  | zero => omega
  | succ j ih =>
   have h1 := (key (j + 1) y hy).2 (by omega)
   have hjl : j < l.length := by have := aL hy; omega
   have hj : l[j]? = some l[j] := List.getElem?_eq_getElem hjl
   simp only [Nat.add_sub_cancel, hj, Option.getD_some] at h1
   by_cases e : i = j
   ·subst e; rw [hj] at hx; cases hx; exact h1
   ·have := ih _ (by omega) hj; omega
theorem zP {i j : Nat} (h : i + j ≤ 1000000) : IntKind.i64.wrap (Int.fdiv (IntKind.u64.wrap (IntKind.i64.wrap ((i : Int) + (j : Int)))) (2 ^ (min (Int.toNat (1 : Int)) (IntKind.bits .u64)))) = (((i + j) / 2 : Nat) : Int) := by
 have e1 : IntKind.i64.wrap ((i : Int) + (j : Int)) = ((i + j : Nat) : Int) := by rw [jC (by omega) (by omega)]; omega
 have e2 : IntKind.u64.wrap ((i + j : Nat) : Int) = ((i + j : Nat) : Int) := by
  simp only [IntKind.wrap, IntKind.bits, IntKind.signed, Bool.false_and]
  rw [if_neg (by decide)]; omega
 have e3 : (2 : Int) ^ (min (Int.toNat (1 : Int)) (IntKind.bits .u64)) = 2 := rfl
 rw [e1, e2, e3]
 have e4 : Int.fdiv ((i + j : Nat) : Int) 2 = (((i + j) / 2 : Nat) : Int) := by rw [Int.fdiv_eq_ediv_of_nonneg _ (by omega)]; omega
 rw [e4, jC (by omega) (by omega)]
theorem so {l : List Int} {n : Nat} (x : Int) (N : Int) (ha : zb l n) (hl : l.length ≤ 1000) : ∀ (fuel i j : Nat), j - i < fuel → i ≤ j → j ≤ l.length → (∀ m y, m < i → l[m]? = some y → y < x) → (∀ m y, j ≤ m → l[m]? = some y → x ≤ y) →
  ∃ p : Nat, slices_BinarySearch_lint.l0 l x N fuel i j = some (l, x, N, (p : Int), ()) ∧ p ≤ l.length ∧ (∀ m y, m < p → l[m]? = some y → y < x) ∧ (∀ m y, p ≤ m → l[m]? = some y → x ≤ y)
 | 0, i, j, h, _, _, _, _ => by omega
 | fuel + 1, i, j, h, hij, hj, h1, h2 => by
  by_cases e : i = j
  ·subst e
   refine ⟨i, ?_, hj, h1, h2⟩
   simp only [slices_BinarySearch_lint.l0, az, cond_false]
  ·have hlt : i < j := by omega
   have hm : (i + j) / 2 < l.length := by omega
   have hg : l[(i + j) / 2]? = some l[(i + j) / 2] := List.getElem?_eq_getElem hm
   have e1 : decide (0 ≤ (1 : Int)) = true := rfl
   have e2 : ∀ y : Int, (y != y) = false := fun y => by simp
   simp only [slices_BinarySearch_lint.l0, aQ hlt, cond_true, e1, zP (show i + j ≤ 1000000 by omega), idx_some hg, Option.bind_some, gl, eW, e2, cond_false, wS (show (i + j) / 2 < 4611686018427387904 by omega)]
   by_cases hc : l[(i + j) / 2] < x
   ·simp only [hc, decide_true, cond_true]
    refine so x N ha hl fuel _ j (by omega) (by omega) hj (fun m y hm' hy => ?_) h2
    by_cases e3 : m = (i + j) / 2
    ·subst e3; rw [hg] at hy; cases hy; exact hc
    ·have := ha.lt m _ y _ (show m < (i + j) / 2 by omega) hy hg; omega
   ·simp only [hc, decide_false, cond_false]
    refine so x N ha hl fuel i _ (by omega) (by omega) (by omega) h1 (fun m y hm' hy => ?_)
    by_cases e3 : m = (i + j) / 2
    ·subst e3; rw [hg] at hy; cases hy; omega
    ·have := ha.lt _ m _ y (show (i + j) / 2 < m by omega) hg hy; omega
def om (l : List Int) (x : Int) : Int := xm (l.findIdx? (· == x))
theorem pB {k : Nat} {l : List Int} {n : Nat} (x : Int) (ha : zb l n) (hl : l.length ≤ 1000) (hk : 2000 < k) : ∃ p, slices_BinarySearch_lint k l x = some (p, l.any (x == ·), ()) ∧ (l.any (x == ·) = true → p = om l x) := by
 obtain ⟨p, h1, h2, h3, h4⟩ := so x (l.length : Int) ha hl k 0 l.length (by omega) (by omega) (Nat.le_refl _) (fun m y h => by omega) (fun m y h hy => by have := aL hy; omega)
 rw [slices_BinarySearch_lint, show (0 : Int) = ((0 : Nat) : Int) from rfl, h1]
 have e2 : ∀ y : Int, (y != y) = false := fun y => by simp
 simp only [Option.bind_some]
 by_cases hp : p < l.length
 ·have hg : l[p]? = some l[p] := List.getElem?_eq_getElem hp
  simp only [aQ hp, cond_true, idx_some hg, Option.bind_some, dp, e2, cond_false]
  by_cases hx : l[p] = x
  ·have e3 : (l[p] == x) = true := by simpa using hx
   have e4 : l.any (x == ·) = true := List.any_eq_true.2 ⟨l[p], List.getElem_mem hp, by simp [hx]⟩
   simp only [e3, e4, cond_true, Option.bind_some]
   refine ⟨_, rfl, fun _ => ?_⟩
   have : l.findIdx? (· == x) = some p := by
    rw [List.findIdx?_eq_some_iff_getElem]
    refine ⟨hp, e3, fun m hm => ?_⟩
    have := h3 m _ hm (List.getElem?_eq_getElem (by omega))
    simp; omega
   rw [om, this]; rfl
  ·have e3 : (l[p] == x) = false := by simpa using hx
   have e4 : l.any (x == ·) = false := by
    rw [List.any_eq_false]
    intro y hy
    obtain ⟨m, hm, rfl⟩ := List.getElem_of_mem hy
    have hgm := List.getElem?_eq_getElem hm
    by_cases h5 : m < p
    ·have := h3 m _ h5 hgm; simp; omega
    ·by_cases h6 : m = p
     ·subst h6; simp; omega
     ·have := ha.lt p m _ _ (by omega) hg hgm
      have := h4 p _ (Nat.le_refl _) hg
      simp; omega
   simp only [e3, e4, cond_false, Option.bind_some]
   exact ⟨_, rfl, fun h => by cases h⟩
 ·have e4 : l.any (x == ·) = false := by
   rw [List.any_eq_false]
   intro y hy
   obtain ⟨m, hm, rfl⟩ := List.getElem_of_mem hy
   have := h3 m _ (by omega) (List.getElem?_eq_getElem hm)
   simp; omega
  have e5 : ¬ ((p : Int) < (l.length : Int)) := by omega
  simp only [e4, e5, decide_false, cond_false, Option.bind_some]
  exact ⟨_, rfl, fun h => by cases h⟩
theorem qN {k : Nat} {l : List Int} (x : Int) (hl : l.length ≤ 1000) (hk : 2000 < k) : scarfjointref07_index k l x = some (om l x, ()) := by
 have := bS (F := scarfjointref07_index.l0 l x) l () (fun i y => cond (y == x) (some ((i : Int), ())) none) k (fun m => by simp only [scarfjointref07_index.l0, az, cond_false]) (fun m i y hx _ => by
  simp only [scarfjointref07_index.l0, aQ (aL hx), cond_true, idx_some hx, Option.bind_some, cS, wS (show i < 4611686018427387904 by have := aL hx; omega)]) (by omega)
 rw [scarfjointref07_index, this]
 have h2 := mg (l := l) (q := fun z => some (z.1 == x)) (p := (· == x)) (fun _ _ => rfl) (cO hl (by omega))
 rw [kV, oz (p := (· == x)) (fun _ _ => rfl) (cO hl (by omega))] at h2
 rw [om, ← h2]
 have e : bU (fun (i : Nat) (y : Int) => cond (y == x) (some ((i : Int), ())) none) l = dk (fun i => l[i]?.bind fun y => cond (y == x) (some ((i : Int), ())) none) 0 l.length := rfl
 rw [e]
theorem rG {k : Nat} {l : List Int} (x : Int) (hl : l.length ≤ 20000) (hk : 20000 < k) : scarfjointref07_has k l x = some (l.any (x == ·), ()) ∧ scarfjointref24_has k l x = some (l.any (x == ·), ()) := by
 have e : l.any (x == ·) = l.any (· == x) := m0 fun y _ => by rw [Bool.eq_iff_iff]; simp; exact eq_comm
 rw [e]
 constructor
 ·have := bS (F := scarfjointref07_has.l0 l x) l () (fun i y => cond (y == x) (some (true, ())) none) k (fun m => by simp only [scarfjointref07_has.l0, az, cond_false]) (fun m i y hx _ => by
   simp only [scarfjointref07_has.l0, aQ (aL hx), cond_true, idx_some hx, Option.bind_some, cS, wS (show i < 4611686018427387904 by have := aL hx; omega)]) (by omega)
  rw [scarfjointref07_has, this, bH (· == x)]
  cases l.any (· == x) <;> rfl
 ·have := bS (F := scarfjointref24_has.l0 l x) l () (fun i y => cond (y == x) (some (true, ())) none) k (fun m => by simp only [scarfjointref24_has.l0, az, cond_false]) (fun m i y hx _ => by
   simp only [scarfjointref24_has.l0, aQ (aL hx), cond_true, idx_some hx, Option.bind_some, cS, wS (show i < 4611686018427387904 by have := aL hx; omega)]) (by omega)
  rw [scarfjointref24_has, this, bH (· == x)]
  cases l.any (· == x) <;> rfl
end Go.Ev.Pl
end
section
set_option linter.unusedVariables false
namespace Go.Ev.Pl
theorem jk {α β : Type} (f : α → β) (l : List α) : (List.range l.length).flatMap (fun i => (l[i]?).elim [] fun x => [f x]) = l.map f := by
 have h := congrArg (List.map f) (oP l)
 rw [List.map_flatMap] at h
 rw [← h]
 congr 1
 funext i
 cases l[i]? <;> rfl
def qy (g : ah) (p : eB) (x : Int) : Bool := match ay g.edges x with | some e => !(p.nodes.any (e.frm == ·)) || !(p.nodes.any (e.to == ·)) | none => false
def tM (g : ah) (p : eB) : Int :=
 cond (mu p.nodes g.nodes.length != 0) (mu p.nodes g.nodes.length) (cond (mu p.edges g.edges.length != 0) (mu p.edges g.edges.length) (cond (p.edges.any (qy g p)) 14 0))
def kG (g : ah) (p : eB) : Int := cond (lj g != 0) (lj g) (tM g p)
structure m7 (p : eB) : Prop where
 n : p.nodes.length ≤ 140
 e : p.edges.length ≤ 140
theorem qS {k : Nat} {g : ah} {p : eB} (hp : m7 p) (hk : 20000 < k) : subgraph_part k g p = some (tM g p, ()) ∧ scarfjointref07_Right k g p = some (tM g p, ()) := by
 have h1 := hp.n
 have h2 := hp.e
 simp only [subgraph_part, scarfjointref07_Right, tM, (pb (k := k) (l := p.nodes) g.nodes.length (by omega) (by omega)).1, (pb (k := k) (l := p.nodes) g.nodes.length (by omega) (by omega)).2, (pb (k := k) (l := p.edges) g.edges.length (by omega) (by omega)).1, (pb (k := k) (l := p.edges) g.edges.length (by omega) (by omega)).2, Option.bind_some]
 cases h3 : (mu p.nodes g.nodes.length != 0) with
 | true => (refine ⟨?_, ?_⟩ <;> first | rfl | trivial)
 | false =>
  cases h4 : (mu p.edges g.edges.length != 0) with
  | true => (refine ⟨?_, ?_⟩ <;> first | rfl | trivial)
  | false =>
   have a1 := pM (show mu p.nodes g.nodes.length = 0 by simpa using h3)
   have a2 := pM (show mu p.edges g.edges.length = 0 by simpa using h4)
   have l1 := bS (F := subgraph_part.l0 k g p p.edges p.edges.length) p.edges () (fun _ x => cond (qy g p x) (some (14, ())) none) (Int.toNat (p.edges.length : Int) + 1) (fun n => by simp only [subgraph_part.l0, az, cond_false]) (fun n i x hx _ => by
    have hr := a2.ran x (cJ hx)
    obtain ⟨e, e1, _, _⟩ := bw hr.1 hr.2
    obtain ⟨q1, q2, _⟩ := pB (k := k) e.frm a1 (by omega) (by omega)
    obtain ⟨r1, r2, _⟩ := pB (k := k) e.to a1 (by omega) (by omega)
    simp only [subgraph_part.l0, ft, aQ (aL hx), cond_true, idx_some hx, e1, q2, r2, Option.bind_some, eX, i9, qy, cS, wS (show i < 4611686018427387904 by have := aL hx; omega)]) (by omega)
   have l2 := bS (F := scarfjointref07_Right.l0 k g p) p.edges () (fun _ x => cond (qy g p x) (some (14, ())) none) k (fun n => by simp only [scarfjointref07_Right.l0, az, cond_false]) (fun n i x hx _ => by
    have hr := a2.ran x (cJ hx)
    obtain ⟨e, e1, _, _⟩ := bw hr.1 hr.2
    simp only [scarfjointref07_Right.l0, aQ (aL hx), cond_true, idx_some hx, e1, (rG (k := k) (l := p.nodes) e.frm (by omega) (by omega)).1, (rG (k := k) (l := p.nodes) e.to (by omega) (by omega)).1, Option.bind_some, eX, i9, qy, cS, wS (show i < 4611686018427387904 by have := aL hx; omega)]) (by omega)
   rw [bH (qy g p)] at l1 l2
   simp only [cond_false, l1, l2, Option.bind_some, fF]
   cases p.edges.any (qy g p) <;> (refine ⟨?_, ?_⟩ <;> first | rfl | trivial)
theorem s5 {k : Nat} {g : ah} {p : eB} (hg : BG g) (hp : m7 p) (hk : 20000 < k) : et k g p = some (kG g p, ()) ∧ bm k g p = some (kG g p, ()) := by
 simp only [et, bm, kG, (kn hg (show 200 < k by omega)).1, (kn hg (show 200 < k by omega)).2, (qS (g := g) hp hk).1, (qS (g := g) hp hk).2, Option.bind_some, eX, and_self]
structure xM (g : ah) (p : eB) : Prop where
 gr : zq g
 n : zb p.nodes g.nodes.length
 e : zb p.edges g.edges.length
 d : ∀ x ∈ p.edges, ∀ e, ay g.edges x = some e → p.nodes.any (e.frm == ·) = true ∧ p.nodes.any (e.to == ·) = true
theorem uL {c y : Int} (h : cond (c != 0) c y = 0) : c = 0 ∧ y = 0 := by
 cases hc : (c != 0) with
 | true => rw [hc, cond_true] at h; rw [h] at hc; cases hc
 | false => rw [hc] at h; exact ⟨by simpa using hc, h⟩
theorem yF {b : Bool} {c y : Int} (h : cond b c y = 0) (hc : c ≠ 0) : b = false ∧ y = 0 := by
 cases b with
 | true => exact absurd h hc
 | false => exact ⟨rfl, h⟩
theorem wH {g : ah} {p : eB} (h : kG g p = 0) : xM g p := by
 obtain ⟨h1, h⟩ := uL h
 obtain ⟨h2, h⟩ := uL h
 obtain ⟨h3, h⟩ := uL h
 obtain ⟨h4, h⟩ := yF h (by decide)
 refine ⟨jG h1, pM h2, pM h3, fun x hx e he => ?_⟩
 have := List.any_eq_false.1 h4 x hx
 simp only [qy, he] at this
 cases h6 : p.nodes.any (e.frm == ·) <;> cases h7 : p.nodes.any (e.to == ·) <;> simp only [h6, h7] at this <;> simp at this ⊢
def yx (g : ah) (p : eB) (x : Int) : Edge := match ay g.edges x with | some e => ⟨e.typ, om p.nodes e.frm, om p.nodes e.to⟩ | none => ⟨0, 0, 0⟩
def uD (g : ah) (p : eB) : ah := ⟨p.nodes.map fun i => (ay g.nodes i).getD 0, p.edges.map (yx g p)⟩
abbrev zR := ((List Int) × ((List Edge) × Unit)) × (((List Int) × ((List Int) × Unit)) × (Int × Unit))
def yA (g : ah) (p : eB) : zR := cond (kG g p != 0) (([], [], ()), ([], [], ()), kG g p, ()) (((uD g p).nodes, (uD g p).edges, ()), (p.nodes, p.edges, ()), 0, ())
theorem xy {k : Nat} {g : ah} {p : eB} (hg : BG g) (hp : m7 p) (hk : 20000 < k) : subgraph_Extract k g p = some (yA g p) ∧ scarfjointref07_Extract k g p = some (yA g p) := by
 have h1 := hp.n
 have h2 := hp.e
 simp only [subgraph_Extract, scarfjointref07_Extract, (s5 hg hp hk).1, (s5 hg hp hk).2, Option.bind_some, yA]
 cases h3 : (kG g p != 0) with
 | true => (refine ⟨?_, ?_⟩ <;> first | rfl | trivial)
 | false =>
  have ok := wH (show kG g p = 0 by simpa using h3)
  have bn : ∀ {β : Type} (f : Nat → List β) (acc : List β) (i : Nat), (∀ j, (f j).length ≤ 1) → acc = [] ++ (List.range i).flatMap f → i ≤ 140 → acc.length + 1 ≤ 1000000 := fun f acc i hf hacc hi => by
   have := fi hf i; rw [List.nil_append] at hacc; subst hacc; omega
  have l1 := jF (F := subgraph_Extract.l0 g p [] [] [] [] [] p.nodes p.nodes.length) p.nodes.length (fun i => (p.nodes[i]?).elim [] fun x => [(ay g.nodes x).getD 0]) (fun acc => some (g, p, ([], [], ()), ([], [], ()), (acc, [], ()), ())) [] (Int.toNat (p.nodes.length : Int) + 1) (fun n acc => by simp only [subgraph_Extract.l0, az, cond_false]) (fun n acc i hi hacc => by
   have hx : p.nodes[i]? = some p.nodes[i] := List.getElem?_eq_getElem hi
   have hr := ok.n.ran _ (List.getElem_mem hi)
   obtain ⟨e, e1, _, _⟩ := bw hr.1 hr.2
   have hb := bn _ acc i (fun j => by cases p.nodes[j]? <;> simp) hacc (by omega)
   simp only [subgraph_Extract.l0, aQ hi, cond_true, idx_some hx, e1, hx, Option.bind_some, Option.elim, Option.getD_some, List.length_cons, List.length_nil, Nat.zero_add, bB hb, wS (show i < 4611686018427387904 by omega)]) (by omega)
  have l2 := jF (F := scarfjointref07_Extract.l0 g p [] [] [] [] []) p.nodes.length (fun i => (p.nodes[i]?).elim [] fun x => [(ay g.nodes x).getD 0]) (fun acc => some (g, p, ([], [], ()), ([], [], ()), (acc, [], ()), ())) [] k (fun n acc => by simp only [scarfjointref07_Extract.l0, az, cond_false]) (fun n acc i hi hacc => by
   have hx : p.nodes[i]? = some p.nodes[i] := List.getElem?_eq_getElem hi
   have hr := ok.n.ran _ (List.getElem_mem hi)
   obtain ⟨e, e1, _, _⟩ := bw hr.1 hr.2
   have hb := bn _ acc i (fun j => by cases p.nodes[j]? <;> simp) hacc (by omega)
   simp only [scarfjointref07_Extract.l0, aQ hi, cond_true, idx_some hx, e1, hx, Option.bind_some, Option.elim, Option.getD_some, List.length_cons, List.length_nil, Nat.zero_add, bB hb, wS (show i < 4611686018427387904 by omega)]) (by omega)
  rw [jk (fun x => (ay g.nodes x).getD 0), List.nil_append] at l1 l2
  have hN : (uD g p).nodes = p.nodes.map (fun x => (ay g.nodes x).getD 0) := rfl
  rw [hN]
  generalize p.nodes.map (fun x => (ay g.nodes x).getD 0) = N at *
  have l3 := jF (F := subgraph_Extract.l2 k g p [] [] [] [] N p.edges p.edges.length) p.edges.length (fun i => (p.edges[i]?).elim [] fun x => [yx g p x]) (fun acc => some (p, ([], [], ()), ([], [], ()), (N, acc, ()), ())) [] (Int.toNat (p.edges.length : Int) + 1) (fun n acc => by simp only [subgraph_Extract.l2, az, cond_false]) (fun n acc i hi hacc => by
   have hx : p.edges[i]? = some p.edges[i] := List.getElem?_eq_getElem hi
   have hr := ok.e.ran _ (List.getElem_mem hi)
   obtain ⟨e, e1, _, _⟩ := bw hr.1 hr.2
   obtain ⟨d1, d2⟩ := ok.d _ (List.getElem_mem hi) e e1
   obtain ⟨q1, q2, q3⟩ := pB (k := k) e.frm ok.n (by omega) (by omega)
   obtain ⟨r1, r2, r3⟩ := pB (k := k) e.to ok.n (by omega) (by omega)
   have hb := bn _ acc i (fun j => by cases p.edges[j]? <;> simp) hacc (by omega)
   simp only [subgraph_Extract.l2, aQ hi, cond_true, idx_some hx, e1, hx, q2, r2, q3 d1, r3 d2, yx, Option.bind_some, Option.elim, List.length_cons, List.length_nil, Nat.zero_add, bB hb, wS (show i < 4611686018427387904 by omega)]) (by omega)
  have l4 := jF (F := scarfjointref07_Extract.l2 k g p [] [] [] [] N) p.edges.length (fun i => (p.edges[i]?).elim [] fun x => [yx g p x]) (fun acc => some (p, ([], [], ()), ([], [], ()), (N, acc, ()), ())) [] k (fun n acc => by simp only [scarfjointref07_Extract.l2, az, cond_false]) (fun n acc i hi hacc => by
   have hx : p.edges[i]? = some p.edges[i] := List.getElem?_eq_getElem hi
   have hr := ok.e.ran _ (List.getElem_mem hi)
   obtain ⟨e, e1, _, _⟩ := bw hr.1 hr.2
   have hb := bn _ acc i (fun j => by cases p.edges[j]? <;> simp) hacc (by omega)
   simp only [scarfjointref07_Extract.l2, aQ hi, cond_true, idx_some hx, e1, hx, qN (k := k) (l := p.nodes) e.frm (by omega) (by omega), qN (k := k) (l := p.nodes) e.to (by omega) (by omega), yx, Option.bind_some, Option.elim, List.length_cons, List.length_nil, Nat.zero_add, bB hb, wS (show i < 4611686018427387904 by omega)]) (by omega)
  rw [jk (yx g p), List.nil_append] at l3 l4
  simp only [cond_false, l1, l2, l3, l4, Option.bind_some, jI (show p.nodes.length ≤ 1000000 by omega), jI (show p.edges.length ≤ 1000000 by omega), List.length_nil, Nat.zero_add, List.nil_append, bB (show p.nodes.length ≤ 1000000 by omega), bB (show p.edges.length ≤ 1000000 by omega), cond_true, uD, and_self]
theorem vc {g : ah} {p : eB} (hp : m7 p) : BG (uD g p) := ⟨by have := hp.n; simp [uD]; omega, by have := hp.e; simp [uD]; omega⟩
def ue (a b : ah) (i : Nat) (x : Int) : Option (Int × Unit) :=
 cond (decide (x < 0) || decide (x ≥ (b.nodes.length : Int))) (some (6, ())) (cond ((ay b.nodes x).getD 0 != (a.nodes[i]?).getD 0) (some (13, ())) none)
def u0 (a b : ah) (m : aP) (i : Nat) (x : Int) : Option (Int × Unit) :=
 cond (decide (x < 0) || decide (x ≥ (b.edges.length : Int))) (some (6, ())) (match a.edges[i]?, ay b.edges x with
  | some e, some f => cond (e.typ != f.typ) (some (13, ())) (cond ((ay m.nodes e.frm).getD 0 != f.frm || (ay m.nodes e.to).getD 0 != f.to) (some (11, ())) none)
  | _, _ => none)
def ld (a b : ah) (m : aP) : Int :=
 cond (lj a != 0) (lj a) (cond (lj b != 0) (lj b) (cond (((m.nodes.length : Int) != (a.nodes.length : Int)) || ((m.edges.length : Int) != (a.edges.length : Int))) 20
  (match bU (ue a b) m.nodes with | some z => z.1 | none => lk (bU (u0 a b m) m.edges))))
theorem pu {k : Nat} {a b : ah} {m : aP} (ha : BG a) (hb : BG b) (hk : 20000 < k) : morphism_Valid a b m = some (ld a b m, ()) ∧ scarfjointref06_Valid k a b m = some (ld a b m, ()) := by
 have h1 := ha.n
 have h2 := ha.e
 simp only [morphism_Valid, scarfjointref06_Valid, ld, (kn ha (show 200 < k by omega)).1, (kn ha (show 200 < k by omega)).2, (kn hb (show 200 < k by omega)).1, (kn hb (show 200 < k by omega)).2, Option.bind_some, eX, i9]
 cases h3 : (lj a != 0) with
 | true => (refine ⟨?_, ?_⟩ <;> first | rfl | trivial)
 | false =>
  cases h4 : (lj b != 0) with
  | true => (refine ⟨?_, ?_⟩ <;> first | rfl | trivial)
  | false =>
   cases h5 : (((m.nodes.length : Int) != (a.nodes.length : Int)) || ((m.edges.length : Int) != (a.edges.length : Int))) with
   | true => (refine ⟨?_, ?_⟩ <;> first | rfl | trivial)
   | false =>
    have oa := jG (show lj a = 0 by simpa using h3)
    have ob := jG (show lj b = 0 by simpa using h4)
    have hn : m.nodes.length = a.nodes.length := by simp at h5; omega
    have he : m.edges.length = a.edges.length := by simp at h5; omega
    have l1 := bS (F := morphism_Valid.l0 a b m m.nodes m.nodes.length) m.nodes (a, b, m, ()) (ue a b) (Int.toNat (m.nodes.length : Int) + 1) (fun n => by simp only [morphism_Valid.l0, az, cond_false]) (fun n i x hx _ => by
     have hi := aL hx
     have hy : a.nodes[i]? = some a.nodes[i] := List.getElem?_eq_getElem (by omega)
     simp only [morphism_Valid.l0, ue, aQ hi, cond_true, idx_some hx, idx_some hy, hy, Option.bind_some, Option.getD_some, eX, i9, gM, jj, wS (show i < 4611686018427387904 by omega)]
     cases h6 : (decide (x < 0) || decide (x ≥ (b.nodes.length : Int))) with
     | true => rfl
     | false =>
      have : 0 ≤ x ∧ x < b.nodes.length := by simp at h6; omega
      obtain ⟨z, z1, _, _⟩ := bw this.1 this.2
      simp only [cond_false, z1, Option.bind_some, Option.getD_some]) (by omega)
    have l2 := bS (F := scarfjointref06_Valid.l0 a b m) m.nodes (a, b, m, ()) (ue a b) k (fun n => by rw [hn]; simp only [scarfjointref06_Valid.l0, az, cond_false]) (fun n i x hx _ => by
     have hi := aL hx
     have hy : a.nodes[i]? = some a.nodes[i] := List.getElem?_eq_getElem (by omega)
     simp only [scarfjointref06_Valid.l0, ue, aQ (show i < a.nodes.length by omega), cond_true, idx_some hx, idx_some hy, hy, Option.bind_some, Option.getD_some, eX, i9, gM, jj, wS (show i < 4611686018427387904 by omega)]
     cases h6 : (decide (x < 0) || decide (x ≥ (b.nodes.length : Int))) with
     | true => rfl
     | false =>
      have : 0 ≤ x ∧ x < b.nodes.length := by simp at h6; omega
      obtain ⟨z, z1, _, _⟩ := bw this.1 this.2
      simp only [cond_false, z1, Option.bind_some, Option.getD_some]) (by omega)
    have l3 := bS (F := morphism_Valid.l2 a b m m.edges m.edges.length) m.edges () (u0 a b m) (Int.toNat (m.edges.length : Int) + 1) (fun n => by simp only [morphism_Valid.l2, az, cond_false]) (fun n i x hx _ => by
     have hi := aL hx
     have hy : a.edges[i]? = some a.edges[i] := List.getElem?_eq_getElem (by omega)
     have hr := oa.edge _ (cJ hy)
     obtain ⟨u, u1, _, _⟩ := bw (l := m.nodes) (i := a.edges[i].frm) (by omega) (by omega)
     obtain ⟨v, v1, _, _⟩ := bw (l := m.nodes) (i := a.edges[i].to) (by omega) (by omega)
     simp only [morphism_Valid.l2, u0, aQ hi, cond_true, idx_some hx, idx_some hy, hy, Option.bind_some, Option.getD_some, eX, i9, gM, wS (show i < 4611686018427387904 by omega)]
     cases h6 : (decide (x < 0) || decide (x ≥ (b.edges.length : Int))) with
     | true => rfl
     | false =>
      have : 0 ≤ x ∧ x < b.edges.length := by simp at h6; omega
      obtain ⟨z, z1, _, _⟩ := bw this.1 this.2
      simp only [cond_false, z1, u1, v1, Option.bind_some, Option.getD_some, eX, i9, gM, jj]) (by omega)
    have l4 := bS (F := scarfjointref06_Valid.l2 a b m) m.edges () (u0 a b m) k (fun n => by rw [he]; simp only [scarfjointref06_Valid.l2, az, cond_false]) (fun n i x hx _ => by
     have hi := aL hx
     have hy : a.edges[i]? = some a.edges[i] := List.getElem?_eq_getElem (by omega)
     have hr := oa.edge _ (cJ hy)
     obtain ⟨u, u1, _, _⟩ := bw (l := m.nodes) (i := a.edges[i].frm) (by omega) (by omega)
     obtain ⟨v, v1, _, _⟩ := bw (l := m.nodes) (i := a.edges[i].to) (by omega) (by omega)
     simp only [scarfjointref06_Valid.l2, u0, aQ (show i < a.edges.length by omega), cond_true, idx_some hx, idx_some hy, hy, Option.bind_some, Option.getD_some, eX, i9, gM, wS (show i < 4611686018427387904 by omega)]
     cases h6 : (decide (x < 0) || decide (x ≥ (b.edges.length : Int))) with
     | true => rfl
     | false =>
      have : 0 ≤ x ∧ x < b.edges.length := by simp at h6; omega
      obtain ⟨z, z1, _, _⟩ := bw this.1 this.2
      simp only [cond_false, z1, u1, v1, Option.bind_some, Option.getD_some, eX, i9, gM, jj]) (by omega)
    simp only [cond_false, l1, l2, Option.bind_some]
    cases bU (ue a b) m.nodes with
    | some z => (refine ⟨?_, ?_⟩ <;> first | rfl | trivial)
    | none =>
     simp only [Option.elim, aG, l3, l4, Option.bind_some]
     cases bU (u0 a b m) m.edges <;> (refine ⟨?_, ?_⟩ <;> first | rfl | trivial)
end Go.Ev.Pl
end
section
set_option linter.unusedVariables false
namespace Go.Ev.Pl
def kp (s : List Int) (i : Nat) : List Int := match s[i]? with | none => [] | some x => if 0 < i ∧ s[i - 1]? = some x then [] else [x]
def fG (s : List Int) (m : Nat) : List Int := (List.range m).flatMap (kp s)
theorem jf (s : List Int) (m : Nat) : fG s (m + 1) = fG s m ++ kp s m := by simp [fG, List.range_succ, List.flatMap_append]
theorem vL (s : List Int) (i : Nat) : (kp s i).length ≤ 1 := by
 unfold kp; cases s[i]? with
 | none => simp
 | some x => dsimp only; split <;> simp
theorem vk (s : List Int) (m : Nat) : (fG s m).length ≤ m := by
 have := fi (vL s) m; simpa [fG] using this
theorem kt {s : List Int} {i0 : Nat} (hN : s.length ≤ 1000000) (hi0 : i0 < s.length) : ∀ (c j fuel : Nat) (q0 : List Int) (kk : Nat), s.length - i0 - j = c → 1 ≤ j → j ≤ s.length - i0 → s.length - i0 - j < fuel → q0.length = s.length →
  (∀ p, i0 + j - 1 ≤ p → q0[p]? = s[p]?) → kk ≤ i0 + j - 1 → q0.take kk = fG s (i0 + j) → kk = (fG s (i0 + j)).length →
  ∃ q, slices_Compact_lint.l2 fuel q0 kk i0 s.length j = some (q, ((fG s s.length).length : Int), ()) ∧ q.length = s.length ∧ q.take (fG s s.length).length = fG s s.length
 | c, j, 0, q0, kk, _, _, _, h, _, _, _, _, _ => by omega
 | c, j, fuel + 1, q0, kk, hc, hj1, hj, hf, hl, hp, hk, ht, hkl => by
  by_cases e : j = s.length - i0
  ·subst e
   have e1 : i0 + (s.length - i0) = s.length := by omega
   rw [e1] at ht hkl
   refine ⟨q0, ?_, hl, by rw [← hkl]; exact ht⟩
   simp only [slices_Compact_lint.l2, Int.toNat_natCast, az, cond_false, ← hkl]
  ·have hlt : j < s.length - i0 := by omega
   have hx : q0[i0 + j]? = some s[i0 + j] := by rw [hp _ (by omega)]; exact List.getElem?_eq_getElem (by omega)
   have hs1 : s[i0 + j]? = some s[i0 + j] := List.getElem?_eq_getElem (by omega)
   have hy : q0[i0 + (j - 1)]? = some s[i0 + (j - 1)] := by rw [hp _ (by omega)]; exact List.getElem?_eq_getElem (by omega)
   have hs2 : s[i0 + j - 1]? = some s[i0 + (j - 1)] := by rw [show i0 + j - 1 = i0 + (j - 1) by omega]; exact List.getElem?_eq_getElem (by omega)
   have ew : IntKind.i64.wrap ((j : Int) - 1) = ((j - 1 : Nat) : Int) := by rw [jC (by omega) (by omega)]; omega
   have hsu := jf s (i0 + j)
   simp only [slices_Compact_lint.l2, Int.toNat_natCast, aQ hlt, aQ (show j - 1 < s.length - i0 by omega), iv, ew, sw (show s.length ≤ q0.length by omega), Bool.and_true, cond_true, fD hx, fD hy, Option.bind_some, wS (show j < 4611686018427387904 by omega), wS (show kk < 4611686018427387904 by omega)]
   by_cases hne : s[i0 + j] = s[i0 + (j - 1)]
   ·have e2 : (s[i0 + j] != s[i0 + (j - 1)]) = false := by simp [hne]
    have e3 : kp s (i0 + j) = [] := by simp only [kp, hs1, hs2]; rw [if_pos ⟨by omega, by rw [hne]⟩]
    rw [e3, List.append_nil] at hsu
    rw [e2, cond_false]
    exact kt hN hi0 (c - 1) (j + 1) fuel q0 kk (by omega) (by omega) (by omega) (by omega) hl (fun p h => hp p (by omega)) (by omega) (by rw [show i0 + (j + 1) = i0 + j + 1 by omega, hsu]; exact ht) (by rw [show i0 + (j + 1) = i0 + j + 1 by omega, hsu]; exact hkl)
   ·have e2 : (s[i0 + j] != s[i0 + (j - 1)]) = true := by simp [hne]
    have e3 : kp s (i0 + j) = [s[i0 + j]] := by
     simp only [kp, hs1, hs2]
     rw [if_neg]; rintro ⟨_, h⟩; exact hne (Option.some.inj h).symm
    rw [e3] at hsu
    have hkl' : kk < q0.length := by omega
    have hz : q0[kk]? = some q0[kk] := List.getElem?_eq_getElem hkl'
    rw [e2, cond_true]
    simp only [aQ hkl', iv, Bool.and_true, cond_true, fD hz, Option.bind_some]
    refine kt hN hi0 (c - 1) (j + 1) fuel (q0.set kk s[i0 + j]) (kk + 1) (by omega) (by omega) (by omega) (by omega) (by simpa using hl) (fun p h => ?_) (by omega) ?_ (by rw [show i0 + (j + 1) = i0 + j + 1 by omega, hsu]; simp [← hkl])
    ·rw [List.getElem?_set_ne (by omega)]; exact hp p (by omega)
    ·rw [show i0 + (j + 1) = i0 + j + 1 by omega, hsu, ← ht, List.take_add_one]
     rw [List.take_set, List.set_eq_of_length_le (by simp; omega)]
     simp [hkl']
theorem nq {k : Nat} {s : List Int} (hN : s.length ≤ 1000000) (hk : s.length < k) : ∀ (c i fuel : Nat), s.length - i = c → 1 ≤ i → i ≤ s.length → s.length - i < fuel → fG s i = s.take i →
  ∃ o, slices_Compact_lint.l0 k s fuel i = some o ∧ ((o = .inl (s, ()) ∧ fG s s.length = s) ∨ ∃ r, o = .inr (r, (((0 : Nat) : Int), (((fG s s.length).length : Nat) : Int)), ()) ∧ r.take (fG s s.length).length = fG s s.length)
 | c, i, 0, _, _, _, h, _ => by omega
 | c, i, fuel + 1, hc, h1, hi, hf, ht => by
  by_cases e : i = s.length
  ·subst e
   refine ⟨.inl (s, ()), by simp only [slices_Compact_lint.l0, az, cond_false], .inl ⟨rfl, ?_⟩⟩
   rw [ht]; simp
  ·have hlt : i < s.length := by omega
   have hx : s[i]? = some s[i] := List.getElem?_eq_getElem hlt
   have hy : s[i - 1]? = some s[i - 1] := List.getElem?_eq_getElem (by omega)
   have ew : IntKind.i64.wrap ((i : Int) - 1) = ((i - 1 : Nat) : Int) := by rw [jC (by omega) (by omega)]; omega
   have hsu := jf s i
   simp only [slices_Compact_lint.l0, Int.toNat_natCast, aQ hlt, aQ (show i - 1 < s.length by omega), iv, ew, mv hi, mv (Nat.le_refl s.length), Bool.and_true, cond_true, fD hx, fD hy, Option.bind_some, wS (show i < 4611686018427387904 by omega)]
   by_cases he : s[i] = s[i - 1]
   ·have e2 : (s[i] == s[i - 1]) = true := by simp [he]
    have e3 : kp s i = [] := by simp only [kp, hx, hy]; rw [if_pos ⟨by omega, by rw [he]⟩]
    rw [e3, List.append_nil] at hsu
    obtain ⟨q, q1, q2, q3⟩ := kt hN hlt (s.length - i - 1) 1 k s i (by omega) (by omega) (by omega) (by omega) rfl (fun p _ => rfl) (by omega) (by rw [hsu, ht]) (by rw [hsu, ht]; simp; omega)
    have hm := vk s s.length
    rw [show ((1 : Nat) : Int) = 1 from rfl] at q1
    rw [e2, cond_true, q1]
    generalize (fG s s.length).length = m at *
    have e5 : (nH q m (List.replicate (s.length - m) (0 : Int))).length = s.length := by simp [nH]; omega
    simp only [Option.bind_some, q2, iv, mv hm, mv (Nat.le_refl s.length), sw hm, sw (Nat.le_refl s.length), yt, Bool.and_true, cond_true, Int.toNat_natCast, e5]
    refine ⟨_, rfl, .inr ⟨_, rfl, ?_⟩⟩
    rw [nH, List.append_assoc, List.take_append_of_le_length (by simp; omega), List.take_take, Nat.min_self, q3]
   ·have e2 : (s[i] == s[i - 1]) = false := by simp [he]
    have e3 : kp s i = [s[i]] := by
     simp only [kp, hx, hy]
     rw [if_neg]; rintro ⟨_, h⟩; exact he (Option.some.inj h).symm
    rw [e3] at hsu
    rw [e2, cond_false]
    exact nq hN hk (c - 1) (i + 1) fuel (by omega) (by omega) (by omega) (by omega) (by rw [hsu, ht, List.take_add_one, hx]; rfl)
theorem nB {k : Nat} {s : List Int} (hN : s.length ≤ 1000000) (hk : s.length < k) :
  ∃ r, slices_Compact_lint k s = some (r, (0, ((fG s s.length).length : Int)), ()) ∧ r.take (fG s s.length).length = fG s s.length := by
 rw [slices_Compact_lint]
 by_cases h : s.length < 2
 ·have h' : (s.length : Int) < 2 := by omega
  have : fG s s.length = s := by
   match s, h with
   | [], _ => rfl
   | [x], _ => rfl
  simp only [h', decide_true, cond_true, this]
  exact ⟨_, rfl, by simp⟩
 ·have h' : ¬ ((s.length : Int) < 2) := by omega
  have h1 : fG s 1 = s.take 1 := by
   match s, h with
   | x :: _, _ => rfl
   | [], h => exact absurd (by simp) h
  obtain ⟨o, o1, o2⟩ := nq hN hk (s.length - 1) 1 k rfl (by omega) (by omega) (by omega) h1
  rw [show ((1 : Nat) : Int) = 1 from rfl] at o1
  simp only [h', decide_false, cond_false, o1, Option.bind_some]
  rcases o2 with ⟨rfl, o3⟩ | ⟨r, rfl, o3⟩
  ·simp only [aG, o3]; exact ⟨_, rfl, by simp⟩
  ·exact ⟨r, by simp only [aG, Int.toNat_natCast]; rfl, o3⟩
theorem lp (s : List Int) : ∀ m, m ≤ s.length → (fG s m).Sublist (s.take m)
 | 0, _ => by simp [fG]
 | m + 1, h => by
  have hx : s[m]? = some s[m] := List.getElem?_eq_getElem (by omega)
  rw [jf, List.take_add_one, hx]
  refine (lp s m (by omega)).append ?_
  simp only [kp, hx]
  split <;> simp
theorem vw {s : List Int} {x : Int} (h : x ∈ s) : x ∈ fG s s.length := by
 obtain ⟨i, hi, rfl⟩ := List.getElem_of_mem h
 suffices H : ∀ n, n ≤ i → s[n]? = some s[i] → s[i] ∈ fG s s.length from H i (Nat.le_refl _) (List.getElem?_eq_getElem hi)
 intro n
 induction n with
 | zero =>
  intro _ hx
  refine List.mem_flatMap.2 ⟨0, by simp; omega, ?_⟩
  simp [kp, hx]
 | succ n ih =>
  intro hn hx
  by_cases e : s[n]? = some s[i]
  ·exact ih (by omega) e
  ·refine List.mem_flatMap.2 ⟨n + 1, by simp; omega, ?_⟩
   simp [kp, hx, e]
theorem nE {s : List Int} (hs : s.Pairwise (· ≤ ·)) : ∀ m, m ≤ s.length → (fG s m).Pairwise (· < ·)
 | 0, _ => by simp [fG]
 | m + 1, h => by
  have hx : s[m]? = some s[m] := List.getElem?_eq_getElem (by omega)
  rw [jf, List.pairwise_append]
  refine ⟨nE hs m (by omega), ?_, fun a ha b hb => ?_⟩
  ·have := vL s m
   match hk : kp s m, this with
   | [], _ => simp
   | [y], _ => simp
  ·simp only [kp, hx] at hb
   split at hb
   ·simp at hb
   ·rename_i hn
    simp at hb
    subst hb
    have ha' := (lp s m (by omega)).subset ha
    obtain ⟨j, hj, rfl⟩ := List.getElem_of_mem ha'
    have hjm : j < m := by have := hj; simp at this; omega
    simp only [List.getElem_take]
    have hp := List.pairwise_iff_getElem.1 hs
    have h1 := hp (m - 1) m (by omega) (by omega) (by omega)
    have h2 : s[m - 1] ≠ s[m] := fun e => hn ⟨by omega, by rw [List.getElem?_eq_getElem (by omega), e]⟩
    by_cases e : j = m - 1
    ·subst e; omega
    ·have := hp j (m - 1) (by omega) (by omega) (by omega); omega
theorem rL {s : List Int} (hs : s.Pairwise (· ≤ ·)) : (fG s s.length).length = s.length ↔ s.Nodup := by
 have hsub := lp s s.length (Nat.le_refl _)
 rw [List.take_length] at hsub
 constructor
 ·intro h
  have := hsub.eq_of_length h
  have hp := nE hs s.length (Nat.le_refl _)
  rw [this] at hp
  exact hp.imp fun h => Int.ne_of_lt h
 ·intro h
  have : ∀ m, m ≤ s.length → fG s m = s.take m := by
   intro m
   induction m with
   | zero => intro _; simp [fG]
   | succ m ih =>
    intro hm
    have hx : s[m]? = some s[m] := List.getElem?_eq_getElem (by omega)
    rw [jf, List.take_add_one, hx, ih (by omega)]
    congr 1
    simp only [kp, hx]
    rw [if_neg]
    ·rfl
    ·rintro ⟨h1, h2⟩
     have hy : s[m - 1]? = some s[m - 1] := List.getElem?_eq_getElem (by omega)
     rw [hy] at h2
     have := List.pairwise_iff_getElem.1 h (m - 1) m (by omega) (by omega) (by omega)
     exact this (Option.some.inj h2)
  rw [this _ (Nat.le_refl _)]; simp
def dst (l : List Int) : Bool := decide l.Nodup
theorem oE {k : Nat} {l : List Int} (hl : l.length ≤ 1000) (hk : 20000 < k) : ∃ m : Nat, cX k l = some ((m : Int), ()) ∧ ((m : Int) == (l.length : Int)) = dst l := by
 have hp := gB l
 have hlen := hp.length_eq
 obtain ⟨r, r1, r2⟩ := nB (k := k) (s := cF l) (by omega) (by omega)
 refine ⟨(fG (cF l) (cF l).length).length, ?_, ?_⟩
 ·simp only [cX, jI (show l.length ≤ 1000000 by omega), slices_Sort_int, bB (show l.length ≤ 1000000 by omega), cond_true, Option.bind_some, r1, Int.toNat_natCast, show Int.toNat 0 = 0 from rfl, Nat.sub_zero]
 ·have h := rL (la l)
  rw [hp.nodup_iff] at h
  rw [dst, Bool.eq_iff_iff, decide_eq_true_iff, ← h]
  simp; omega
theorem iO {k : Nat} {l : List Int} (hl : l.length ≤ 1000) (hk : 20000 < k) : scarfjointref06_Distinct k l = some (dst l, ()) := by
 have l1 := bS (F := fun n i => scarfjointref06_Distinct.l0 k n l i) l () (fun i x => cond ((l.take i).any (x == ·)) (some (false, ())) none) k (fun n => by simp only [scarfjointref06_Distinct.l0, az, cond_false]) (fun n i x hx _ => by
  have hi := aL hx
  have l2 := ou (F := scarfjointref06_Distinct.l2 l i) l i (l, (i : Int), ()) (false, ()) (x == ·) k (by omega) (fun n => by simp only [scarfjointref06_Distinct.l2, az, cond_false]) (fun n j y hj hy => by
   simp only [scarfjointref06_Distinct.l2, aQ hj, cond_true, idx_some hy, idx_some hx, Option.bind_some, wS (show j < 4611686018427387904 by omega)]) (by omega)
  simp only [scarfjointref06_Distinct.l0, aQ hi, cond_true, l2, Option.bind_some]
  cases (l.take i).any (x == ·) <;> simp only [cond_true, cond_false, aG, Option.elim, wS (show i < 4611686018427387904 by omega)]) (by omega)
 have key : bU (fun i x => cond ((l.take i).any (x == ·)) (some ((false, ()) : Bool × Unit)) none) l = cond (dst l) none (some (false, ())) := by
  cases hf : bU (fun i x => cond ((l.take i).any (x == ·)) (some ((false, ()) : Bool × Unit)) none) l with
  | none =>
   rw [eJ] at hf
   have : l.Nodup := List.pairwise_iff_getElem.2 fun i j hi hj hij e => by
    have := hf j _ (List.getElem?_eq_getElem hj)
    have h2 : (l.take j).any (l[j] == ·) = true := List.any_eq_true.2 ⟨l[i], by rw [List.mem_take_iff_getElem]; exact ⟨i, by omega, rfl⟩, by simp [e]⟩
    rw [h2] at this; cases this
   simp [dst, this]
  | some z =>
   obtain ⟨j, _, _, j3, _⟩ := dy hf
   obtain ⟨x, hx, j5⟩ := Option.bind_eq_some_iff.1 j3
   dsimp only at j5
   cases h2 : (l.take j).any (x == ·) with
   | false => rw [h2] at j5; cases j5
   | true =>
    rw [h2] at j5; cases j5
    have : ¬ l.Nodup := fun hn => by
     obtain ⟨y, hy, hxy⟩ := List.any_eq_true.1 h2
     obtain ⟨i, hi, rfl⟩ := List.mem_take_iff_getElem.1 hy
     obtain ⟨hj, rfl⟩ := List.getElem?_eq_some_iff.1 hx
     exact List.pairwise_iff_getElem.1 hn i j (by omega) hj (by omega) (by simpa using hxy : l[j] = l[i]).symm
    simp [dst, this]
 rw [scarfjointref06_Distinct, l1, key]
 cases dst l <;> rfl
end Go.Ev.Pl
end
section
set_option linter.unusedVariables false
namespace Go.Ev.Pl
def kZ (l : List Int) (i : Nat) : List Int := cond (!(l.any ((i : Int) == ·))) [(i : Int)] []
def lr (l : List Int) (n : Nat) : List Int := (List.range n).flatMap (kZ l)
theorem oA (l : List Int) (i : Nat) : (kZ l i).length ≤ 1 := by unfold kZ; cases l.any ((i : Int) == ·) <;> simp
theorem eh (l : List Int) (n : Nat) : (lr l n).length ≤ n := by have := fi (oA l) n; simpa [lr] using this
theorem cG {l : List Int} {n : Nat} {x : Int} (h : x ∈ lr l n) : 0 ≤ x ∧ x < n := by
 obtain ⟨i, hi, hx⟩ := List.mem_flatMap.1 h
 unfold kZ at hx
 cases ha : l.any ((i : Int) == ·) <;> simp [ha] at hx
 subst hx; simp at hi; omega
theorem iQ {k : Nat} {l : List Int} {n : Nat} (hl : l.length ≤ 1000) (hn : n ≤ 1000) (hk : 20000 < k) : rule_others l n = some (lr l n, ()) ∧ scarfjointref24_rest k n l = some (lr l n, ()) := by
 have bn : ∀ (acc : List Int) (i : Nat), acc = [] ++ (List.range i).flatMap (kZ l) → i ≤ 1000 → acc.length + 1 ≤ 1000000 := fun acc i hacc hi => by
  have := fi (oA l) i; rw [List.nil_append] at hacc; subst hacc; omega
 have l1 := jF (F := rule_others.l0 l n) n (kZ l) (fun acc => some (acc, ())) [] (Int.toNat (n : Int) + 1) (fun m acc => by simp only [rule_others.l0, az, cond_false]) (fun m acc i hi hacc => by
  simp only [rule_others.l0, kZ, aQ hi, cond_true, tP (l := l) (i : Int) (cO hl (by omega)), Option.bind_some, List.length_cons, List.length_nil, Nat.zero_add, bB (bn acc i hacc (by omega)), wS (show i < 4611686018427387904 by omega)]
  cases l.any ((i : Int) == ·) <;> simp) (by omega)
 have l2 := jF (F := scarfjointref24_rest.l0 k n l) n (kZ l) (fun acc => some (acc, ())) [] k (fun m acc => by simp only [scarfjointref24_rest.l0, az, cond_false]) (fun m acc i hi hacc => by
  simp only [scarfjointref24_rest.l0, kZ, aQ hi, cond_true, (rG (k := k) (l := l) (i : Int) (by omega) (by omega)).2, Option.bind_some, List.length_cons, List.length_nil, Nat.zero_add, bB (bn acc i hacc (by omega)), wS (show i < 4611686018427387904 by omega)]
  cases l.any ((i : Int) == ·) <;> simp) (by omega)
 exact ⟨by rw [rule_others, l1]; rfl, by rw [scarfjointref24_rest, l2]; rfl⟩
def qg : Nat → ad → Int → List Int
 | 0, _, _ => []
 | n + 1, t, a => cond (decide (a < 0)) [] (match ay t.nodes a with | some x => a :: qg n t x.parent | none => [])
def oN (t : ad) (a : Int) : List Int := qg 32 t a
theorem sT (t : ad) : ∀ n a, (qg n t a).length ≤ n
 | 0, a => by simp [qg]
 | n + 1, a => by
  rw [qg]
  cases decide (a < 0) with
  | true => simp
  | false =>
   rw [cond_false]
   cases h : ay t.nodes a with
   | none => simp
   | some x => have := sT t n x.parent; simp; omega
theorem tC {t : ad} (ht : ug t) : ∀ (m fuel n : Nat) (a : Int) (acc : List Int), -1 ≤ a → a < m → a < t.nodes.length → m < fuel → m < n → acc.length + m ≤ 1000 →
  types_line.l0 t fuel a acc = some (acc ++ qg n t a, ())
 | m, 0, n, a, acc, _, _, _, h, _, _ => by omega
 | m, fuel + 1, 0, a, acc, _, _, _, _, h, _ => by omega
 | m, fuel + 1, n + 1, a, acc, h1, h2, h3, h4, h5, h6 => by
  by_cases h0 : a ≥ 0
  ·obtain ⟨x, x1, x2, x3⟩ := bw h0 h3
   have hn : ¬ a < 0 := by omega
   have hp := ht.par a.toNat x x2
   match m, h2 with
   | 0, h2 => omega
   | m + 1, h2 =>
    simp only [types_line.l0, qg, h0, hn, decide_true, decide_false, cond_true, cond_false, x1, Option.bind_some, List.length_cons, List.length_nil, Nat.zero_add, bB (show acc.length + 1 ≤ 1000000 by omega)]
    rw [tC ht m fuel n x.parent (acc ++ [a]) (by omega) (by omega) (by omega) (by omega) (by omega) (by simp; omega)]
    simp
  ·have hn : a < 0 := by omega
   simp [types_line.l0, qg, h0, hn]
theorem ns : ∀ (fuel : Nat) (q : List Int) (i : Nat) (j : Int), j < q.length → j - i < fuel → j ≤ 1000 → ∃ r, slices_Reverse_lint.l0 (fuel + 1) q i j = some (r, ()) ∧ r.Perm q
 | fuel, q, i, j, hj, hf, hs => by
  by_cases h : (i : Int) < j
  ·obtain ⟨b, rfl⟩ : ∃ b : Nat, j = b := ⟨j.toNat, by omega⟩
   match fuel, hf with
   | 0, hf => omega
   | fuel + 1, hf =>
    have hb : b < q.length := by omega
    have hi : i < q.length := by omega
    have hy : q[b]? = some q[b] := List.getElem?_eq_getElem hb
    have hx : q[i]? = some q[i] := List.getElem?_eq_getElem hi
    have hz : (q.set i q[b])[b]? = some q[b] := by rw [List.getElem?_set_ne (by omega)]; exact hy
    have ew : IntKind.i64.wrap ((b : Int) - 1) = (b : Int) - 1 := jC (by omega) (by omega)
    have hl : (q.set i q[b]).length = q.length := by simp
    have hd : decide ((i : Int) < (b : Int)) = true := decide_eq_true h
    rw [slices_Reverse_lint.l0]
    simp only [hd, aQ hi, aQ hb, hl, iv, Bool.and_true, cond_true, Int.toNat_natCast, fD hy, fD hx, fD hz, Option.bind_some, ew, wS (show i < 4611686018427387904 by omega)]
    obtain ⟨r, r1, r2⟩ := ns fuel ((q.set i q[b]).set b q[i]) (i + 1) ((b : Int) - 1) (by simp; omega) (by omega) (by omega)
    exact ⟨r, r1, r2.trans (List.set_set_perm hi hb)⟩
  ·exact ⟨q, by simp [slices_Reverse_lint.l0, h], List.Perm.refl _⟩
theorem s8 {k : Nat} {q : List Int} (hq : q.length ≤ 1000) (hk : 20000 < k) : ∃ r, slices_Reverse_lint k q = some (r, ()) ∧ r.Perm q := by
 have ew : IntKind.i64.wrap ((q.length : Int) - 1) = (q.length : Int) - 1 := jC (by omega) (by omega)
 obtain ⟨k, rfl⟩ : ∃ k', k = k' + 1 := ⟨k - 1, by omega⟩
 obtain ⟨r, r1, r2⟩ := ns k q 0 ((q.length : Int) - 1) (by omega) (by omega) (by omega)
 rw [show ((0 : Nat) : Int) = 0 from rfl] at r1
 exact ⟨r, by rw [slices_Reverse_lint, ew, r1]; rfl, r2⟩
def pX (t : ad) (a b : Int) : Bool := (oN t a).any (b == ·)
theorem xG {k : Nat} {t : ad} (ht : ug t) (hk : 20000 < k) {a : Int} (ha : kj t a = true) (b : Int) : iz k t a b = some (pX t a b, ()) := by
 simp [kj] at ha
 have hn := ht.n
 have hl := sT t 32 a
 obtain ⟨r, r1, r2⟩ := s8 (k := k) (q := oN t a) (by simp only [oN]; omega) hk
 have e := tC ht 31 k 32 a [] (by omega) (by omega) (by omega) (by omega) (by omega) (by simp)
 rw [List.nil_append] at e
 rw [oN] at r1 r2
 have hr := r2.length_eq
 simp only [iz, types_line, e, Option.bind_some, r1, tP (l := r) b (cO (m := 1000) (by omega) (by omega)), pX, oN]
 congr 2
 rw [Bool.eq_iff_iff, List.any_eq_true, List.any_eq_true]
 constructor
 ·rintro ⟨x, h1, h2⟩; exact ⟨x, r2.mem_iff.1 h1, h2⟩
 ·rintro ⟨x, h1, h2⟩; exact ⟨x, r2.mem_iff.2 h1, h2⟩
theorem tc {t : ad} (ht : ug t) {b : Int} (hb : 0 ≤ b) : ∀ (m fuel n : Nat) (a : Int), -1 ≤ a → a < m → a < t.nodes.length → m < fuel → m < n → aq fuel t a b = some ((qg n t a).any (b == ·), ())
 | m, 0, n, a, _, _, _, h, _ => by omega
 | m, fuel + 1, 0, a, _, _, _, _, h => by omega
 | m, fuel + 1, n + 1, a, h1, h2, h3, h4, h5 => by
  by_cases h0 : a ≥ 0
  ·obtain ⟨x, x1, x2, x3⟩ := bw h0 h3
   have hn : ¬ a < 0 := by omega
   have hp := ht.par a.toNat x x2
   match m, h2 with
   | 0, h2 => omega
   | m + 1, h2 =>
    simp only [aq, qg, h0, hn, decide_true, decide_false, cond_true, cond_false, x1, Option.bind_some]
    rw [tc ht hb m fuel n x.parent (by omega) (by omega) (by omega) (by omega) (by omega)]
    simp only [Option.bind_some, eX, i9, List.any_cons]
    congr 2
    congr 1
    rw [Bool.eq_iff_iff]; simp; exact eq_comm
  ·have hn : a < 0 := by omega
   have hab : (a == b) = false := by simp; omega
   simp [aq, qg, h0, hn, hab]
theorem nu {k : Nat} {t : ad} (ht : ug t) (hk : 20000 < k) {a b : Int} (ha : kj t a = true) (hb : 0 ≤ b) : aq k t a b = some (pX t a b, ()) := by
 simp [kj] at ha
 have hn := ht.n
 exact tc ht hb 31 k 32 a (by omega) (by omega) (by omega) (by omega) (by omega)
def xe (t : ad) (e a b : Int) : Bool :=
 (kj t a && kj t b && (decide (e ≥ 0) && decide (e < (t.edges.length : Int)))) && match ay t.edges e with | some x => pX t a x.frm && pX t b x.to | none => false
theorem vC {k : Nat} {t : ad} (ht : ug t) (h0 : jA t = 0) (hk : 20000 < k) (e a b : Int) : gA k t e a b = some (xe t e a b, ()) ∧ ce k t e a b = some (xe t e a b, ()) := by
 have hn := ht.e
 have e7 : IntKind.i64.wrap ((t.edges.length : Int) - 1) = (t.edges.length : Int) - 1 := jC (by omega) (by omega)
 have e8 : decide (e ≤ (t.edges.length : Int) - 1) = decide (e < (t.edges.length : Int)) := decide_eq_decide.2 (by omega)
 have e9 : (decide (e < 0) || decide (e ≥ (t.edges.length : Int))) = !(decide (e ≥ 0) && decide (e < (t.edges.length : Int))) := by rw [Bool.eq_iff_iff]; simp <;> omega
 simp only [gA, ce, ag, qY ht.b (show 2000 < k by omega) [a, b] (by simp), lD ht.b (show 2000 < k by omega) a b, h0, bne_self_eq_false, cond_false, Option.bind_some, eX, i9, kf, e7, e8, e9, List.any_cons, List.any_nil, Bool.or_false, xe]
 cases ha : kj t a with
 | false => (refine ⟨?_, ?_⟩ <;> first | rfl | trivial)
 | true =>
  cases hb : kj t b with
  | false => (refine ⟨?_, ?_⟩ <;> first | rfl | trivial)
  | true =>
   cases he : (decide (e ≥ 0) && decide (e < (t.edges.length : Int))) with
   | false => (refine ⟨?_, ?_⟩ <;> first | rfl | trivial)
   | true =>
    have : 0 ≤ e ∧ e < t.edges.length := by simp at he; omega
    obtain ⟨x, x1, x2, x3⟩ := bw this.1 this.2
    have hx := ht.edge _ x x2
    simp only [x1, Option.bind_some, xG ht hk ha, xG ht hk hb, nu ht hk ha hx.1, nu ht hk hb hx.2.2.1, eX, kf, Bool.not_true, Bool.or_self, bne_self_eq_false, cond_false, Bool.and_self, Bool.true_and, and_self]
def se (t : ad) (g : ah) (i : Int) : Bool := match ay g.nodes i with | some x => (match ay t.nodes x with | some n => n.abstract | none => false) | none => false
def sq (t : ad) (g : ah) (i : Int) : Bool := match ay g.edges i with | some x => xe t x.typ ((ay g.nodes x.frm).getD 0) ((ay g.nodes x.to).getD 0) | none => false
def v7 (t : ad) (g : ah) (nodes edges : List Int) : Bool := !nodes.any (se t g) && !edges.any fun i => !sq t g i
theorem y0 {k : Nat} {t : ad} {g : ah} (h : jS t g) {nodes edges : List Int} (hn : ∀ x ∈ nodes, 0 ≤ x ∧ x < g.nodes.length) (he : ∀ x ∈ edges, 0 ≤ x ∧ x < g.edges.length) (ln : nodes.length ≤ 1000) (le : edges.length ≤ 1000) (hk : 20000 < k) :
  fx k t g nodes edges = some (v7 t g nodes edges, ()) ∧ scarfjointref24_proper k t g nodes edges = some (v7 t g nodes edges, ()) := by
 have N : ∀ x ∈ nodes, ∃ a b, ay g.nodes x = some a ∧ ay t.nodes a = some b := fun x hx => by
  obtain ⟨a, a1, _, a3⟩ := bw (hn x hx).1 (hn x hx).2
  have := lz h a3
  simp [kj] at this
  obtain ⟨b, b1, _, _⟩ := bw this.1 this.2
  exact ⟨a, b, a1, b1⟩
 have X : ∀ x ∈ edges, ∃ e a b, ay g.edges x = some e ∧ ay g.nodes e.frm = some a ∧ ay g.nodes e.to = some b := fun x hx => by
  obtain ⟨e, e1, _, e3⟩ := bw (he x hx).1 (he x hx).2
  have := h.gr.edge e e3
  obtain ⟨a, a1, _, _⟩ := bw (l := g.nodes) (i := e.frm) (by omega) (by omega)
  obtain ⟨b, b1, _, _⟩ := bw (l := g.nodes) (i := e.to) (by omega) (by omega)
  exact ⟨e, a, b, e1, a1, b1⟩
 constructor
 ·have c1 := bz (l := nodes) (q := fun z1 => ec z1.1 t g) (p := se t g) (fun x hx => by
   obtain ⟨a, b, a1, b1⟩ := N x hx
   simp only [ec, se, a1, b1, Option.bind_some]) (cO ln (by omega))
  have c2 := bz (l := edges) (q := fun z3 => ez k z3.1 g t) (p := fun i => !sq t g i) (fun x hx => by
   obtain ⟨e, a, b, e1, a1, b1⟩ := X x hx
   simp only [ez, sq, e1, a1, b1, Option.bind_some, (vC h.ok h.e hk _ _ _).1, Option.getD_some]) (cO le (by omega))
  simp only [fx, kx, c1, c2, Option.bind_some, eX, kf, v7]
 ·have l1 := bS (F := scarfjointref24_proper.l0 nodes edges t g) nodes (edges, t, g, ()) (fun _ x => cond (se t g x) (some (false, ())) none) k (fun n => by simp only [scarfjointref24_proper.l0, az, cond_false]) (fun n i x hx _ => by
   obtain ⟨a, b, a1, b1⟩ := N x (cJ hx)
   simp only [scarfjointref24_proper.l0, se, aQ (aL hx), cond_true, idx_some hx, a1, b1, Option.bind_some, cS, wS (show i < 4611686018427387904 by have := aL hx; omega)]) (by omega)
  have l2 := bS (F := scarfjointref24_proper.l2 k edges t g) edges () (fun _ x => cond (!sq t g x) (some (false, ())) none) k (fun n => by simp only [scarfjointref24_proper.l2, az, cond_false]) (fun n i x hx _ => by
   obtain ⟨e, a, b, e1, a1, b1⟩ := X x (cJ hx)
   simp only [scarfjointref24_proper.l2, sq, aQ (aL hx), cond_true, idx_some hx, e1, a1, b1, Option.bind_some, (vC h.ok h.e hk _ _ _).2, Option.getD_some, cS, wS (show i < 4611686018427387904 by have := aL hx; omega)]) (by omega)
  rw [bH (se t g)] at l1
  rw [bH (fun x => !sq t g x)] at l2
  simp only [scarfjointref24_proper, l1, Option.bind_some, fF, v7]
  cases nodes.any (se t g) with
  | true => rfl
  | false =>
   simp only [cond_false, aG, l2, Option.bind_some, fF]
   cases edges.any (fun x => !sq t g x) <;> rfl
def qO (r : aH) : Int :=
 cond (kG r.left.graph r.keep != 0) (kG r.left.graph r.keep) (cond (ld (uD r.left.graph r.keep) r.right.graph r.into != 0) (ld (uD r.left.graph r.keep) r.right.graph r.into)
  (cond (!(dst r.into.nodes && dst r.into.edges)) 11 0))
theorem xL (g : ah) : (⟨g.nodes, g.edges⟩ : ah) = g := rfl
structure BM (m : aP) : Prop where
 n : m.nodes.length ≤ 140
 e : m.edges.length ≤ 140
theorem vx {k : Nat} {a b : ah} {m : aP} (ha : BG a) (hb : BG b) (hm : BM m) (h0 : ld a b m = 0) (hk : 20000 < k) : bP k a b m = some (dst m.nodes && dst m.edges, ()) := by
 have h1 := hm.n
 have h2 := hm.e
 obtain ⟨p, p1, p2⟩ := oE (k := k) (l := m.nodes) (by omega) hk
 obtain ⟨q, q1, q2⟩ := oE (k := k) (l := m.edges) (by omega) hk
 simp only [bP, (pu (m := m) ha hb hk).1, h0, beq_self_eq_true, cond_true, Option.bind_some, p1, q1, p2, q2, eX, kf, Bool.true_and]
theorem xd {k : Nat} {r : aH} (hl : BG r.left.graph) (hr : BG r.right.graph) (hk' : m7 r.keep) (hm : BM r.into) (hk : 20000 < k) : ig k r = some (qO r, ()) := by
 simp only [ig, (xy hl hk' hk).1, Option.bind_some, yA, qO]
 cases h1 : (kG r.left.graph r.keep != 0) with
 | true => simp only [cond_true, h1]
 | false =>
  simp only [cond_false, bne_self_eq_false, xL, (pu (m := r.into) (vc hk') hr hk).1, Option.bind_some]
  cases h2 : (ld (uD r.left.graph r.keep) r.right.graph r.into != 0) with
  | true => rfl
  | false => simp only [cond_false, vx (vc hk') hr hm (show ld (uD r.left.graph r.keep) r.right.graph r.into = 0 by simpa using h2) hk, Option.bind_some, eX]
theorem wX {k : Nat} {r : aH} (hl : BG r.left.graph) (hr : BG r.right.graph) (hk' : m7 r.keep) (hk : 20000 < k) : cj k r = some (cond (kG r.left.graph r.keep != 0) (kG r.left.graph r.keep) (ld (uD r.left.graph r.keep) r.right.graph r.into), ()) := by
 simp only [cj, (s5 hl hk' hk).2, (xy hl hk' hk).2, Option.bind_some, yA]
 cases h1 : (kG r.left.graph r.keep != 0) with
 | true => rfl
 | false => simp only [cond_false, xL, (pu (m := r.into) (vc hk') hr hk).2, Option.bind_some]
end Go.Ev.Pl
end
section
set_option linter.unusedVariables false
namespace Go.Ev.Pl
theorem qq {α S R : Type} {F : Nat → S → Int → Option R} (l : List α) (out : S → Option R) (st : α → S → S) (fuel : Nat) (s : S)
  (h0 : ∀ n s, F (n + 1) s (l.length : Int) = out s)
  (h1 : ∀ n s (i : Nat) x, l[i]? = some x → F (n + 1) s (i : Int) = F n (st x s) ((i + 1 : Nat) : Int))
  (hf : l.length < fuel) : F fuel s 0 = out (l.foldl (fun s x => st x s) s) := by
 suffices H : ∀ c i fuel s, l.length - i = c → i ≤ l.length → l.length - i < fuel → F fuel s (i : Int) = out ((l.drop i).foldl (fun s x => st x s) s) by
  have := H _ 0 fuel s rfl (by omega) (by omega)
  simpa using this
 intro c
 induction c with
 | zero =>
  intro i fuel s hc hi hf
  obtain rfl : i = l.length := by omega
  cases fuel with
  | zero => omega
  | succ n => rw [h0 n s]; simp
 | succ c ih =>
  intro i fuel s hc hi hf
  cases fuel with
  | zero => omega
  | succ n =>
   have hlt : i < l.length := by omega
   rw [h1 n s i _ (List.getElem?_eq_getElem hlt), List.drop_eq_getElem_cons hlt, List.foldl_cons]
   exact ih (i + 1) n _ (by omega) (by omega) (by omega)
def BC : Nat → ae → Prop
 | 0, _ => False
 | n + 1, c => BP c.pattern ∧ BM c.map ∧ c.kids.length ≤ 1000 ∧ ∀ d ∈ c.kids, BC n d
theorem pA {a b : Nat} (h : a + b ≤ 1000000) : IntKind.i64.wrap ((a : Int) + (b : Int)) = ((a + b : Nat) : Int) := by rw [jC (by omega) (by omega)]; omega
def nv (c : ae) : Bool :=
 decide (c.map.nodes.length + c.map.edges.length + c.pattern.graph.nodes.length + c.pattern.graph.edges.length + c.pattern.slots.length + c.pattern.tests.length = 0) && (c.pattern.vars == 0)
theorem sQ {c : ae} {n : Nat} (h : BC n c) : cD c = some (nv c, ()) ∧ aN c = some (nv c, ()) := by
 match n, h with
 | n + 1, ⟨⟨⟨h1, h2⟩, h3, h4⟩, ⟨h5, h6⟩, _⟩ =>
  simp only [cD, aN, nv]
  rw [pA, pA, pA, pA, pA, pA] <;> try omega
  simp only [eX, kf, Option.bind_some]
  constructor
  ·congr 2
   congr 1
   rw [Bool.eq_iff_iff]; simp only [decide_eq_true_eq, beq_iff_eq, Bool.and_eq_true]; omega
  ·rw [← Bool.and_assoc]
   congr 2
   congr 1
   rw [Bool.eq_iff_iff]; simp only [decide_eq_true_eq, beq_iff_eq, Bool.and_eq_true]; omega
def yK (c : ae) : Bool :=
 cond (c.kind == 1) (((c.kids.length : Int) == 0) && nv c) (cond (c.kind == 2) (((c.kids.length : Int) == 1) && nv c) (cond (c.kind == 3) (decide ((c.kids.length : Int) ≥ 1) && nv c)
  (cond (c.kind == 4) (decide ((c.kids.length : Int) ≥ 1) && nv c) (cond (c.kind == 5) ((c.kids.length : Int) == 1) false))))
theorem xr {c : ae} {n : Nat} (h : BC n c) : bY c = some (yK c, ()) := by
 have e : decide ((c.kids.length : Int) > 0) = decide ((c.kids.length : Int) ≥ 1) := decide_eq_decide.2 (by omega)
 simp only [bY, (sQ h).2, Option.bind_some, eX, kf, yK, e]
 cases (c.kind == 1) <;> cases (c.kind == 2) <;> cases (c.kind == 3) <;> cases (c.kind == 4) <;> cases (c.kind == 5) <;> rfl
def wh : Nat → ae → Bool
 | 0, _ => false
 | n + 1, c => yK c && !(c.kids.any fun d => !wh n d)
theorem uV : ∀ (n : Nat) (c : ae), BC n c → ∀ k, 20000 + n < k → ap k c = some (wh n c, ()) ∧ scarfjointref22_allRight k c = some (wh n c, ())
 | 0, c, h, _, _ => h.elim
 | n + 1, c, h, 0, hk => by omega
 | n + 1, c, h, k + 1, hk => by
  have hkids := h.2.2.2
  have hlen := h.2.2.1
  have ih : ∀ d ∈ c.kids, _ := fun d hd => uV n d (hkids d hd) k (by omega)
  have c1 := bz (l := c.kids) (q := fun z => aC (ap k) z.1) (p := fun d => !wh n d) (fun d hd => by simp only [aC, (ih d hd).1, Option.bind_some]) (cO hlen (by omega))
  have l1 := bS (F := scarfjointref22_allRight.l0 (scarfjointref22_allRight k) c) c.kids () (fun _ d => cond (!wh n d) (some (false, ())) none) k (fun m => by simp only [scarfjointref22_allRight.l0, az, cond_false]) (fun m i x hx _ => by
   simp only [scarfjointref22_allRight.l0, aQ (aL hx), cond_true, idx_some hx, (ih x (cJ hx)).2, Option.bind_some, cS, wS (show i < 4611686018427387904 by have := aL hx; omega)]) (by omega)
  rw [bH (fun d => !wh n d)] at l1
  constructor
  ·simp only [ap, (sQ h).1, xt, c1, Option.bind_some, eX, kf, wh, yK]
   cases (c.kind == 1) <;> cases (c.kind == 2) <;> cases (c.kind == 3) <;> cases (c.kind == 4) <;> cases (c.kind == 5) <;> rfl
  ·simp only [scarfjointref22_allRight, xr h, l1, Option.bind_some, wh, fF]
   cases yK c <;> cases (c.kids.any fun d => !wh n d) <;> rfl
def gT : Nat → ae → Int × Int
 | 0, _ => (0, 0)
 | n + 1, c => cond (c.kind == 5) ((c.kids.foldl (fun s d => (IntKind.i64.wrap (s.1 + (gT n d).1), fH s.2 (gT n d).2)) ((1, 0) : Int × Int)).1, IntKind.i64.wrap ((c.kids.foldl (fun s d => (IntKind.i64.wrap (s.1 + (gT n d).1), fH s.2 (gT n d).2)) ((1, 0) : Int × Int)).2 + 1))
   (c.kids.foldl (fun s d => (IntKind.i64.wrap (s.1 + (gT n d).1), fH s.2 (gT n d).2)) ((1, 0) : Int × Int))
theorem pC : ∀ (n : Nat) (c : ae), BC n c → ∀ k, 20000 + n < k → condition_measure k c = some ((gT n c).1, (gT n c).2, ()) ∧ scarfjointref22_Measure k c = some ((gT n c).1, (gT n c).2, ())
 | 0, c, h, _, _ => h.elim
 | n + 1, c, h, 0, hk => by omega
 | n + 1, c, h, k + 1, hk => by
  have hkids := h.2.2.2
  have hlen := h.2.2.1
  have ih : ∀ d ∈ c.kids, _ := fun d hd => pC n d (hkids d hd) k (by omega)
  have l1 := qq (F := fun m (s : Int × Int) i => condition_measure.l0 (condition_measure k) c c.kids c.kids.length m s.1 s.2 i) c.kids (fun s => some (c, s.1, s.2, ())) (fun d s => (IntKind.i64.wrap (s.1 + (gT n d).1), fH s.2 (gT n d).2)) (Int.toNat (c.kids.length : Int) + 1) (1, 0) (fun m s => by simp only [condition_measure.l0, az, cond_false]) (fun m s i x hx => by
   simp only [condition_measure.l0, aQ (aL hx), cond_true, idx_some hx, (ih x (cJ hx)).1, Option.bind_some, wS (show i < 4611686018427387904 by have := aL hx; omega)]) (by omega)
  have l2 := qq (F := fun m (s : Int × Int) i => scarfjointref22_Measure.l0 (scarfjointref22_Measure k) c m s.1 s.2 i) c.kids (fun s => some (c, s.1, s.2, ())) (fun d s => (IntKind.i64.wrap (s.1 + (gT n d).1), fH s.2 (gT n d).2)) k (1, 0) (fun m s => by simp only [scarfjointref22_Measure.l0, az, cond_false]) (fun m s i x hx => by
   simp only [scarfjointref22_Measure.l0, aQ (aL hx), cond_true, idx_some hx, (ih x (cJ hx)).2, Option.bind_some, wS (show i < 4611686018427387904 by have := aL hx; omega)]) (by omega)
  dsimp only at l1 l2
  simp only [condition_measure, scarfjointref22_Measure, l1, l2, Option.bind_some, gT]
  cases (c.kind == 5) <;> (refine ⟨?_, ?_⟩ <;> first | rfl | trivial)
def zf (n : Nat) (c : ae) : Int := cond (!wh n c) 1 (cond (decide ((gT n c).1 > 12) || decide ((gT n c).2 > 3)) 3 0)
theorem xz {n : Nat} {c : ae} (h : BC n c) {k : Nat} (hk : 20000 + n < k) : dK k c = some (zf n c, ()) ∧ c8 k c = some (zf n c, ()) := by
 simp only [dK, c8, (uV n c h k hk).1, (uV n c h k hk).2, (pC n c h k hk).1, (pC n c h k hk).2, Option.bind_some, eX, i9, zf, and_self]
def PV (p : aj) : Prop := 0 ≤ p.vars ∧ p.vars ≤ 12
theorem kb {t : ad} {p : aj} (h : iW t p = 0 ∨ iW t p = 9 ∧ jA t = 0) : PV p := by
 have key : jA t = 0 → iW t p = 0 ∨ iW t p = 9 → PV p := fun h0 h => by
  simp only [iW, h0, bne_self_eq_false, cond_false] at h
  cases h6 : (decide (p.vars < 0) || decide (p.vars > 12)) with
  | false => simp at h6; exact ⟨by omega, by omega⟩
  | true =>
   rw [h6] at h
   have hg : lj p.graph = 0 ∨ lj p.graph = 3 ∨ lj p.graph = 6 := by
    simp only [lj]
    cases (decide ((p.graph.nodes.length : Int) > 40) || decide ((p.graph.edges.length : Int) > 80)) <;> cases (p.graph.nodes.any fun n => !gn n) <;> cases (p.graph.edges.any fun e => !hJ p.graph.nodes.length e) <;> simp
   exfalso
   revert h
   rcases hg with e | e | e <;> rw [e] <;> cases sm t p.graph <;> simp
 rcases h with h | ⟨h, h0⟩
 ·exact key (uL h).1 (.inl h)
 ·exact key h0 (.inr h)
def qM (t : ad) (q : aj) (v : Nat) : Int := cond (iW t q != 9) (iW t q) (cond (!iE q v) 9 0)
theorem uQ (q : aj) (e : Int) (v : Nat) : ∀ c, dk (fun i => cond (!oy q i) (some (e, ())) none) v c = cond (!(List.range' v c).all (oy q)) (some (e, ())) none := by
 intro c
 induction c generalizing v with
 | zero => rfl
 | succ c ih =>
  rw [dk, List.range'_succ, List.all_cons]
  cases oy q v with
  | false => rfl
  | true => simp only [Bool.not_true, cond_false, Bool.true_and]; exact ih (v + 1)
theorem yj {k : Nat} {t : ad} (ht : BT t) (h0 : jA t = 0) {q : aj} (hq : BP q) (v : Nat) (hk : 20000 < k) : condition_pattern k t q v = some (qM t q v, ()) ∧
  (decide (q.vars < (v : Int)) = false → scarfjointref22_inner k t v q = some (qM t q v, ())) := by
 have hs := hq.s
 simp only [condition_pattern, scarfjointref22_inner, sr ht hq (show 2000 < k by omega), pH ht hq (show 2000 < k by omega), Option.bind_some, qM]
 cases h9 : (iW t q != 9) with
 | true => exact ⟨rfl, fun h => by rw [h]; rfl⟩
 | false =>
  have h9' : iW t q = 9 := by simpa using h9
  obtain ⟨v1, v2⟩ := kb (.inr ⟨h9', h0⟩)
  obtain ⟨V, hV⟩ : ∃ V : Nat, q.vars = V := ⟨q.vars.toNat, by omega⟩
  have e9 : ∀ j, iE q j = (List.range' j (V - j)).all (oy q) := fun j => by simp [iE, hV]
  have l1 := ml (F := condition_pattern.l0 q 9) V () (fun i => cond (!oy q i) (some (9, ())) none) v (fun n i hi => by
   have : ¬ ((i : Int) < q.vars) := by omega
   simp [condition_pattern.l0, this]) (fun n i _ hi _ => by
   have : (i : Int) < q.vars := by omega
   have c1 := bz (l := q.slots) (q := fun z4 => d9 z4.1 i) (p := fun s => s.term.var == (i : Int)) (fun _ _ => rfl) (cO hs (by omega))
   simp only [condition_pattern.l0, this, decide_true, cond_true, tF, c1, Option.bind_some, wS (show i < 4611686018427387904 by omega), oy]
   cases (q.slots.any fun s => s.term.var == (i : Int)) <;> rfl) k (by omega)
  have oc : ∀ i : Nat, scarfjointref22_occurs k q i = some (oy q i, ()) := fun i => by
   have := bS (F := scarfjointref22_occurs.l0 i q) q.slots () (fun _ x => cond (x.term.var == (i : Int)) (some (true, ())) none) k (fun n => by simp only [scarfjointref22_occurs.l0, az, cond_false]) (fun n j x hx _ => by
    simp only [scarfjointref22_occurs.l0, aQ (aL hx), cond_true, idx_some hx, Option.bind_some, cS, wS (show j < 4611686018427387904 by have := aL hx; omega)]) (by omega)
   rw [scarfjointref22_occurs, this, bH (fun x : dV => x.term.var == (i : Int))]
   simp only [Option.bind_some, oy]
   cases (q.slots.any fun x => x.term.var == (i : Int)) <;> rfl
  have l2 := ml (F := scarfjointref22_inner.l0 k q 9) V () (fun i => cond (!oy q i) (some (9, ())) none) v (fun n i hi => by
   have : ¬ ((i : Int) < q.vars) := by omega
   simp [scarfjointref22_inner.l0, this]) (fun n i _ hi _ => by
   have : (i : Int) < q.vars := by omega
   simp only [scarfjointref22_inner.l0, this, decide_true, cond_true, oc, Option.bind_some, wS (show i < 4611686018427387904 by omega)]
   cases oy q i <;> rfl) k (by omega)
  rw [uQ, ← e9] at l1 l2
  simp only [h9', cond_false, l1, l2, Option.bind_some, fF]
  cases iE q v with
  | true => exact ⟨rfl, fun h => by rw [h]; rfl⟩
  | false => exact ⟨rfl, fun h => by rw [h]; rfl⟩
def mr : Nat → ad → aj → ae → Int
 | 0, _, _, _ => 0
 | n + 1, t, p, c =>
  cond (c.kind == 5)
   (cond (decide (c.pattern.vars < p.vars)) 20 (cond (qM t c.pattern p.vars.toNat != 0) (qM t c.pattern p.vars.toNat) (cond (ld p.graph c.pattern.graph c.map != 0) (ld p.graph c.pattern.graph c.map) (cond (!(dst c.map.nodes && dst c.map.edges)) 1
    (lk (bU (fun _ d => cond (mr n t c.pattern d != 0) (some (mr n t c.pattern d, ())) none) c.kids))))))
   (lk (bU (fun _ d => cond (mr n t p d != 0) (some (mr n t p d, ())) none) c.kids))
theorem pk {t : ad} (ht : BT t) (h0 : jA t = 0) : ∀ (n : Nat) (c : ae) (p : aj), BC n c → BP p → PV p → ∀ k, 20000 + n < k → condition_inside k t p c = some (mr n t p c, ()) ∧ scarfjointref22_over k t p c = some (mr n t p c, ())
 | 0, c, p, h, _, _, _, _ => h.elim
 | n + 1, c, p, h, _, _, 0, hk => by omega
 | n + 1, c, p, h, hp, hv, k + 1, hk => by
  have hkids := h.2.2.2
  have hlen := h.2.2.1
  have hq := h.1
  have hm := h.2.1
  have l1 : ∀ q, BP q → PV q → _ := fun q bq vq => bS (F := condition_inside.l0 (condition_inside k) t q c.kids c.kids.length) c.kids () (fun _ d => cond (mr n t q d != 0) (some (mr n t q d, ())) none) (c.kids.length + 1) (fun m => by simp only [condition_inside.l0, az, cond_false]) (fun m i x hx _ => by
   simp only [condition_inside.l0, aQ (aL hx), cond_true, idx_some hx, (pk ht h0 n x q (hkids x (cJ hx)) bq vq k (by omega)).1, Option.bind_some, cS, wS (show i < 4611686018427387904 by have := aL hx; omega)]) (by omega)
  have l2 : ∀ q, BP q → PV q → _ := fun q bq vq => bS (F := scarfjointref22_over.l0 (scarfjointref22_over k) t c q) c.kids () (fun _ d => cond (mr n t q d != 0) (some (mr n t q d, ())) none) k (fun m => by simp only [scarfjointref22_over.l0, az, cond_false]) (fun m i x hx _ => by
   simp only [scarfjointref22_over.l0, aQ (aL hx), cond_true, idx_some hx, (pk ht h0 n x q (hkids x (cJ hx)) bq vq k (by omega)).2, Option.bind_some, cS, wS (show i < 4611686018427387904 by have := aL hx; omega)]) (by omega)
  obtain ⟨V, hV⟩ : ∃ V : Nat, p.vars = V := ⟨p.vars.toNat, by have := hv.1; omega⟩
  obtain ⟨p1, p2⟩ := yj (k := k) ht h0 hq V (by omega)
  obtain ⟨m1, m2⟩ := pu (k := k) (m := c.map) hp.g hq.g (by omega)
  have hn1 := hm.n
  have hn2 := hm.e
  simp only [condition_inside, scarfjointref22_over, mr, hV, Int.toNat_natCast]
  cases hk5 : (c.kind == 5) with
  | false =>
   simp only [cond_false, l1 p hp hv, l2 p hp hv]
   exact ⟨ks _, ks _⟩
  | true =>
   simp only [cond_true, p1, m1, m2]
   cases hlt : decide (c.pattern.vars < (V : Int)) with
   | true => simp only [scarfjointref22_inner, hlt, cond_true]; (refine ⟨?_, ?_⟩ <;> first | rfl | trivial)
   | false =>
    simp only [cond_false, p2 hlt, Option.bind_some]
    cases h1 : (qM t c.pattern V != 0) with
    | true => (refine ⟨?_, ?_⟩ <;> first | rfl | trivial)
    | false =>
     cases h2 : (ld p.graph c.pattern.graph c.map != 0) with
     | true => (refine ⟨?_, ?_⟩ <;> first | rfl | trivial)
     | false =>
      have hm0 : ld p.graph c.pattern.graph c.map = 0 := by simpa using h2
      have hpv : PV c.pattern := by
       have : qM t c.pattern V = 0 := by simpa using h1
       simp only [qM] at this
       cases h9 : (iW t c.pattern != 9) with
       | true => rw [h9] at this; exact kb (.inl this)
       | false => exact kb (.inr ⟨by simpa using h9, h0⟩)
      simp only [cond_false, vx (k := k) hp.g hq.g hm hm0 (by omega), bT, m2, hm0, beq_self_eq_true, cond_true, iO (k := k) (l := c.map.nodes) (by omega) (by omega), iO (k := k) (l := c.map.edges) (by omega) (by omega), Option.bind_some, eX, kf, Bool.true_and, l1 _ hq hpv, l2 _ hq hpv]
      cases (dst c.map.nodes && dst c.map.edges) with
      | false => (refine ⟨?_, ?_⟩ <;> first | rfl | trivial)
      | true => exact ⟨ks _, ks _⟩
def te (n : Nat) (t : ad) (p : aj) (c : ae) : Int := cond (iW t p != 0) (iW t p) (cond (zf n c != 0) (zf n c) (mr n t p c))
theorem wA {t : ad} (ht : BT t) (h0 : jA t = 0) {n : Nat} {c : ae} {p : aj} (h : BC n c) (hp : BP p) {k : Nat} (hk : 20000 + n < k) : dH k t p c = some (te n t p c, ()) ∧ ca k t p c = some (te n t p c, ()) := by
 simp only [dH, ca, te, sr ht hp (show 2000 < k by omega), pH ht hp (show 2000 < k by omega), (xz h hk).1, (xz h hk).2, Option.bind_some]
 cases h1 : (iW t p != 0) with
 | true => (refine ⟨?_, ?_⟩ <;> first | rfl | trivial)
 | false =>
  have hv := kb (t := t) (p := p) (.inl (by simpa using h1))
  simp only [cond_false, (pk ht h0 n c p h hp hv k hk).1, (pk ht h0 n c p h hp hv k hk).2, Option.bind_some, eX, and_self]
end Go.Ev.Pl
end
section
set_option linter.unusedVariables false
namespace Go.Ev.Pl
structure sI (n : Nat) (r : aH) : Prop where
 name : r.name.size ≤ 60
 left : BP r.left
 right : BP r.right
 keep : m7 r.keep
 into : BM r.into
 cnd : BC n r.condition
def gU (r : aH) : List Int := lr r.keep.nodes r.left.graph.nodes.length
def lC (r : aH) : List Int := lr r.keep.edges r.left.graph.edges.length
def li (r : aH) : List Int := lr r.into.nodes r.right.graph.nodes.length
def lq (r : aH) : List Int := lr r.into.edges r.right.graph.edges.length
def gm (n : Nat) (t : ad) (r : aH) : Int :=
 cond (jA t != 0) (jA t) (cond (!ja r.name) 2 (cond (iW t r.left != 0) (iW t r.left) (cond (jT t r != 0) (jT t r) (cond (qO r != 0) (qO r)
  (cond (!v7 t r.right.graph (li r) (lq r)) 13 (te n t r.left r.condition))))))
theorem wC {t : ad} {p : aj} (ht : BT t) (h : iW t p = 0) : jS t p.graph := by
 obtain ⟨h1, h⟩ := uL h
 obtain ⟨h2, h⟩ := uL h
 obtain ⟨h3, h⟩ := yF h (by decide)
 exact ⟨kr ht h1, h1, jG h2, by simpa using h3⟩
theorem oG {t : ad} {r : aH} (ht : BT t) (h1 : jA t = 0) (h : jT t r = 0) : jS t r.right.graph := by
 obtain ⟨h2, h⟩ := uL h
 obtain ⟨h3, h⟩ := yF h (by decide)
 exact ⟨kr ht h1, h1, jG h2, by simpa using h3⟩
theorem vJ {k n : Nat} {r : aH} (hr : sI n r) (hk : 20000 < k) : fq r = some (gU r, lC r, ()) ∧ bO k r = some (gU r, lC r, ()) := by
 have h1 := hr.keep.n
 have h2 := hr.keep.e
 have h3 := hr.left.g.n
 have h4 := hr.left.g.e
 simp only [fq, bO, (iQ (k := k) (l := r.keep.nodes) (n := r.left.graph.nodes.length) (by omega) (by omega) hk).1, (iQ (k := k) (l := r.keep.nodes) (n := r.left.graph.nodes.length) (by omega) (by omega) hk).2, (iQ (k := k) (l := r.keep.edges) (n := r.left.graph.edges.length) (by omega) (by omega) hk).1, (iQ (k := k) (l := r.keep.edges) (n := r.left.graph.edges.length) (by omega) (by omega) hk).2, Option.bind_some, gU, lC, and_self]
theorem rQ {k n : Nat} {r : aH} (hr : sI n r) (hk : 20000 < k) : dM r = some (li r, lq r, ()) ∧ aU k r = some (li r, lq r, ()) := by
 have h1 := hr.into.n
 have h2 := hr.into.e
 have h3 := hr.right.g.n
 have h4 := hr.right.g.e
 simp only [dM, aU, (iQ (k := k) (l := r.into.nodes) (n := r.right.graph.nodes.length) (by omega) (by omega) hk).1, (iQ (k := k) (l := r.into.nodes) (n := r.right.graph.nodes.length) (by omega) (by omega) hk).2, (iQ (k := k) (l := r.into.edges) (n := r.right.graph.edges.length) (by omega) (by omega) hk).1, (iQ (k := k) (l := r.into.edges) (n := r.right.graph.edges.length) (by omega) (by omega) hk).2, Option.bind_some, li, lq, and_self]
theorem mG {k n : Nat} {t : ad} {r : aH} (ht : BT t) (hr : sI n r) (hk : 20000 + n < k) : ff k t r = some (gm n t r, ()) ∧ bl k t r = some (gm n t r, ()) := by
 have hnm := hr.name
 have hm1 := hr.into.n
 have hm2 := hr.into.e
 have h3 := hr.right.g.n
 have h4 := hr.right.g.e
 have hc := rQ (k := k) hr (by omega)
 simp only [ff, bl, gm, (gQ ht (show 2000 < k by omega)).1, (gQ ht (show 2000 < k by omega)).2, yC (s := r.name) (cO hnm (by omega)) (show r.name.size < k by omega), yy (s := r.name) (cO hnm (by omega)) (show r.name.size < k by omega) (by omega), sr ht hr.left (show 2000 < k by omega), pH ht hr.left (show 2000 < k by omega), Option.bind_some]
 cases h0 : (jA t != 0) with
 | true => (refine ⟨?_, ?_⟩ <;> first | rfl | trivial)
 | false =>
  have t0 : jA t = 0 := by simpa using h0
  simp only [cond_false, (oH (k := k) (r := r) (kr ht t0) t0 hr.right (by omega)).1, (oH (k := k) (r := r) (kr ht t0) t0 hr.right (by omega)).2, Option.bind_some]
  cases ja r.name with
  | false => (refine ⟨?_, ?_⟩ <;> first | rfl | trivial)
  | true =>
   cases ha : (iW t r.left != 0) with
   | true => (refine ⟨?_, ?_⟩ <;> first | rfl | trivial)
   | false =>
    cases hr' : (jT t r != 0) with
    | true => (refine ⟨?_, ?_⟩ <;> first | rfl | trivial)
    | false =>
     have hR := oG ht t0 (show jT t r = 0 by simpa using hr')
     have l1 := eh r.into.nodes r.right.graph.nodes.length
     have l2 := eh r.into.edges r.right.graph.edges.length
     have hmak := y0 (k := k) hR (nodes := li r) (edges := lq r) (fun x hx => cG hx) (fun x hx => cG hx) (by simp only [li]; omega) (by simp only [lq]; omega) (by omega)
     have hcnd := wA (k := k) ht t0 hr.cnd hr.left (by omega)
     simp only [cond_false, Bool.not_true, xd (k := k) (r := r) hr.left.g hr.right.g hr.keep hr.into (by omega), wX (k := k) (r := r) hr.left.g hr.right.g hr.keep (by omega), iO (k := k) (l := r.into.nodes) (by omega) (by omega), iO (k := k) (l := r.into.edges) (by omega) (by omega), hc.1, hc.2, hmak.1, hmak.2, hcnd.1, hcnd.2, Option.bind_some, eX, i9]
     refine ⟨trivial, ?_⟩
     simp only [qO]
     cases h5 : (kG r.left.graph r.keep != 0) with
     | true => simp only [cond_true, h5]
     | false =>
      simp only [cond_false]
      cases h6 : (ld (uD r.left.graph r.keep) r.right.graph r.into != 0) with
      | true => simp only [cond_true, h6]
      | false => cases dst r.into.nodes <;> cases dst r.into.edges <;> rfl
structure zJ (t : ad) (r : aH) : Prop where
 left : jS t r.left.graph
 right : jS t r.right.graph
theorem nC {n : Nat} {t : ad} {r : aH} (ht : BT t) (h : gm n t r = 0) : zJ t r := by
 obtain ⟨h1, h⟩ := uL h
 obtain ⟨h2, h⟩ := yF h (by decide)
 obtain ⟨h3, h⟩ := uL h
 obtain ⟨h4, h⟩ := uL h
 exact ⟨wC ht h3, oG ht h1 h4⟩
theorem rH {k n : Nat} {t : ad} {r : aH} (ht : BT t) (hr : sI n r) (hk : 20000 + n < k) : fm k t r = some (cond (gm n t r != 0) ([], [], gm n t r, ()) (gU r, lC r, 0, ())) ∧ aS k t r = some (cond (gm n t r != 0) ([], [], gm n t r, ()) (gU r, lC r, 0, ())) := by
 simp only [fm, aS, (mG ht hr hk).1, (mG ht hr hk).2, (vJ (k := k) hr (by omega)).1, (vJ (k := k) hr (by omega)).2, Option.bind_some, uT, and_self]
theorem vy {k n : Nat} {t : ad} {r : aH} (ht : BT t) (hr : sI n r) (hk : 20000 + n < k) : fp k t r = some (cond (gm n t r != 0) ([], [], gm n t r, ()) (li r, lq r, 0, ())) ∧ bN k t r = some (cond (gm n t r != 0) ([], [], gm n t r, ()) (li r, lq r, 0, ())) := by
 simp only [fp, bN, (mG ht hr hk).1, (mG ht hr hk).2, (rQ (k := k) hr (by omega)).1, (rQ (k := k) hr (by omega)).2, Option.bind_some, uT, and_self]
def lP (g : ah) (i : Int) : Int := (ay g.nodes i).getD 0
def pY (t : ad) (g : ah) (i : Int) : Int := match ay g.edges i with | some e => (t.nodes.length : Int) + e.typ | none => 0
def uH (t : ad) (g : ah) (nodes edges : List Int) : List Int := nodes.map (lP g) ++ edges.map (pY t g)
def plS (t : ad) (g : ah) (nodes edges : List Int) : List Int := fG (cF (uH t g nodes edges)) (cF (uH t g nodes edges)).length
def wj (t : ad) (g : ah) (nodes edges : List Int) (p : Nat) : List Int := cond (nodes.any (fun i => lP g i == (p : Int)) || edges.any (fun i => pY t g i == (p : Int))) [(p : Int)] []
theorem nA {f : Nat → List Int} (hf : ∀ i, f i = [(i : Int)] ∨ f i = []) : ∀ n, ((List.range n).flatMap f).Pairwise (· < ·) ∧ ∀ x ∈ (List.range n).flatMap f, x < n
 | 0 => by simp
 | n + 1 => by
  obtain ⟨h1, h2⟩ := nA hf n
  rw [List.range_succ, List.flatMap_append, show List.flatMap f [n] = f n by simp]
  rcases hf n with e | e
  ·rw [e]
   refine ⟨List.pairwise_append.2 ⟨h1, by simp, fun a ha b hb => ?_⟩, fun x hx => ?_⟩
   ·simp at hb; subst hb; exact h2 a ha
   ·rcases List.mem_append.1 hx with h | h
    ·have := h2 x h; omega
    ·simp at h; omega
  ·rw [e, List.append_nil]
   exact ⟨h1, fun x hx => by have := h2 x hx; omega⟩
theorem wJ {l m : List Int} (hl : l.Pairwise (· < ·)) (hm : m.Pairwise (· < ·)) (h : ∀ x, x ∈ l ↔ x ∈ m) : l = m := by
 have nl : l.Nodup := hl.imp fun h => Int.ne_of_lt h
 have nm : m.Nodup := hm.imp fun h => Int.ne_of_lt h
 exact List.Perm.eq_of_pairwise (le := (· ≤ ·)) (fun a b _ _ h1 h2 => Int.le_antisymm h1 h2) (hl.imp fun h => Int.le_of_lt h) (hm.imp fun h => Int.le_of_lt h) ((List.perm_ext_iff_of_nodup nl nm).2 h)
theorem sM {t : ad} {g : ah} (h : jS t g) {nodes edges : List Int} (hn : ∀ x ∈ nodes, 0 ≤ x ∧ x < g.nodes.length) (he : ∀ x ∈ edges, 0 ≤ x ∧ x < g.edges.length) :
  (List.range (t.nodes.length + t.edges.length)).flatMap (wj t g nodes edges) = plS t g nodes edges := by
 have hs := gB (uH t g nodes edges)
 refine wJ (nA (fun i => ?_) _).1 (nE (la _) _ (Nat.le_refl _)) fun x => ?_
 ·unfold wj; cases (nodes.any (fun j => lP g j == (i : Int)) || edges.any (fun j => pY t g j == (i : Int))) <;> simp
 ·have m1 : x ∈ plS t g nodes edges ↔ x ∈ uH t g nodes edges := by
   rw [← hs.mem_iff]
   constructor
   ·intro hx
    have := (lp _ _ (Nat.le_refl _)).subset hx
    rwa [List.take_length] at this
   ·exact vw
  rw [m1]
  have ran : ∀ x ∈ uH t g nodes edges, 0 ≤ x ∧ x < (t.nodes.length + t.edges.length : Nat) := by
   intro x hx
   rcases List.mem_append.1 hx with h1 | h1
   ·obtain ⟨i, hi, rfl⟩ := List.mem_map.1 h1
    obtain ⟨y, y1, _, y3⟩ := bw (hn i hi).1 (hn i hi).2
    have := lz h y3
    simp [kj] at this
    simp only [lP, y1, Option.getD_some]; omega
   ·obtain ⟨i, hi, rfl⟩ := List.mem_map.1 h1
    obtain ⟨y, y1, _, y3⟩ := bw (he i hi).1 (he i hi).2
    have := (p9 h.ty).2 y y3
    have := h.gr.edge y y3
    simp only [pY, y1]; omega
  constructor
  ·intro hx
   obtain ⟨p, hp, hx⟩ := List.mem_flatMap.1 hx
   unfold wj at hx
   cases hc : (nodes.any (fun i => lP g i == (p : Int)) || edges.any (fun i => pY t g i == (p : Int))) with
   | false => rw [hc] at hx; simp at hx
   | true =>
    rw [hc] at hx
    simp at hx
    subst hx
    rcases Bool.or_eq_true_iff.1 hc with h1 | h1
    ·obtain ⟨i, hi, e⟩ := List.any_eq_true.1 h1
     exact List.mem_append_left _ (List.mem_map.2 ⟨i, hi, by simpa using e⟩)
    ·obtain ⟨i, hi, e⟩ := List.any_eq_true.1 h1
     exact List.mem_append_right _ (List.mem_map.2 ⟨i, hi, by simpa using e⟩)
  ·intro hx
   obtain ⟨r1, r2⟩ := ran x hx
   refine List.mem_flatMap.2 ⟨x.toNat, by simp; omega, ?_⟩
   have e : ((x.toNat : Nat) : Int) = x := by omega
   have hc : (nodes.any (fun i => lP g i == ((x.toNat : Nat) : Int)) || edges.any (fun i => pY t g i == ((x.toNat : Nat) : Int))) = true := by
    rw [e, Bool.or_eq_true_iff]
    rcases List.mem_append.1 hx with h1 | h1
    ·obtain ⟨i, hi, e⟩ := List.mem_map.1 h1
     exact .inl (List.any_eq_true.2 ⟨i, hi, by simpa using e⟩)
    ·obtain ⟨i, hi, e⟩ := List.mem_map.1 h1
     exact .inr (List.any_eq_true.2 ⟨i, hi, by simpa using e⟩)
   rw [wj, hc, cond_true, e]; simp
theorem xA {k : Nat} {t : ad} {g : ah} (h : jS t g) {nodes edges : List Int} (hn : ∀ x ∈ nodes, 0 ≤ x ∧ x < g.nodes.length) (he : ∀ x ∈ edges, 0 ≤ x ∧ x < g.edges.length) (ln : nodes.length ≤ 200) (le : edges.length ≤ 200) (hk : 20000 < k) :
  layering_places k t g nodes edges = some (plS t g nodes edges, ()) := by
 have hT := h.ok.n
 have hTE := h.ok.e
 have l1 := jF (F := layering_places.l0 edges t g nodes nodes.length) nodes.length (fun i => (nodes[i]?).elim [] fun x => [lP g x]) (fun acc => some (edges, t, g, acc, ())) [] (nodes.length + 1) (fun n acc => by simp only [layering_places.l0, az, cond_false]) (fun n acc i hi hacc => by
  have hx : nodes[i]? = some nodes[i] := List.getElem?_eq_getElem hi
  obtain ⟨y, y1, _, y3⟩ := bw (hn _ (List.getElem_mem hi)).1 (hn _ (List.getElem_mem hi)).2
  have hb : acc.length ≤ 1 * i := by rw [hacc, List.nil_append]; exact fi (fun j => by cases nodes[j]? <;> simp) i
  simp only [layering_places.l0, aQ hi, cond_true, idx_some hx, hx, lP, y1, Option.bind_some, Option.getD_some, Option.elim, List.length_cons, List.length_nil, Nat.zero_add, bB (show acc.length + 1 ≤ 1000000 by omega), wS (show i < 4611686018427387904 by omega)]) (by omega)
 have l2 := jF (F := layering_places.l2 t g edges edges.length) edges.length (fun i => (edges[i]?).elim [] fun x => [pY t g x]) (fun acc => some (acc, ())) (nodes.map (lP g)) (edges.length + 1) (fun n acc => by simp only [layering_places.l2, az, cond_false]) (fun n acc i hi hacc => by
  have hx : edges[i]? = some edges[i] := List.getElem?_eq_getElem hi
  obtain ⟨y, y1, _, y3⟩ := bw (he _ (List.getElem_mem hi)).1 (he _ (List.getElem_mem hi)).2
  have hr := (p9 h.ty).2 y y3
  have hr' := h.gr.edge y y3
  have hb : acc.length ≤ 200 + 1 * i := by
   have := fi (f := fun i => (edges[i]?).elim [] fun x => [pY t g x]) (c := 1) (fun j => by cases edges[j]? <;> simp) i
   rw [hacc, List.length_append, List.length_map]; omega
  have ew : IntKind.i64.wrap ((t.nodes.length : Int) + y.typ) = (t.nodes.length : Int) + y.typ := jC (by omega) (by omega)
  simp only [layering_places.l2, aQ hi, cond_true, idx_some hx, hx, pY, y1, ew, Option.bind_some, Option.elim, List.length_cons, List.length_nil, Nat.zero_add, bB (show acc.length + 1 ≤ 1000000 by omega), wS (show i < 4611686018427387904 by omega)]) (by omega)
 rw [jk (lP g), List.nil_append] at l1
 rw [jk (pY t g)] at l2
 have hl : (uH t g nodes edges).length ≤ 400 := by simp [uH]; omega
 have hs := (gB (uH t g nodes edges)).length_eq
 obtain ⟨r, r1, r2⟩ := nB (k := k) (s := cF (uH t g nodes edges)) (by omega) (by omega)
 have hm : (fG (cF (uH t g nodes edges)) (cF (uH t g nodes edges)).length).length ≤ r.length := by
  have := congrArg List.length r2
  rw [List.length_take] at this; omega
 have z : Int.toNat 0 = 0 := rfl
 simp only [layering_places, l1, l2, Option.bind_some, slices_Sort_int, show List.map (lP g) nodes ++ List.map (pY t g) edges = uH t g nodes edges from rfl, bB (show (uH t g nodes edges).length ≤ 1000000 by omega), cond_true, r1, z, Int.toNat_natCast, zn, sw hm, Bool.and_self, qu, r2]
 rfl
theorem pG {α : Type} (p : α → Bool) : ∀ (l : List α) (s : Bool), l.foldl (fun s x => cond s true (p x)) s = (s || l.any p)
 | [], s => by simp
 | x :: l, s => by
  rw [List.foldl_cons, pG p l, List.any_cons]
  cases s <;> simp
theorem vz {k : Nat} {t : ad} {g : ah} (h : jS t g) {nodes edges : List Int} (hn : ∀ x ∈ nodes, 0 ≤ x ∧ x < g.nodes.length) (he : ∀ x ∈ edges, 0 ≤ x ∧ x < g.edges.length) (ln : nodes.length ≤ 200) (le : edges.length ≤ 200) (hk : 20000 < k) :
  scarfjointref40_places k t g nodes edges = some (plS t g nodes edges, ()) := by
 have hT := h.ok.n
 have hTE := h.ok.e
 have l2 : ∀ (acc : List Int) (p : Nat) (s : Bool), _ := fun acc p s => qq (F := scarfjointref40_places.l2 nodes edges t g acc p) nodes (fun s => some (nodes, edges, t, g, acc, (p : Int), s, ())) (fun x s => cond s true (lP g x == (p : Int))) k s (fun n s => by simp only [scarfjointref40_places.l2, az, cond_false]) (fun n s i x hx => by
  obtain ⟨y, y1, _, y3⟩ := bw (hn _ (cJ hx)).1 (hn _ (cJ hx)).2
  simp only [scarfjointref40_places.l2, aQ (aL hx), cond_true, idx_some hx, y1, lP, Option.getD_some, Option.bind_some, eX, wS (show i < 4611686018427387904 by have := aL hx; omega)]) (by omega)
 have l4 : ∀ (acc : List Int) (p : Nat) (s : Bool), _ := fun acc p s => qq (F := scarfjointref40_places.l4 nodes edges t g acc p) edges (fun s => some (nodes, edges, t, g, acc, (p : Int), s, ())) (fun x s => cond s true (pY t g x == (p : Int))) k s (fun n s => by simp only [scarfjointref40_places.l4, az, cond_false]) (fun n s i x hx => by
  obtain ⟨y, y1, _, y3⟩ := bw (he _ (cJ hx)).1 (he _ (cJ hx)).2
  have hr := (p9 h.ty).2 y y3
  have hr' := h.gr.edge y y3
  have ew : IntKind.i64.wrap ((t.nodes.length : Int) + y.typ) = (t.nodes.length : Int) + y.typ := jC (by omega) (by omega)
  simp only [scarfjointref40_places.l4, aQ (aL hx), cond_true, idx_some hx, y1, pY, ew, Option.bind_some, eX, wS (show i < 4611686018427387904 by have := aL hx; omega)]) (by omega)
 have ew : IntKind.i64.wrap ((t.nodes.length : Int) + (t.edges.length : Int)) = ((t.nodes.length + t.edges.length : Nat) : Int) := pA (by omega)
 have l0 := jF (F := fun n acc i => scarfjointref40_places.l0 k n nodes edges t g acc i) (t.nodes.length + t.edges.length) (wj t g nodes edges) (fun acc => some (acc, ())) [] k (fun n acc => by simp only [scarfjointref40_places.l0, ew, az, cond_false]) (fun n acc i hi hacc => by
  have hb : acc.length ≤ 1 * i := by
   rw [hacc, List.nil_append]; exact fi (fun j => by unfold wj; cases (nodes.any (fun i => lP g i == (j : Int)) || edges.any (fun i => pY t g i == (j : Int))) <;> simp) i
  simp only [scarfjointref40_places.l0, ew, aQ hi, cond_true, l2 acc i false, l4 acc i, pG (fun x => lP g x == (i : Int)), pG (fun x => pY t g x == (i : Int)), Bool.false_or, Option.bind_some, List.length_cons, List.length_nil, Nat.zero_add, bB (show acc.length + 1 ≤ 1000000 by omega), wS (show i < 4611686018427387904 by omega), wj]
  cases (nodes.any (fun j => lP g j == (i : Int)) || edges.any (fun j => pY t g j == (i : Int))) <;> simp) (by omega)
 rw [scarfjointref40_places, l0, List.nil_append, sM h hn he]
 rfl
end Go.Ev.Pl
end
section
set_option linter.unusedVariables false
namespace Go.Ev.Pl
def nO (t : ad) (x : Int) : Bool := t.nodes.any fun n => n.parent == x
theorem sK {t : ad} {x : Int} : ∀ n j, x ∈ qg n t j → j = x ∨ nO t x = true
 | 0, j, h => by simp [qg] at h
 | n + 1, j, h => by
  rw [qg] at h
  cases hd : decide (j < 0) with
  | true => rw [hd] at h; simp at h
  | false =>
   rw [hd, cond_false] at h
   cases hi : ay t.nodes j with
   | none => rw [hi] at h; simp at h
   | some y =>
    rw [hi] at h
    rcases List.mem_cons.1 h with e | h'
    ·exact .inl e.symm
    ·rcases sK n y.parent h' with e | e
     ·exact .inr (List.any_eq_true.2 ⟨y, sD hi, by simpa using e⟩)
     ·exact .inr e
theorem uI {t : ad} (ht : ug t) {x : Int} (hx : kj t x = true) : decide ((((List.range t.nodes.length).flatMap fun (j : Nat) => cond (pX t j x) [(j : Int)] []).length : Int) > 1) = nO t x := by
 have hn := ht.n
 simp [kj] at hx
 generalize hL : (List.range t.nodes.length).flatMap (fun (j : Nat) => cond (pX t j x) [(j : Int)] []) = L
 have mem : ∀ j : Nat, j < t.nodes.length → pX t j x = true → (j : Int) ∈ L := fun j hj h => by
  rw [← hL]; exact List.mem_flatMap.2 ⟨j, by simpa using hj, by rw [h]; simp⟩
 have hd : ∀ n, x ∈ qg (n + 1) t x := fun n => by
  obtain ⟨y, y1, _, _⟩ := bw hx.1 hx.2
  have : ¬ x < 0 := by omega
  simp [qg, this, y1]
 have self : pX t (x.toNat : Nat) x = true := by
  have e : ((x.toNat : Nat) : Int) = x := by omega
  rw [pX, e]; exact List.any_eq_true.2 ⟨x, hd 31, by simp⟩
 have mx := mem x.toNat (by omega) self
 have e : ((x.toNat : Nat) : Int) = x := by omega
 rw [e] at mx
 rw [Bool.eq_iff_iff, decide_eq_true_iff]
 constructor
 ·intro h
  have : ∃ y ∈ L, y ≠ x := by
   apply Classical.byContradiction
   intro hno
   have all : ∀ y ∈ L, y = x := fun y hy => Classical.byContradiction fun h2 => hno ⟨y, hy, h2⟩
   have pw := (nA (f := fun j => cond (pX t j x) [(j : Int)] []) (fun i => by cases pX t i x <;> simp) t.nodes.length).1
   rw [hL] at pw
   match L, pw, h, all with
   | [], _, h, _ => simp at h
   | [a], _, h, _ => simp at h
   | a :: b :: r, pw, _, all =>
    have h1 := all a (by simp)
    have h2 := all b (by simp)
    have := (List.pairwise_cons.1 pw).1 b (by simp)
    omega
  obtain ⟨y, hy, hne⟩ := this
  rw [← hL] at hy
  obtain ⟨j, hj, hy⟩ := List.mem_flatMap.1 hy
  cases hi : pX t j x with
  | false => rw [hi] at hy; simp at hy
  | true =>
   rw [hi] at hy
   simp at hy
   obtain ⟨z, z1, z2⟩ := List.any_eq_true.1 hi
   have z3 : x = z := by simpa using z2
   subst z3
   rcases sK 32 (j : Int) z1 with e | e
   ·exact absurd (by omega) hne
   ·exact e
 ·intro h
  obtain ⟨m, hm, e2⟩ := List.any_eq_true.1 h
  have e2 : m.parent = x := by simpa using e2
  obtain ⟨j, hj, rfl⟩ := List.getElem_of_mem hm
  have hg : t.nodes[j]? = some t.nodes[j] := List.getElem?_eq_getElem hj
  have hp := ht.par j _ hg
  have hjx : pX t j x = true := by
   refine List.any_eq_true.2 ⟨x, ?_, by simp⟩
   have : ¬ ((j : Int) < 0) := by omega
   rw [oN, qg]
   simp only [this, decide_false, cond_false, idx_some hg, e2]
   exact List.mem_cons_of_mem _ (hd 30)
  have mj := mem j hj hjx
  match L, mx, mj with
  | [], mx, _ => simp at mx
  | [a], mx, mj => simp at mx mj; omega
  | a :: b :: r, _, _ => simp; omega
theorem wd {k : Nat} {t : ad} (ht : ug t) (h0 : jA t = 0) {x : Int} (hx : kj t x = true) (hk : 20000 < k) : scarfjointref04_Below k t x = some ((List.range t.nodes.length).flatMap (fun (j : Nat) => cond (pX t j x) [(j : Int)] []), 0, ()) := by
 have hn := ht.n
 have hx' := hx
 simp [kj] at hx'
 have l1 := jF (F := scarfjointref04_Below.l0 k x t) t.nodes.length (fun (j : Nat) => cond (pX t j x) [(j : Int)] []) (fun acc => some (acc, ())) [] k (fun n acc => by simp only [scarfjointref04_Below.l0, az, cond_false]) (fun n acc i hi hacc => by
  have hb : acc.length ≤ 1 * i := by rw [hacc, List.nil_append]; exact fi (fun j => by cases pX t j x <;> simp) i
  have hin : kj t i = true := by simp [kj]; omega
  simp only [scarfjointref04_Below.l0, aQ hi, cond_true, nu ht hk hin hx'.1, Option.bind_some, List.length_cons, List.length_nil, Nat.zero_add, bB (show acc.length + 1 ≤ 1000000 by omega), wS (show i < 4611686018427387904 by omega)]
  cases pX t i x <;> simp) (by omega)
 simp only [scarfjointref04_Below, lD ht.b (show 2000 < k by omega), h0, hx, bne_self_eq_false, cond_false, Bool.not_true, Bool.or_self, Option.bind_some, l1, List.nil_append]
def hO (n : Nat) (t : ad) (r : aH) : Int := cond (gm n t r != 0) (gm n t r) (cond ((gU r).any fun i => nO t (lP r.left.graph i)) 13 0)
def dF (t : ad) (r : aH) : a8 := ⟨plS t r.left.graph (gU r) (lC r), plS t r.right.graph (li r) (lq r)⟩
def zt (n : Nat) (t : ad) (r : aH) : a8 := cond (hO n t r != 0) ⟨[], []⟩ (dF t r)
theorem zi {k n : Nat} {t : ad} {r : aH} (ht : BT t) (hr : sI n r) (hk : 20000 + n < k) : layering_of k t r = some (zt n t r, hO n t r, ()) := by
 simp only [layering_of, (rH ht hr hk).1, Option.bind_some, zt, hO]
 cases h1 : (gm n t r != 0) with
 | true => simp only [cond_true, h1]
 | false =>
  have ok := nC (n := n) ht (show gm n t r = 0 by simpa using h1)
  have d1 := eh r.keep.nodes r.left.graph.nodes.length
  have d2 := eh r.keep.edges r.left.graph.edges.length
  have d3 := eh r.into.nodes r.right.graph.nodes.length
  have d4 := eh r.into.edges r.right.graph.edges.length
  have b1 := hr.left.g.n
  have b2 := hr.left.g.e
  have b3 := hr.right.g.n
  have b4 := hr.right.g.e
  have tn := ok.left.ok.n
  have l1 := bS (F := layering_of.l0 t r [] [] (gU r) (lC r) (gU r).length) (gU r) (t, r, ([], [], ()), gU r, lC r, ()) (fun _ x => cond (nO t (lP r.left.graph x)) (some (([], [], ()), 13, ())) none) ((gU r).length + 1) (fun m => by simp only [layering_of.l0, az, cond_false]) (fun m i x hx _ => by
   have hi := aL hx
   have hm := cG (cJ hx)
   obtain ⟨y, y1, _, y3⟩ := bw hm.1 hm.2
   have hil : (gU r).length ≤ 200 := by simp only [gU]; omega
   have c1 := bz (l := t.nodes) (q := fun z6 => eU z6.1 r x) (p := fun m => m.parent == y) (fun z _ => by simp only [eU, y1, Option.bind_some]) (cO (m := 12) tn (by omega))
   simp only [layering_of.l0, aQ hi, iv, Bool.and_true, cond_true, Int.toNat_natCast, fD hx, xJ, c1, Option.bind_some, lP, y1, Option.getD_some, nO, cS, wS (show i < 4611686018427387904 by omega)]) (by omega)
  rw [bH (fun x => nO t (lP r.left.graph x))] at l1
  simp only [cond_false, Int.toNat_natCast, bne_self_eq_false, l1, Option.bind_some, fF]
  cases h2 : ((gU r).any fun i => nO t (lP r.left.graph i)) with
  | true => rfl
  | false =>
   simp only [cond_false, aG, (vy ht hr hk).1, h1, Option.bind_some, xA ok.left (nodes := gU r) (edges := lC r) (k := k) (fun x hx => cG hx) (fun x hx => cG hx) (by simp only [gU]; omega) (by simp only [lC]; omega) (by omega),
    xA ok.right (nodes := li r) (edges := lq r) (k := k) (fun x hx => cG hx) (fun x hx => cG hx) (by simp only [li]; omega) (by simp only [lq]; omega) (by omega)]
   rfl
def jm (n : Nat) (t : ad) (rs : List aH) : Int := cond (jA t != 0) (jA t) (cond (decide ((rs.length : Int) > 6)) 3 (lk (bU (fun _ r => cond (hO n t r != 0) (some (hO n t r, ())) none) rs)))
theorem ow {α β : Type} (f : α → β) : ∀ (l : List α) (s : List β), l.foldl (fun s x => s ++ [f x]) s = s ++ l.map f
 | [], s => by simp
 | x :: l, s => by rw [List.foldl_cons, ow f l]; simp
theorem uu {α B B' : Type} (h : B → B') (p : α → Bool) (v : α → B) (l : List α) : bU (fun _ x => cond (p x) (some (h (v x))) none) l = (bU (fun _ x => cond (p x) (some (v x)) none) l).map h := by
 unfold bU
 generalize 0 = i
 generalize l.length = c
 induction c generalizing i with
 | zero => rfl
 | succ c ih =>
  rw [dk, dk]
  cases l[i]? with
  | none => exact ih (i + 1)
  | some x =>
   simp only [Option.bind_some]
   cases p x with
   | true => rfl
   | false => exact ih (i + 1)
theorem sX {k n : Nat} {t : ad} {rs : List aH} (ht : BT t) (hr : ∀ r ∈ rs, sI n r) (hl : rs.length ≤ 1000) (hk : 20000 + n < k) :
  layering_given k t rs = some (cond (jm n t rs != 0) [] (rs.map (dF t)), jm n t rs, ()) := by
 have L := vO (F := layering_given.l0 k t rs rs.length) rs (fun s => (s, ())) (fun r => cond (hO n t r != 0) (some (([] : List a8), hO n t r, ())) none) (fun r s => s ++ [zt n t r]) (fun i s => s.length = i) (rs.length + 1) [] rfl
  (fun m s _ => by simp only [layering_given.l0, az, cond_false]) (fun m s i x hx hs => by
   have hi := aL hx
   simp only [layering_given.l0, aQ hi, cond_true, idx_some hx, zi ht (hr x (cJ hx)) hk, Option.bind_some, List.length_cons, List.length_nil, Nat.zero_add, bB (show s.length + 1 ≤ 1000000 by omega), cS, wS (show i < 4611686018427387904 by omega)]) (fun s i x _ _ h => by simp [h]) (by omega)
 rw [ow, uu (fun e => (([] : List a8), e)) (fun r => hO n t r != 0) (fun r => (hO n t r, ()))] at L
 simp only [layering_given, (gQ ht (show 2000 < k by omega)).1, Option.bind_some, jm, Int.toNat_natCast, L]
 cases h0 : (jA t != 0) with
 | true => simp only [cond_true, h0]
 | false =>
  cases decide ((rs.length : Int) > 6) with
  | true => rfl
  | false =>
   simp only [cond_false]
   cases hf : bU (fun _ r => cond (hO n t r != 0) (some (hO n t r, ())) none) rs with
   | some z =>
    have : (z.1 != 0) = true := by
     obtain ⟨j, _, _, j3, _⟩ := dy hf
     obtain ⟨x, _, j5⟩ := Option.bind_eq_some_iff.1 j3
     dsimp only at j5
     cases hc : (hO n t x != 0) with
     | false => rw [hc] at j5; cases j5
     | true => rw [hc] at j5; cases j5; exact hc
    simp only [Option.map_some, Option.elim, aG, lk, this, cond_true]
   | none =>
    simp only [Option.map_none, Option.elim, aG, lk, bne_self_eq_false, cond_false, List.nil_append]
    congr 2
    refine List.map_congr_left fun r hr => ?_
    obtain ⟨i, hi, rfl⟩ := List.getElem_of_mem hr
    have := yP (eJ.1 hf i _ (List.getElem?_eq_getElem hi))
    simp only [zt, this, bne_self_eq_false, cond_false]
theorem tN {k n : Nat} {t : ad} {rs : List aH} (ht : BT t) (hr : ∀ r ∈ rs, sI n r) (hl : rs.length ≤ 1000) (hk : 20000 + n < k) : scarfjointref40_Given k t rs = some (jm n t rs, ()) := by
 simp only [scarfjointref40_Given, (gQ ht (show 2000 < k by omega)).2, Option.bind_some, jm]
 cases h0 : (jA t != 0) with
 | true => rfl
 | false =>
  cases decide ((rs.length : Int) > 6) with
  | true => rfl
  | false =>
   have t0 : jA t = 0 := by simpa using h0
   rw [cond_false, cond_false, bS (F := fun m i => scarfjointref40_Given.l0 k m rs t i) rs () (fun _ r => cond (hO n t r != 0) (some (hO n t r, ())) none) k (fun m => by simp only [scarfjointref40_Given.l0, az, cond_false]) (fun m i x hx _ => by
    have hi := aL hx
    have hru := hr x (cJ hx)
    simp only [scarfjointref40_Given.l0, aQ hi, cond_true, idx_some hx, (rH ht hru hk).2, Option.bind_some, hO]
    cases h1 : (gm n t x != 0) with
    | true => simp only [cond_true, h1]; rfl
    | false =>
     have ok := nC (n := n) ht (show gm n t x = 0 by simpa using h1)
     have d1 := eh x.keep.nodes x.left.graph.nodes.length
     have b1 := hru.left.g.n
     have l2 := bS (F := scarfjointref40_Given.l2 k rs t i (gU x)) (gU x) (rs, t, (i : Int), ()) (fun _ y => cond (nO t (lP x.left.graph y)) (some (13, ())) none) k (fun m => by simp only [scarfjointref40_Given.l2, az, cond_false]) (fun m j y hy _ => by
      have hj := aL hy
      have hm := cG (cJ hy)
      have hil : (gU x).length ≤ 200 := by simp only [gU]; omega
      obtain ⟨z, z1, _, z3⟩ := bw hm.1 hm.2
      have hz := lz ok.left z3
      simp only [scarfjointref40_Given.l2, aQ hj, iv, Bool.and_true, cond_true, idx_some hx, Int.toNat_natCast, fD hy, z1, wd ok.left.ok t0 hz (show 20000 < k by omega), Option.bind_some, uI ok.left.ok hz, lP, Option.getD_some, cS, wS (show j < 4611686018427387904 by omega)]) (by simp only [gU]; omega)
     rw [bH (fun y => nO t (lP x.left.graph y))] at l2
     simp only [cond_false, bne_self_eq_false, l2, Option.bind_some, fF]
     cases ((gU x).any fun y => nO t (lP x.left.graph y)) with
     | true => rfl
     | false => simp only [cond_false, aG, wS (show i < 4611686018427387904 by omega)]; rfl) (by omega)]
   exact ks _
structure uZ (n : Nat) (t : ad) (rs : List aH) : Prop where
 t0 : jA t = 0
 l : rs.length ≤ 6
 e : ∀ r ∈ rs, hO n t r = 0
theorem pD {n : Nat} {t : ad} {rs : List aH} (h : jm n t rs = 0) : uZ n t rs := by
 obtain ⟨h1, h⟩ := uL h
 obtain ⟨h2, h⟩ := yF h (by decide)
 refine ⟨h1, by simp at h2; omega, fun r hr => ?_⟩
 cases hf : bU (fun _ r => cond (hO n t r != 0) (some (hO n t r, ())) none) rs with
 | some z =>
  rw [hf] at h
  obtain ⟨j, _, _, j3, _⟩ := dy hf
  obtain ⟨x, _, j5⟩ := Option.bind_eq_some_iff.1 j3
  dsimp only at j5
  cases hc : (hO n t x != 0) with
  | false => rw [hc] at j5; cases j5
  | true => rw [hc] at j5; cases j5; simp only [lk] at h; simp only [bne, h] at hc; cases hc
 | none =>
  obtain ⟨i, hi, rfl⟩ := List.getElem_of_mem hr
  exact yP (eJ.1 hf i _ (List.getElem?_eq_getElem hi))
theorem tj {n : Nat} {t : ad} {r : aH} (ht : BT t) (h : hO n t r = 0) : gm n t r = 0 ∧ zJ t r := by
 obtain ⟨h1, _⟩ := uL h
 exact ⟨h1, nC ht h1⟩
theorem kR {k n : Nat} {t : ad} {r : aH} (ht : BT t) (hr : sI n r) (h : hO n t r = 0) (hk : 20000 + n < k) : aI k t r = some ((dF t r).deletes, ()) ∧ bp k t r = some ((dF t r).creates, ()) := by
  obtain ⟨h1, ok⟩ := tj ht h
  have d1 := eh r.keep.nodes r.left.graph.nodes.length
  have d2 := eh r.keep.edges r.left.graph.edges.length
  have d3 := eh r.into.nodes r.right.graph.nodes.length
  have d4 := eh r.into.edges r.right.graph.edges.length
  have b1 := hr.left.g.n
  have b2 := hr.left.g.e
  have b3 := hr.right.g.n
  have b4 := hr.right.g.e
  simp only [aI, bp, (rH ht hr hk).2, (vy ht hr hk).2, h1, bne_self_eq_false, cond_false, Option.bind_some, vz ok.left (nodes := gU r) (edges := lC r) (k := k) (fun x hx => cG hx) (fun x hx => cG hx) (by simp only [gU]; omega) (by simp only [lC]; omega) (by omega),
        vz ok.right (nodes := li r) (edges := lq r) (k := k) (fun x hx => cG hx) (fun x hx => cG hx) (by simp only [li]; omega) (by simp only [lq]; omega) (by omega), dF, and_self]
end Go.Ev.Pl
end
section
set_option linter.unusedVariables false
namespace Go.Ev.Pl
def mi : Nat := 140737488355328
theorem nt {α S A : Type} {F : Nat → S → Int → Option (Sum A (Bool × Unit))} (l : List α) (Q : α → Prop) (fX : Nat → S → Prop) (fin : S → A) (fuel : Nat) (s : S) (hs : fX 0 s)
  (h0 : ∀ n s, fX l.length s → F (n + 1) s (l.length : Int) = some (.inl (fin s)))
  (h1 : ∀ n s (i : Nat) x, l[i]? = some x → fX i s → F (n + 1) s (i : Int) = some (.inr (false, ())) ∨ ∃ s', fX (i + 1) s' ∧ Q x ∧ F (n + 1) s (i : Int) = F n s' ((i + 1 : Nat) : Int))
  (hf : l.length < fuel) : F fuel s 0 = some (.inr (false, ())) ∨ ∃ s', fX l.length s' ∧ F fuel s 0 = some (.inl (fin s')) ∧ ∀ x ∈ l, Q x := by
 suffices H : ∀ c i fuel s, l.length - i = c → i ≤ l.length → l.length - i < fuel → fX i s → (∀ j x, j < i → l[j]? = some x → Q x) → F fuel s (i : Int) = some (.inr (false, ())) ∨ ∃ s', fX l.length s' ∧ F fuel s (i : Int) = some (.inl (fin s')) ∧ ∀ x ∈ l, Q x from
  H _ 0 fuel s rfl (by omega) (by omega) hs (fun j x h => by omega)
 intro c
 induction c with
 | zero =>
  intro i fuel s hc hi hf hs hq
  obtain rfl : i = l.length := by omega
  cases fuel with
  | zero => omega
  | succ n =>
   refine .inr ⟨s, hs, h0 n s hs, fun x hx => ?_⟩
   obtain ⟨j, hj, rfl⟩ := List.getElem_of_mem hx
   exact hq j _ hj (List.getElem?_eq_getElem hj)
 | succ c ih =>
  intro i fuel s hc hi hf hs hq
  cases fuel with
  | zero => omega
  | succ n =>
   have hlt : i < l.length := by omega
   have hx : l[i]? = some l[i] := List.getElem?_eq_getElem hlt
   rcases h1 n s i _ hx hs with e | ⟨s', i', q', e⟩
   ·exact .inl e
   ·rw [e]
    exact ih (i + 1) n s' (by omega) (by omega) (by omega) i' fun j x h h2 => by
     by_cases e : j = i
     ·subst e; rw [hx] at h2; cases h2; exact q'
     ·exact hq j x (by omega) h2
theorem yV {k : Nat} {t : ad} (hs : ∀ x ∈ t.nodes, x.attrs.length ≤ mi) (hk : 2000 < k) : ∃ b, scarfjointref04_Few k t = some (b, ()) ∧ (b = true → BT t) := by
 simp only [scarfjointref04_Few, eX, i9, Option.bind_some]
 cases h1 : (decide ((t.nodes.length : Int) > 20) || decide ((t.edges.length : Int) > 30)) with
 | true => exact ⟨false, rfl, fun h => by cases h⟩
 | false =>
  have b1 : t.nodes.length ≤ 20 ∧ t.edges.length ≤ 30 := by simp at h1; omega
  have L := nt (F := fun n s i => scarfjointref04_Few.l0 k n t s i) t.nodes (fun x => x.name.size ≤ 40 ∧ x.attrs.length ≤ 30 ∧ ∀ a ∈ x.attrs, BA a) (fun _ (s : Int) => 0 ≤ s ∧ s ≤ 30) (fun s => (t, ())) k 0 (by omega) (fun n s _ => by simp only [scarfjointref04_Few.l0, az, cond_false]) (fun n s i x hx hI => by
   have hi := aL hx
   have hax := hs x (cJ hx)
   simp only [mi] at hax
   have ew : IntKind.i64.wrap (s + (x.attrs.length : Int)) = s + (x.attrs.length : Int) := jC (by omega) (by omega)
   simp only [scarfjointref04_Few.l0, aQ hi, cond_true, idx_some hx, Option.bind_some, eX, i9, ew]
   cases h2 : (decide (s + (x.attrs.length : Int) > 30) || decide ((x.name.size : Int) > 40)) with
   | true => exact .inl rfl
   | false =>
    have b2 : s + (x.attrs.length : Int) ≤ 30 ∧ x.name.size ≤ 40 := by simp at h2; omega
    have L2 := nt (F := fun n (_ : Unit) j => scarfjointref04_Few.l2 k n t (s + (x.attrs.length : Int)) i j) x.attrs BA (fun _ _ => True) (fun _ => (t, s + (x.attrs.length : Int), (i : Int), ())) k () trivial (fun n _ _ => by simp only [scarfjointref04_Few.l2, idx_some hx, Option.bind_some, az, cond_false]) (fun n _ j a ha _ => by
     have hj := aL ha
     simp only [scarfjointref04_Few.l2, idx_some hx, idx_some ha, Option.bind_some, aQ hj, cond_true, eX, i9]
     cases h3 : (decide ((a.name.size : Int) > 40) || decide ((a.names.length : Int) > 25)) with
     | true => exact .inl rfl
     | false =>
      have b3 : a.name.size ≤ 40 ∧ a.names.length ≤ 25 := by simp at h3; omega
      have L4 := nt (F := fun n (_ : Unit) q => scarfjointref04_Few.l4 t (s + (x.attrs.length : Int)) i j a n q) a.names (fun z => z.size ≤ 40) (fun _ _ => True) (fun _ => (t, s + (x.attrs.length : Int), (i : Int), (j : Int), ())) k () trivial (fun n _ _ => by simp only [scarfjointref04_Few.l4, az, cond_false]) (fun n _ q z hz _ => by
       simp only [scarfjointref04_Few.l4, idx_some hz, Option.bind_some, aQ (aL hz), cond_true, wS (show q < 4611686018427387904 by have := aL hz; omega)]
       by_cases h4 : (z.size : Int) > 40
       ·simp [h4]
       ·refine .inr ⟨(), trivial, by omega, ?_⟩; simp [h4]) (by omega)
      simp only [cond_false]
      rcases L4 with e | ⟨_, _, e, q4⟩
      ·rw [e]; exact .inl rfl
      ·rw [e]
       refine .inr ⟨(), trivial, ⟨b3.1, b3.2, q4⟩, ?_⟩
       simp only [Option.bind_some, aG, wS (show j < 4611686018427387904 by omega)]) (by omega)
    simp only [cond_false]
    rcases L2 with e | ⟨_, _, e, q2⟩
    ·rw [e]; exact .inl rfl
    ·rw [e]
     refine .inr ⟨s + (x.attrs.length : Int), by omega, ⟨b2.2, by omega, q2⟩, ?_⟩
     simp only [Option.bind_some, aG, wS (show i < 4611686018427387904 by omega)]) (by omega)
  simp only [cond_false]
  rcases L with e | ⟨_, _, e, q⟩
  ·rw [e]; exact ⟨false, rfl, fun h => by cases h⟩
  ·have L6 := nt (F := fun n (_ : Unit) j => scarfjointref04_Few.l6 t n j) t.edges (fun z => z.name.size ≤ 40) (fun _ _ => True) (fun _ => ()) k () trivial (fun n _ _ => by simp only [scarfjointref04_Few.l6, az, cond_false]) (fun n _ j z hz _ => by
    simp only [scarfjointref04_Few.l6, idx_some hz, Option.bind_some, aQ (aL hz), cond_true, wS (show j < 4611686018427387904 by have := aL hz; omega)]
    by_cases h4 : (z.name.size : Int) > 40
    ·simp [h4]
    ·refine .inr ⟨(), trivial, by omega, ?_⟩; simp [h4]) (by omega)
   rw [e]
   simp only [Option.bind_some, aG]
   rcases L6 with e6 | ⟨_, _, e6, q6⟩
   ·rw [e6]; exact ⟨false, rfl, fun h => by cases h⟩
   ·rw [e6]
    exact ⟨true, rfl, fun _ => ⟨b1.1, b1.2, fun x hx => (q x hx).1, fun x hx => (q x hx).2.1, fun x hx => (q x hx).2.2, q6⟩⟩
theorem w9 (p : aj) : ∃ b, bo p = some (b, ()) ∧ (b = true → BP p) := by
 simp only [bo, db, eX, kf, Option.bind_some]
 refine ⟨_, rfl, fun h => ?_⟩
 simp at h
 exact ⟨⟨by omega, by omega⟩, by omega, by omega⟩
theorem xD {m : aP} (h1 : m.nodes.length ≤ mi) (h2 : m.edges.length ≤ mi) : ∃ b, bW m 140 = some (b, ()) ∧ (b = true → BM m) := by
 simp only [mi] at h1 h2
 refine ⟨_, rfl, fun h => ?_⟩
 rw [jC (by omega) (by omega)] at h
 simp at h
 exact ⟨by omega, by omega⟩
theorem yZ {m : eB} (h1 : m.nodes.length ≤ mi) (h2 : m.edges.length ≤ mi) : ∃ b, de m 140 = some (b, ()) ∧ (b = true → m7 m) := by
 simp only [mi] at h1 h2
 refine ⟨_, rfl, fun h => ?_⟩
 rw [jC (by omega) (by omega)] at h
 simp at h
 exact ⟨by omega, by omega⟩
inductive yM : ae → Prop where
 | mk (c : ae) (h1 : c.map.nodes.length ≤ mi) (h2 : c.map.edges.length ≤ mi) (h3 : c.kids.length ≤ mi) (h : ∀ d ∈ c.kids, yM d) : yM c
theorem t8 : ∀ {n n' : Nat} {c : ae}, BC n c → n ≤ n' → BC n' c
 | 0, _, c, h, _ => h.elim
 | n + 1, 0, c, _, h => by omega
 | n + 1, n' + 1, c, h, hn => ⟨h.1, h.2.1, h.2.2.1, fun d hd => t8 (h.2.2.2 d hd) (by omega)⟩
theorem tv {m : Nat} {c : ae} {rec_ : ae → Int → Option (Int × Unit)} (hk : c.kids.length ≤ mi)
  (hr : ∀ d ∈ c.kids, ∀ q : Nat, q < m → ∃ r, rec_ d q = some (r, ()) ∧ -1 ≤ r ∧ r ≤ (q : Int) - 1 ∧ (0 ≤ r → BC m d)) :
  ∀ (fuel : Nat) (q : Int) (i : Nat), -1 ≤ q → q < m → q + 1 < fuel → i ≤ c.kids.length → (0 ≤ q → ∀ j d, j < i → c.kids[j]? = some d → BC m d) →
   ∃ r, scarfjointref22_left.l0 rec_ c fuel q i = some (r, ()) ∧ -1 ≤ r ∧ r ≤ q ∧ (0 ≤ r → (∀ d ∈ c.kids, BC m d) ∧ (c.kids.length : Int) + r ≤ i + q)
 | 0, q, i, h, _, h2, _, _ => by omega
 | fuel + 1, q, i, h, h1, h2, hi, hp => by
  simp only [mi] at hk
  by_cases hc : (i : Int) < c.kids.length ∧ q ≥ 0
  ·have hlt : i < c.kids.length := by omega
   have hx : c.kids[i]? = some c.kids[i] := List.getElem?_eq_getElem hlt
   obtain ⟨Q, rfl⟩ : ∃ Q : Nat, q = Q := ⟨q.toNat, by omega⟩
   obtain ⟨r, r1, r2, r3, r4⟩ := hr _ (List.getElem_mem hlt) Q (by omega)
   obtain ⟨z, z1, z2, z3, z4⟩ := tv (by simp only [mi]; omega) hr fuel r (i + 1) r2 (by omega) (by omega) (by omega) (fun h0 j d hj hd => by
    by_cases e : j = i
    ·subst e; rw [hx] at hd; cases hd; exact r4 h0
    ·exact hp hc.2 j d (by omega) hd)
   refine ⟨z, ?_, z2, by omega, fun h0 => ?_⟩
   ·have d1 : decide ((Q : Int) ≥ 0) = true := decide_eq_true hc.2
    simp only [scarfjointref22_left.l0, aQ hlt, d1, cond_true, Option.bind_some, idx_some hx, r1, wS (show i < 4611686018427387904 by omega)]
    exact z1
   ·have := (z4 h0).2; exact ⟨(z4 h0).1, by omega⟩
  ·refine ⟨q, ?_, h, Int.le_refl _, fun h0 => ⟨fun d hd => ?_, by omega⟩⟩
   ·simp only [scarfjointref22_left.l0, eX, kf]
    have : (decide ((i : Int) < (c.kids.length : Int)) && decide (q ≥ 0)) = false := by simp; omega
    rw [this]; rfl
   ·obtain ⟨j, hj, rfl⟩ := List.getElem_of_mem hd
    exact hp h0 j _ (by omega) (List.getElem?_eq_getElem hj)
theorem tK : ∀ (m k : Nat) (c : ae), m ≤ 40 → yM c → 200 + m < k → ∃ r, scarfjointref22_left k c m = some (r, ()) ∧ -1 ≤ r ∧ r ≤ (m : Int) - 1 ∧ (0 ≤ r → BC (m + 1) c)
 | m, 0, c, _, _, h => by omega
 | m, k + 1, c, hm, hs, hk => by
  cases hs with
  | mk c h1 h2 h3 h4 =>
   obtain ⟨b1, e1, p1⟩ := w9 c.pattern
   obtain ⟨b2, e2, p2⟩ := xD h1 h2
   simp only [scarfjointref22_left, e1, e2, Option.bind_some, eX, i9]
   cases hb : (!b1 || !b2) with
   | true => exact ⟨-1, rfl, by omega, by omega, fun h => by omega⟩
   | false =>
    have hb' : b1 = true ∧ b2 = true := by simpa using hb
    have ew : IntKind.i64.wrap ((m : Int) - 1) = (m : Int) - 1 := jC (by omega) (by omega)
    obtain ⟨r, r1, r2, r3, r4⟩ := tv (m := m) (c := c) (rec_ := scarfjointref22_left k) h3 (fun d hd q hq => by
     obtain ⟨r, r1, r2, r3, r4⟩ := tK q k d (by omega) (h4 d hd) (by omega)
     exact ⟨r, r1, r2, r3, fun h => t8 (r4 h) (by omega)⟩) k ((m : Int) - 1) 0 (by omega) (by omega) (by omega) (by omega) (fun _ j d h => by omega)
    rw [show ((0 : Nat) : Int) = 0 from rfl] at r1
    simp only [cond_false, ew, r1, Option.bind_some]
    refine ⟨r, rfl, r2, r3, fun h => ?_⟩
    obtain ⟨z1, z2⟩ := r4 h
    exact ⟨p1 hb'.1, p2 hb'.2, by omega, z1⟩
structure yO (r : aH) : Prop where
 k1 : r.keep.nodes.length ≤ mi
 k2 : r.keep.edges.length ≤ mi
 i1 : r.into.nodes.length ≤ mi
 i2 : r.into.edges.length ≤ mi
 c : yM r.condition
theorem yB {k : Nat} {r : aH} (hs : yO r) (hk : 20000 < k) : ∃ b, cH k r = some (b, ()) ∧ (b = true → sI 41 r) := by
 obtain ⟨b1, e1, p1⟩ := w9 r.left
 obtain ⟨b2, e2, p2⟩ := w9 r.right
 obtain ⟨b3, e3, p3⟩ := yZ hs.k1 hs.k2
 obtain ⟨b4, e4, p4⟩ := xD hs.i1 hs.i2
 obtain ⟨z, e5, z1, z2, p5⟩ := tK 40 k r.condition (by omega) hs.c (by omega)
 rw [show ((40 : Nat) : Int) = 40 from rfl] at e5
 simp only [cH, dc, e1, e2, e3, e4, e5, Option.bind_some, eX, kf]
 refine ⟨_, rfl, fun h => ?_⟩
 simp at h
 exact ⟨by omega, p1 h.2.1, p2 h.2.2.1, p3 h.2.2.2.1, p4 h.2.2.2.2.1, p5 (by omega)⟩
theorem yJ {k : Nat} {t : ad} {rs : List aH} (ht : ∀ x ∈ t.nodes, x.attrs.length ≤ mi) (hr : ∀ r ∈ rs, yO r) (hk : 20000 < k) : ∃ b, scarfjointref40_Few k t rs = some (b, ()) ∧ (b = true → BT t ∧ rs.length ≤ 8 ∧ ∀ r ∈ rs, sI 41 r) := by
 obtain ⟨b1, e1, p1⟩ := yV (k := k) ht (by omega)
 simp only [scarfjointref40_Few, e1, Option.bind_some, eX, i9]
 cases hb : (!b1 || decide ((rs.length : Int) > 8)) with
 | true => exact ⟨false, rfl, fun h => by cases h⟩
 | false =>
  have hb' : b1 = true ∧ rs.length ≤ 8 := by simp at hb; exact ⟨hb.1, by omega⟩
  have L := nt (F := fun n (_ : Unit) i => scarfjointref40_Few.l0 k rs n i) rs (sI 41) (fun _ _ => True) (fun _ => ()) k () trivial (fun n _ _ => by simp only [scarfjointref40_Few.l0, az, cond_false]) (fun n _ i x hx _ => by
   obtain ⟨b, e, p⟩ := yB (k := k) (hr x (cJ hx)) hk
   simp only [scarfjointref40_Few.l0, aQ (aL hx), cond_true, idx_some hx, e, Option.bind_some, wS (show i < 4611686018427387904 by have := aL hx; omega)]
   cases b with
   | false => exact .inl rfl
   | true => exact .inr ⟨(), trivial, p rfl, rfl⟩) (by omega)
  simp only [cond_false]
  rcases L with e | ⟨_, _, e, q⟩
  ·rw [e]; exact ⟨false, rfl, fun h => by cases h⟩
  ·rw [e]; exact ⟨true, rfl, fun _ => ⟨p1 hb'.1, hb'.2, q⟩⟩
theorem za : bI 40000 = some (true, ()) := by kernel_rfl
end Go.Ev.Pl
end
section
namespace Go.Ev.Pl
theorem lO {E : dD} {n : Nat} {x : an E.C (.nm n)} (h : iP E (.nm n) x) : iP E (E.fld n) (E.proj n x) := by
 cases h; assumption
theorem be {E : dD} {a b : Ty} {p : an E.C a × an E.C b} (h : iP E (.pair a b) p) : iP E a p.1 ∧ iP E b p.2 := by
 cases h; exact ⟨by assumption, by assumption⟩
theorem fQ {E : dD} {e : Ty} {l : List (an E.C e)} (h : iP E (.slice e) l) : l.length ≤ mi ∧ ∀ x ∈ l, iP E e x := by
 cases h with
 | slice _ _ hl h =>
  refine ⟨Nat.le_trans hl (by decide), fun x hx => ?_⟩
  obtain ⟨i, hi, rfl⟩ := List.getElem_of_mem hx
  exact h i _ (List.getElem?_eq_getElem hi)
theorem szT {t : ad} (h : iP env (.nm 3) t) : ∀ x ∈ t.nodes, x.attrs.length ≤ mi := by
 have h1 : iP env (.pair (.slice (.nm 1)) (.pair (.slice (.nm 2)) .unit)) (t.nodes, t.edges, ()) := lO h
 have h2 := (fQ (be h1).1).2
 intro x hx
 have h3 : iP env (.pair .str (.pair (.int .i64) (.pair .bool (.pair (.slice (.nm 0)) .unit)))) (x.name, x.parent, x.abstract, x.attrs, ()) := lO (h2 x hx)
 exact (fQ (be (be (be (be h3).2).2).2).1).1
theorem zH {m : aP} (h : iP env (.nm 11) m) : m.nodes.length ≤ mi ∧ m.edges.length ≤ mi := by
 have h1 : iP env (.pair (.slice (.int .i64)) (.pair (.slice (.int .i64)) .unit)) (m.nodes, m.edges, ()) := lO h
 exact ⟨(fQ (be h1).1).1, (fQ (be (be h1).2).1).1⟩
theorem zM {m : eB} (h : iP env (.nm 10) m) : m.nodes.length ≤ mi ∧ m.edges.length ≤ mi := by
 have h1 : iP env (.pair (.slice (.int .i64)) (.pair (.slice (.int .i64)) .unit)) (m.nodes, m.edges, ()) := lO h
 exact ⟨(fQ (be h1).1).1, (fQ (be (be h1).2).1).1⟩
theorem zI : ∀ c : ae, iP env (.nm 12) c → yM c
 | ⟨kind, kids, map, pattern⟩, h => by
  have h1 : iP env (.pair (.int .i64) (.pair (.slice (.nm 12)) (.pair (.nm 11) (.pair (.nm 9) .unit)))) (kind, kids, map, pattern, ()) := lO h
  obtain ⟨k1, k2⟩ := fQ (be (be h1).2).1
  obtain ⟨m1, m2⟩ := zH (be (be (be h1).2).2).1
  exact .mk _ m1 m2 k1 fun d hd => zI d (k2 d hd)
termination_by c => SizeOf.sizeOf c
decreasing_by
 have hd : d ∈ kids := hd
 have := List.sizeOf_lt_of_mem hd
 simp
 omega
theorem zS {r : aH} (h : iP env (.nm 13) r) : yO r := by
 have h1 : iP env (.pair .str (.pair (.nm 9) (.pair (.nm 9) (.pair (.nm 10) (.pair (.nm 11) (.pair .bool (.pair (.nm 12) .unit))))))) (r.name, r.left, r.right, r.keep, r.into, r.injective, r.condition, ()) := lO h
 have h2 := (be (be (be h1).2).2).2
 obtain ⟨p1, p2⟩ := zM (be h2).1
 obtain ⟨m1, m2⟩ := zH (be (be h2).2).1
 exact ⟨p1, p2, m1, m2, zI _ (be (be (be (be h2).2).2).2).1⟩
theorem zy {rs : List aH} (h : iP env (.slice (.nm 13)) rs) : ∀ r ∈ rs, yO r := fun r hr => zS ((fQ h).2 r hr)
end Go.Ev.Pl
end
section
set_option linter.unusedVariables false
namespace Go.Ev.Pl
structure uM (P : Nat) (e : a8) : Prop where
 d : ∀ x ∈ e.deletes, 0 ≤ x ∧ x < P
 c : ∀ x ∈ e.creates, 0 ≤ x ∧ x < P
 dl : e.deletes.length ≤ 32
 cl : e.creates.length ≤ 32
theorem uU {t : ad} {g : ah} (h : jS t g) {nodes edges : List Int} (hn : ∀ x ∈ nodes, 0 ≤ x ∧ x < g.nodes.length) (he : ∀ x ∈ edges, 0 ≤ x ∧ x < g.edges.length) : (∀ x ∈ plS t g nodes edges, 0 ≤ x ∧ x < (t.nodes.length + t.edges.length : Nat)) ∧ (plS t g nodes edges).length ≤ 32 := by
 rw [← sM h hn he]
 have h1 := h.ok.n
 have h2 := h.ok.e
 refine ⟨fun x hx => ?_, ?_⟩
 ·obtain ⟨i, hi, hx⟩ := List.mem_flatMap.1 hx
  have hi : i < t.nodes.length + t.edges.length := by simpa using hi
  unfold wj at hx
  cases hc : (nodes.any (fun j => lP g j == (i : Int)) || edges.any (fun j => pY t g j == (i : Int))) with
  | false => rw [hc] at hx; simp at hx
  | true => rw [hc] at hx; simp at hx; omega
 ·have := fi (f := wj t g nodes edges) (c := 1) (fun j => by unfold wj; cases (nodes.any (fun i => lP g i == (j : Int)) || edges.any (fun i => pY t g i == (j : Int))) <;> simp) (t.nodes.length + t.edges.length)
  omega
theorem sf {n : Nat} {t : ad} {r : aH} (ht : BT t) (h : hO n t r = 0) : uM (t.nodes.length + t.edges.length) (dF t r) := by
 obtain ⟨_, ok⟩ := tj ht h
 have h1 := uU ok.left (nodes := gU r) (edges := lC r) (fun x hx => cG hx) (fun x hx => cG hx)
 have h2 := uU ok.right (nodes := li r) (edges := lq r) (fun x hx => cG hx) (fun x hx => cG hx)
 exact ⟨h1.1, h2.1, h1.2, h2.2⟩
theorem nT {n : Nat} {t : ad} {rs : List aH} (ht : BT t) (ok : uZ n t rs) : t.nodes.length ≤ 12 ∧ t.edges.length ≤ 20 := by
 have := kr ht ok.t0
 exact ⟨this.n, this.e⟩
theorem rP {n : Nat} {t : ad} {rs : List aH} (ht : BT t) (ok : uZ n t rs) : (∀ e ∈ rs.map (dF t), uM (t.nodes.length + t.edges.length) e) ∧ (rs.map (dF t)).length ≤ 6 := by
 refine ⟨fun e he => ?_, by rw [List.length_map]; exact ok.l⟩
 obtain ⟨r, hr, rfl⟩ := List.mem_map.1 he
 exact sf ht (ok.e r hr)
def kg (k : Int) : Bool := decide (k < 0) || decide (k > 100)
theorem kC {l : List Int} {n : Int} (hl : l.length ≤ 1000) : cz l n = some (((l.length : Int) == n) && !(l.any kg), ()) := by
 have h := bz (l := l) (q := fun z1 => cN z1.1) (p := kg) (fun x _ => by simp only [cN, eX, i9, Option.bind_some, kg]) (cO hl (by omega))
 simp only [cz, kx, h, Option.bind_some, eX, kf]
theorem vV {k : Nat} {l : List Int} (hl : l.length ≤ 1000) (hk : 20000 < k) : scarfjointref40_in k l = some (!(l.any kg), ()) := by
 have h := bS (F := scarfjointref40_in.l0 l) l () (fun _ x => cond (kg x) (some (false, ())) none) k (fun n => by simp only [scarfjointref40_in.l0, az, cond_false]) (fun n i x hx _ => by
  simp only [scarfjointref40_in.l0, aQ (aL hx), cond_true, idx_some hx, Option.bind_some, eX, i9, kg, cS, wS (show i < 4611686018427387904 by have := aL hx; omega)]) (by omega)
 rw [bH kg] at h
 simp only [scarfjointref40_in, h, Option.bind_some, fF]
 cases l.any kg <;> rfl
theorem uk {a b : List Int} (ha : a.length ≤ 1000) (hb : b.length ≤ 1000) : slices_Concat_lint [a, b] = some (a ++ b, ()) := by
 have w1 : IntKind.i64.wrap (0 + (a.length : Int)) = (a.length : Int) := by rw [jC (by omega) (by omega)]; omega
 have w2 : IntKind.i64.wrap ((a.length : Int) + (b.length : Int)) = ((a.length + b.length : Nat) : Int) := by rw [jC (by omega) (by omega)]; omega
 have e1 : slices_Concat_lint.l0 [a, b] [a, b] 2 3 0 0 = some ([a, b], ((a.length + b.length : Nat) : Int), ()) := by
  have d1 : ¬ ((a.length : Int) < 0) := by omega
  have d2 : ¬ (((a.length + b.length : Nat) : Int) < 0) := by omega
  have s1 : IntKind.i64.wrap ((0 : Int) + 1) = 1 := by kernel_rfl
  have s2 : IntKind.i64.wrap ((1 : Int) + 1) = 2 := by kernel_rfl
  have i1 : ay [a, b] 0 = some a := rfl
  have i2 : ay [a, b] 1 = some b := rfl
  simp only [slices_Concat_lint.l0, i1, i2, s1, s2, show decide ((0 : Int) < 2) = true from rfl, show decide ((1 : Int) < 2) = true from rfl, show decide ((2 : Int) < 2) = false from rfl, cond_true, cond_false, Option.bind_some, w1, w2, d1, d2, decide_false]
 have e2 : dq ((a.length + b.length : Nat) : Int) = some ([], ()) := by
  have d1 : ¬ (((a.length + b.length : Nat) : Int) < 0) := by omega
  have w3 : IntKind.i64.wrap (((a.length + b.length : Nat) : Int) - IntKind.i64.wrap ((0 : Int) - 0)) = ((a.length + b.length : Nat) : Int) := by
   rw [show IntKind.i64.wrap ((0 : Int) - 0) = 0 by kernel_rfl, Int.sub_zero, jC (by omega) (by omega)]
  simp only [dq, d1, decide_false, cond_false, w3]
  cases h : decide (((a.length + b.length : Nat) : Int) > 0) with
  | false => rfl
  | true =>
   have h0 : 0 < a.length + b.length := by simp at h; omega
   have hf : cE (Int.toNat ((a.length + b.length : Nat) : Int)) = true := by rw [Int.toNat_natCast]; exact bB (by omega)
   have hp : decide ((0 : Int) < ((a.length + b.length : Nat) : Int)) = true := decide_eq_true (by omega)
   have hz : decide ((0 : Int) ≤ ((List.replicate (Int.toNat ((a.length + b.length : Nat) : Int)) (0 : Int)).length : Int)) = true := decide_eq_true (by omega)
   have hy : decide (0 ≤ (List.replicate (Int.toNat ((a.length + b.length : Nat) : Int)) (0 : Int)).length) = true := decide_eq_true (by omega)
   simp only [hf, hp, hz, hy, yt, Bool.and_self, cond_true, beq_self_eq_true, Nat.le_refl, decide_true, slc, List.take_zero, List.drop_nil]
 have e3 : slices_Concat_lint.l2 [a, b] 2 3 [] 0 = some (a ++ b, ()) := by
  have s1 : IntKind.i64.wrap ((0 : Int) + 1) = 1 := by kernel_rfl
  have s2 : IntKind.i64.wrap ((1 : Int) + 1) = 2 := by kernel_rfl
  have i1 : ay [a, b] 0 = some a := rfl
  have i2 : ay [a, b] 1 = some b := rfl
  simp only [slices_Concat_lint.l2, i1, i2, s1, s2, show decide ((0 : Int) < 2) = true from rfl, show decide ((1 : Int) < 2) = true from rfl, show decide ((2 : Int) < 2) = false from rfl, cond_true, cond_false, Option.bind_some, List.length_nil, Nat.zero_add, List.nil_append, bB (show a.length ≤ 1000000 by omega), bB (show a.length + b.length ≤ 1000000 by omega)]
 have e4 : (([a, b] : List (List Int)).length : Int) = 2 := rfl
 have e5 : Int.toNat (2 : Int) + 1 = 3 := rfl
 simp only [slices_Concat_lint, e4, e5, e1, e2, e3, Option.bind_some]
def aF (L : List Int) (k : Int) : Int := (ay L k).getD 0
theorem jl {L : List Int} {k : Int} (h : 0 ≤ k ∧ k < L.length) : ay L k = some (aF L k) := by
 obtain ⟨x, x1, _, _⟩ := bw h.1 h.2
 rw [aF, x1]; rfl
def tD (L rl : List Int) (i : Nat) (e : a8) : Option (Bool × Unit) :=
 cond ((e.deletes.length : Int) == 0) (some (false, ())) (cond (e.deletes.any (fun k => decide (aF L k > aF rl i)) || e.creates.any (fun k => decide (aF L k ≤ aF rl i))) (some (false, ())) none)
theorem wR {a b : List Int} {k : Int} (h : 0 ≤ k) : ay (a ++ b) k = cond (decide (k < (a.length : Int))) (ay a k) (ay b (k - (a.length : Int))) := by
 by_cases hk : k < (a.length : Int)
 ·have : k.toNat < a.length := by omega
  simp [ay, nth, h, hk, List.getElem?_append_left this]
 ·have : a.length ≤ k.toNat := by omega
  have h2 : (0 : Int) ≤ k - a.length := by omega
  have e : k.toNat - a.length = (k - (a.length : Int)).toNat := by omega
  have d1 : decide (k < (a.length : Int)) = false := decide_eq_false hk
  rw [d1, cond_false, ay, ay, decide_eq_true h, decide_eq_true h2, cond_true, cond_true, nth, nth, List.getElem?_append_right this, e]
theorem rq {t : ad} {l : bM} {x : Int} (h1 : l.nodes.length = t.nodes.length) (h0 : 0 ≤ x) (h : x < (l.nodes ++ l.edges).length) (hn : t.nodes.length ≤ 1000) (he : l.edges.length ≤ 1000) : dE t l x = some (aF (l.nodes ++ l.edges) x, ()) := by
 have e := jl (L := l.nodes ++ l.edges) (k := x) ⟨h0, h⟩
 rw [List.length_append] at h
 rw [wR h0, h1] at e
 have w : IntKind.i64.wrap (x - (t.nodes.length : Int)) = x - (t.nodes.length : Int) := jC (by omega) (by omega)
 rw [dE, w]
 cases hd : decide (x < (t.nodes.length : Int)) with
 | true => rw [hd] at e; simp only [cond_true] at e ⊢; rw [e]; rfl
 | false => rw [hd] at e; simp only [cond_false] at e ⊢; rw [e]; rfl
theorem nU {L rl : List Int} {es : List a8} {z : Bool × Unit} (h : bU (tD L rl) es = some z) : z = (false, ()) := by
 obtain ⟨j, _, _, j3, _⟩ := dy h
 obtain ⟨x, _, j5⟩ := Option.bind_eq_some_iff.1 j3
 unfold tD at j5
 generalize ((x.deletes.length : Int) == 0) = a at j5
 generalize (x.deletes.any (fun k => decide (aF L k > aF rl j)) || x.creates.any (fun k => decide (aF L k ≤ aF rl j))) = b at j5
 cases a <;> cases b <;> first | (cases j5; rfl) | cases j5
theorem yT {k n : Nat} {t : ad} {rs : List aH} {l : bM} (ht : BT t) (hr : ∀ r ∈ rs, sI n r) (hrl : rs.length ≤ 1000) (h1 : l.rules.length ≤ 1000) (h2 : l.nodes.length ≤ 1000) (h3 : l.edges.length ≤ 1000) (hk : 20000 + n < k) :
  ∃ b, layering_Check k t rs l = some (b, ()) ∧ scarfjointref40_Check k t rs l = some (b, ()) ∧ (b = (jm n t rs == 0 && ((((l.rules.length : Int) == rs.length) && !(l.rules.any kg)) && ((((l.nodes.length : Int) == t.nodes.length) && !(l.nodes.any kg)) && (((l.edges.length : Int) == t.edges.length) && !(l.edges.any kg)))) && (bU (tD (l.nodes ++ l.edges) l.rules) (rs.map (dF t))).isNone)) := by
 have hk' : 20000 < k := by omega
 simp only [layering_Check, scarfjointref40_Check, sX ht hr hrl hk, tN ht hr hrl hk, kC h1, kC h2, kC h3, vV h1 hk', vV h2 hk', vV h3 hk', Option.bind_some, eX, i9, Bool.not_not]
 have ge : (jm n t rs != 0) = !(jm n t rs == 0) := rfl
 rw [ge]
 cases hg : (jm n t rs == 0) with
 | false => exact ⟨false, rfl, rfl, rfl⟩
 | true =>
  have ok := pD (show jm n t rs = 0 by simpa using hg)
  simp only [Bool.not_true, Bool.false_or, Bool.true_and, cond_false]
  have re : ∀ a b : Int, (a != b) = !(a == b) := fun _ _ => rfl
  simp only [re]
  generalize l.rules.any kg = b1
  generalize l.nodes.any kg = b2
  generalize l.edges.any kg = b3
  cases e1 : ((l.rules.length : Int) == (rs.length : Int)) with
  | false => refine ⟨false, ?_, ?_, ?_⟩ <;> (cases ((l.nodes.length : Int) == (t.nodes.length : Int)) <;> cases ((l.edges.length : Int) == (t.edges.length : Int)) <;> cases b1 <;> cases b2 <;> cases b3 <;> rfl)
  | true =>
   cases e2 : ((l.nodes.length : Int) == (t.nodes.length : Int)) with
   | false => refine ⟨false, ?_, ?_, ?_⟩ <;> (cases ((l.edges.length : Int) == (t.edges.length : Int)) <;> cases b1 <;> cases b2 <;> cases b3 <;> rfl)
   | true =>
    cases e3 : ((l.edges.length : Int) == (t.edges.length : Int)) with
    | false => refine ⟨false, ?_, ?_, ?_⟩ <;> (cases b1 <;> cases b2 <;> cases b3 <;> rfl)
    | true =>
     have l1 : l.rules.length = rs.length := by simp at e1; omega
     have l2 : l.nodes.length = t.nodes.length := by simp at e2; omega
     have l3 : l.edges.length = t.edges.length := by simp at e3; omega
     cases b1 with
     | true => exact ⟨false, rfl, rfl, rfl⟩
     | false =>
      cases b2 with
      | true => exact ⟨false, rfl, rfl, rfl⟩
      | false =>
       cases b3 with
       | true => exact ⟨false, rfl, rfl, rfl⟩
       | false =>
        obtain ⟨oe, ol⟩ := rP ht ok
        have tl := nT ht ok
        have hL : (l.nodes ++ l.edges).length = t.nodes.length + t.edges.length := by rw [List.length_append, l2, l3]
        have L0 := bS (F := layering_Check.l0 l (l.nodes ++ l.edges) (rs.map (dF t)) (rs.map (dF t)).length) (rs.map (dF t)) () (tD (l.nodes ++ l.edges) l.rules) (Int.toNat ((rs.map (dF t)).length : Int) + 1) (fun m => by simp only [layering_Check.l0, az, cond_false]) (fun m i e he _ => by
         have hi := aL he
         have o := oe e (cJ he)
         have hir : i < l.rules.length := by rw [l1]; simpa using hi
         have er : ay l.rules (i : Int) = some (aF l.rules i) := jl (by omega)
         have a1 := bz (l := e.deletes) (q := fun z14 => dv z14.1 (l.nodes ++ l.edges) l i) (p := fun k => decide (aF (l.nodes ++ l.edges) k > aF l.rules i)) (fun x hx => by
          have := o.d x hx
          simp only [dv, jl (L := l.nodes ++ l.edges) (k := x) (by omega), er, Option.bind_some]) (cO o.dl (by omega))
         have a2 := bz (l := e.creates) (q := fun z14 => dn z14.1 (l.nodes ++ l.edges) l i) (p := fun k => decide (aF (l.nodes ++ l.edges) k ≤ aF l.rules i)) (fun x hx => by
          have := o.c x hx
          simp only [dn, jl (L := l.nodes ++ l.edges) (k := x) (by omega), er, Option.bind_some]) (cO o.cl (by omega))
         simp only [layering_Check.l0, aQ hi, iv, Bool.and_true, cond_true, Int.toNat_natCast, fD he, kx, a1, a2, Option.bind_some, eX, i9, tD, gM, cS, wS (show i < 4611686018427387904 by omega)]
         cases ((e.deletes.length : Int) == 0) <;> rfl) (by omega)
        have R0 := bS (F := fun m i => scarfjointref40_Check.l0 k m rs t l i) rs () (fun i r => tD (l.nodes ++ l.edges) l.rules i (dF t r)) k (fun m => by simp only [scarfjointref40_Check.l0, az, cond_false]) (fun m i r hx _ => by
         have hi := aL hx
         have hmem := cJ hx
         have o := sf ht (ok.e r hmem)
         have hD := kR (k := k) ht (hr r hmem) (ok.e r hmem) hk
         have er : ay l.rules (i : Int) = some (aF l.rules i) := jl (by omega)
         have b2 := bS (F := scarfjointref40_Check.l2 rs t l i (dF t r).deletes (dF t r).creates) (dF t r).deletes (rs, t, l, (i : Int), (dF t r).creates, ()) (fun _ x => cond (decide (aF (l.nodes ++ l.edges) x > aF l.rules i)) (some (false, ())) none) k (fun m => by simp only [scarfjointref40_Check.l2, az, cond_false]) (fun m j x hx _ => by
          have := o.d x (cJ hx)
          have hj := aL hx
          have := o.dl
          simp only [scarfjointref40_Check.l2, aQ hj, iv, Bool.and_true, cond_true, Int.toNat_natCast, fD hx, rq (l := l) l2 (x := x) (by omega) (by omega) (by omega) h3, er, Option.bind_some, cS, wS (show j < 4611686018427387904 by omega)]) (by have := o.dl; omega)
         have b4 := bS (F := scarfjointref40_Check.l4 rs t l i (dF t r).creates) (dF t r).creates (rs, t, l, (i : Int), ()) (fun _ x => cond (decide (aF (l.nodes ++ l.edges) x ≤ aF l.rules i)) (some (false, ())) none) k (fun m => by simp only [scarfjointref40_Check.l4, az, cond_false]) (fun m j x hx _ => by
          have := o.c x (cJ hx)
          have hj := aL hx
          have := o.cl
          simp only [scarfjointref40_Check.l4, aQ hj, iv, Bool.and_true, cond_true, Int.toNat_natCast, fD hx, rq (l := l) l2 (x := x) (by omega) (by omega) (by omega) h3, er, Option.bind_some, cS, wS (show j < 4611686018427387904 by omega)]) (by have := o.cl; omega)
         rw [bH (fun x => decide (aF (l.nodes ++ l.edges) x > aF l.rules i))] at b2
         rw [bH (fun x => decide (aF (l.nodes ++ l.edges) x ≤ aF l.rules i))] at b4
         simp only [scarfjointref40_Check.l0, aQ hi, cond_true, idx_some hx, hD.1, hD.2, Option.bind_some, b2, tD]
         cases (((dF t r).deletes.length : Int) == 0) with
         | true => rfl
         | false =>
          simp only [cond_false]
          cases (dF t r).deletes.any (fun x => decide (aF (l.nodes ++ l.edges) x > aF l.rules i)) with
          | true => rfl
          | false =>
           simp only [cond_false, Option.elim, aG, b4, Option.bind_some, Bool.false_or]
           cases (dF t r).creates.any (fun x => decide (aF (l.nodes ++ l.edges) x ≤ aF l.rules i)) with
           | true => rfl
           | false => simp only [cond_false, Option.elim, aG, wS (show i < 4611686018427387904 by omega)]) (by omega)
        have em : bU (fun i r => tD (l.nodes ++ l.edges) l.rules i (dF t r)) rs = bU (tD (l.nodes ++ l.edges) l.rules) (rs.map (dF t)) := by
         unfold bU
         rw [List.length_map]
         congr 1
         funext i
         rw [List.getElem?_map]
         cases rs[i]? <;> rfl
        rw [em] at R0
        simp only [Bool.not_false, Bool.and_self, Bool.not_true, Bool.or_self, cond_false, uk h2 h3, Option.bind_some, L0, R0]
        refine ⟨(bU (tD (l.nodes ++ l.edges) l.rules) (rs.map (dF t))).isNone, ?_, ?_, rfl⟩
        ·cases hf : bU (tD (l.nodes ++ l.edges) l.rules) (rs.map (dF t)) with
         | none => rfl
         | some z => rw [nU hf]; rfl
        ·cases hf : bU (tD (l.nodes ++ l.edges) l.rules) (rs.map (dF t)) with
         | none => rfl
         | some z => rw [nU hf]; rfl
end Go.Ev.Pl
end
section
set_option linter.unusedVariables false
namespace Go.Ev.Pl
theorem td {S R : Type} {F : Nat → S → Int → Option R} (N : Nat) (fX : Nat → S → Prop) (Post : R → Prop) (fuel : Nat) (s : S) (hs : fX 0 s)
  (h0 : ∀ n s, fX N s → ∃ r, F (n + 1) s (N : Int) = some r ∧ Post r)
  (h1 : ∀ n s (i : Nat), i < N → fX i s → (∃ r, F (n + 1) s (i : Int) = some r ∧ Post r) ∨ ∃ s', fX (i + 1) s' ∧ F (n + 1) s (i : Int) = F n s' ((i + 1 : Nat) : Int))
  (hf : N < fuel) : ∃ r, F fuel s 0 = some r ∧ Post r := by
 suffices H : ∀ c i fuel s, N - i = c → i ≤ N → N - i < fuel → fX i s → ∃ r, F fuel s (i : Int) = some r ∧ Post r from H _ 0 fuel s rfl (by omega) (by omega) hs
 intro c
 induction c with
 | zero =>
  intro i fuel s hc hi hf hs
  obtain rfl : i = N := by omega
  cases fuel with
  | zero => omega
  | succ n => exact h0 n s hs
 | succ c ih =>
  intro i fuel s hc hi hf hs
  cases fuel with
  | zero => omega
  | succ n =>
   rcases h1 n s i (by omega) hs with h | ⟨s', i', e⟩
   ·exact h
   ·rw [e]; exact ih (i + 1) n s' (by omega) (by omega) (by omega) i'
theorem pF (a b : Int) : a ≤ fH a b ∧ b ≤ fH a b := by
 unfold fH; by_cases h : b > a <;> simp [h] <;> omega
theorem tp (a b : Int) : fH a b = a ∨ fH a b = b := by
 unfold fH; by_cases h : b > a <;> simp [h]
def mx (f : Int → Int) (m : Int) (l : List Int) : Int := l.foldl (fun m x => fH m (f x)) m
theorem mc (f : Int → Int) : ∀ (l : List Int) (m : Int), m ≤ mx f m l ∧ ∀ x ∈ l, f x ≤ mx f m l
 | [], m => ⟨Int.le_refl _, fun x h => by simp at h⟩
 | y :: l, m => by
  obtain ⟨h1, h2⟩ := mc f l (fH m (f y))
  have := pF m (f y)
  show m ≤ mx f (fH m (f y)) l ∧ ∀ x ∈ y :: l, f x ≤ mx f (fH m (f y)) l
  refine ⟨by omega, fun x hx => ?_⟩
  rcases List.mem_cons.1 hx with rfl | hx
  ·omega
  ·exact h2 x hx
theorem og (f : Int → Int) : ∀ (l : List Int) (m : Int), mx f m l = m ∨ ∃ x ∈ l, mx f m l = f x
 | [], m => .inl rfl
 | y :: l, m => by
  show mx f (fH m (f y)) l = m ∨ ∃ x ∈ y :: l, mx f (fH m (f y)) l = f x
  rcases og f l (fH m (f y)) with h | ⟨x, hx, h⟩
  ·rcases tp m (f y) with e | e
   ·exact .inl (h.trans e)
   ·exact .inr ⟨y, by simp, h.trans e⟩
  ·exact .inr ⟨x, by simp [hx], h⟩
theorem oM (f : Int → Int) {l : List Int} {m b : Int} (hm : m ≤ b) (h : ∀ x ∈ l, f x ≤ b) : mx f m l ≤ b := by
 rcases og f l m with e | ⟨x, hx, e⟩
 ·omega
 ·have := h x hx; omega
def put (v : Int) (M : List Int) (x : Int) : List Int := M.set x.toNat (fH (aF M x) (v + 1))
def fW (v : Int) (M : List Int) (l : List Int) : List Int := l.foldl (put v) M
theorem mz (v : Int) (M : List Int) (x : Int) : (put v M x).length = M.length := by simp [put]
theorem iA (v : Int) : ∀ (l : List Int) (M : List Int), (fW v M l).length = M.length
 | [], M => rfl
 | x :: l, M => (iA v l (put v M x)).trans (mz v M x)
theorem tJ {v : Int} {M : List Int} {x p : Int} (hx : 0 ≤ x ∧ x < M.length) (hp : 0 ≤ p) : aF (put v M x) p = if p = x then fH (aF M x) (v + 1) else aF M p := by
 by_cases h : p = x
 ·subst h
  have : p.toNat < M.length := by omega
  simp [aF, ay, nth, put, hp, this]
 ·have : x.toNat ≠ p.toNat := by omega
  simp [aF, ay, nth, put, hp, h, List.getElem?_set_ne this]
theorem sU {v : Int} : ∀ {l : List Int} {M : List Int}, (∀ x ∈ l, 0 ≤ x ∧ x < M.length) → ∀ p, 0 ≤ p → aF M p ≤ aF (fW v M l) p ∧ (p ∈ l → v + 1 ≤ aF (fW v M l) p)
 | [], M, h, p, hp => ⟨Int.le_refl _, fun h => by simp at h⟩
 | x :: l, M, h, p, hp => by
  have hx := h x (by simp)
  obtain ⟨h1, h2⟩ := sU (v := v) (l := l) (M := put v M x) (fun y hy => by rw [mz]; exact h y (by simp [hy])) p hp
  have e := tJ (v := v) hx hp
  have g := pF (aF M x) (v + 1)
  show aF M p ≤ aF (fW v (put v M x) l) p ∧ _
  refine ⟨?_, fun hm => ?_⟩
  ·by_cases c : p = x
   ·subst c; rw [if_pos rfl] at e; omega
   ·rw [if_neg c] at e; omega
  ·show v + 1 ≤ aF (fW v (put v M x) l) p
   rcases List.mem_cons.1 hm with c | hm
   ·rw [if_pos c] at e; omega
   ·exact h2 hm
theorem mE {v : Int} : ∀ {l : List Int} {M : List Int}, (∀ x ∈ l, 0 ≤ x ∧ x < M.length) → ∀ p, 0 ≤ p → aF (fW v M l) p = aF M p ∨ (p ∈ l ∧ aF (fW v M l) p = v + 1)
 | [], M, h, p, hp => .inl rfl
 | x :: l, M, h, p, hp => by
  have hx := h x (by simp)
  have e := tJ (v := v) hx hp
  show aF (fW v (put v M x) l) p = aF M p ∨ (p ∈ x :: l ∧ aF (fW v (put v M x) l) p = v + 1)
  rcases mE (v := v) (l := l) (M := put v M x) (fun y hy => by rw [mz]; exact h y (by simp [hy])) p hp with h1 | ⟨h1, h2⟩
  ·by_cases c : p = x
   ·rw [if_pos c] at e
    rcases tp (aF M x) (v + 1) with g | g
    ·left; rw [h1, e, g, c]
    ·right; exact ⟨by simp [c], by rw [h1, e, g]⟩
   ·rw [if_neg c] at e; left; omega
  ·exact .inr ⟨by simp [h1], h2⟩
theorem mJ {a b : List Int} (hl : a.length = b.length) (h : ∀ p : Int, 0 ≤ p → p < a.length → aF a p = aF b p) : a = b := by
 refine List.ext_getElem hl fun i h1 h2 => ?_
 have := h i (by omega) (by omega)
 have e1 : ay a (i : Int) = some a[i] := oX h1
 have e2 : ay b (i : Int) = some b[i] := oX h2
 simpa [aF, e1, e2] using this
def si (L : List Int) (es : List a8) (M : List Int) : List Int := es.foldl (fun M e => fW (mx (aF L) 0 e.deletes) M e.creates) M
theorem tg (L : List Int) : ∀ (es : List a8) (M : List Int), (si L es M).length = M.length
 | [], M => rfl
 | e :: es, M => (tg L es _).trans (iA _ _ _)
theorem oS {P : Nat} {L : List Int} : ∀ {es : List a8} {M : List Int}, (∀ e ∈ es, uM P e) → M.length = P → ∀ p, 0 ≤ p → aF M p ≤ aF (si L es M) p ∧ ∀ e ∈ es, p ∈ e.creates → mx (aF L) 0 e.deletes + 1 ≤ aF (si L es M) p
 | [], M, _, _, p, _ => ⟨Int.le_refl _, fun e h => by simp at h⟩
 | e :: es, M, ho, hM, p, hp => by
  obtain ⟨a1, a2⟩ := sU (v := mx (aF L) 0 e.deletes) (l := e.creates) (M := M) (by rw [hM]; exact (ho e (by simp)).c) p hp
  obtain ⟨b1, b2⟩ := oS (L := L) (es := es) (M := fW (mx (aF L) 0 e.deletes) M e.creates) (fun e h => ho e (by simp [h])) (by rw [iA, hM]) p hp
  refine ⟨Int.le_trans a1 b1, fun e' he hp' => ?_⟩
  rcases List.mem_cons.1 he with c | he
  ·subst c; exact Int.le_trans (a2 hp') b1
  ·exact b2 e' he hp'
theorem pQ {P : Nat} {L : List Int} : ∀ {es : List a8} {M : List Int}, (∀ e ∈ es, uM P e) → M.length = P → ∀ p, 0 ≤ p → aF (si L es M) p = aF M p ∨ ∃ e ∈ es, p ∈ e.creates ∧ aF (si L es M) p = mx (aF L) 0 e.deletes + 1
 | [], M, _, _, p, _ => .inl rfl
 | e :: es, M, ho, hM, p, hp => by
  have hM' : (fW (mx (aF L) 0 e.deletes) M e.creates).length = P := by rw [iA, hM]
  show aF (si L es (fW (mx (aF L) 0 e.deletes) M e.creates)) p = aF M p ∨ ∃ e' ∈ e :: es, p ∈ e'.creates ∧ aF (si L es (fW (mx (aF L) 0 e.deletes) M e.creates)) p = mx (aF L) 0 e'.deletes + 1
  rcases pQ (L := L) (es := es) (fun e h => ho e (by simp [h])) hM' p hp with h | ⟨e', he, h1, h2⟩
  ·rcases mE (v := mx (aF L) 0 e.deletes) (l := e.creates) (M := M) (by rw [hM]; exact (ho e (by simp)).c) p hp with g | ⟨g1, g2⟩
   ·exact .inl (h.trans g)
   ·exact .inr ⟨e, by simp, g1, h.trans g2⟩
  ·exact .inr ⟨e', by simp [he], h1, h2⟩
def Dm (es : List a8) (x y : Int) : Prop := ∃ e ∈ es, x ∈ e.deletes ∧ y ∈ e.creates
structure qR (es : List a8) (f : Int → Int) : Prop where
 z : ∀ x, 0 ≤ f x
 s : ∀ x y, Dm es x y → f x + 1 ≤ f y
def J (es : List a8) (P : Nat) : Nat → List Int
 | 0 => List.replicate P 0
 | r + 1 => si (J es P r) es (J es P r)
theorem gq (es : List a8) (P : Nat) : ∀ r, (J es P r).length = P
 | 0 => by simp [J]
 | r + 1 => by rw [J, tg, gq es P r]
theorem zm (es : List a8) (P : Nat) (p : Int) : aF (J es P 0) p = 0 := by
 simp only [aF, ay, nth, J, List.getElem?_replicate]
 by_cases h : 0 ≤ p <;> by_cases h2 : p.toNat < P <;> simp [h, h2]
theorem eN {L : List Int} {p : Int} (h : ¬ (0 ≤ p ∧ p < L.length)) : aF L p = 0 := by
 by_cases h0 : 0 ≤ p
 ·have : L.length ≤ p.toNat := by omega
  simp [aF, ay, nth, h0, List.getElem?_eq_none this]
 ·simp [aF, ay, h0]
section
variable {es : List a8} {P : Nat} (ho : ∀ e ∈ es, uM P e)
include ho
theorem vD (r : Nat) (p : Int) : aF (J es P r) p ≤ aF (J es P (r + 1)) p := by
 by_cases h : 0 ≤ p
 ·exact (oS (L := J es P r) (M := J es P r) ho (gq es P r) p h).1
 ·rw [eN (by omega), eN (by omega)]; exact Int.le_refl _
theorem zg (r : Nat) (p : Int) : 0 ≤ aF (J es P r) p := by
 induction r with
 | zero => rw [zm]; exact Int.le_refl _
 | succ r ih => exact Int.le_trans ih (vD ho r p)
theorem xQ (hne : ∀ e ∈ es, e.deletes ≠ []) {f : Int → Int} (hf : qR es f) : ∀ r p, aF (J es P r) p ≤ f p
 | 0, p => by rw [zm]; exact hf.z p
 | r + 1, p => by
  by_cases h : 0 ≤ p
  ·rcases pQ (L := J es P r) (M := J es P r) ho (gq es P r) p h with e | ⟨e, he, h1, h2⟩
   ·have := xQ hne hf r p; rw [J, e]; exact this
   ·rw [J, h2]
    have key : mx (aF (J es P r)) 0 e.deletes + 1 ≤ f p := by
     rcases og (aF (J es P r)) e.deletes 0 with g | ⟨x, hx, g⟩
     ·cases hd : e.deletes with
      | nil => exact absurd hd (hne e he)
      | cons x l =>
       have hx : x ∈ e.deletes := by rw [hd]; simp
       have := hf.s x p ⟨e, he, hx, h1⟩
       have := hf.z x
       rw [← hd, g]; omega
     ·have := hf.s x p ⟨e, he, hx, h1⟩
      have := xQ hne hf r x
      rw [g]; omega
    exact key
  ·rw [eN (by rw [gq]; omega)]; exact hf.z p
theorem sk : ∀ r p, aF (J es P r) p < aF (J es P (r + 1)) p → aF (J es P (r + 1)) p = r + 1 ∧ (r = 0 ∨ ∃ x, Dm es x p ∧ aF (J es P (r - 1)) x < aF (J es P r) x)
 | 0, p, h => by
  have hp : 0 ≤ p := Classical.byContradiction fun c => by rw [eN (by omega), eN (by omega)] at h; omega
  rcases pQ (L := J es P 0) (M := J es P 0) ho (gq es P 0) p hp with e | ⟨e, he, h1, h2⟩
  ·rw [show aF (J es P (0 + 1)) p = aF (si (J es P 0) es (J es P 0)) p from rfl, e] at h; omega
  ·refine ⟨?_, .inl rfl⟩
   rw [J, h2]
   rcases og (aF (J es P 0)) e.deletes 0 with g | ⟨x, hx, g⟩
   ·rw [g]; rfl
   ·rw [g, zm]; rfl
 | r + 1, p, h => by
  have hp : 0 ≤ p := Classical.byContradiction fun c => by rw [eN (by rw [gq]; omega), eN (by rw [gq]; omega)] at h; omega
  rcases pQ (L := J es P (r + 1)) (M := J es P (r + 1)) ho (gq es P (r + 1)) p hp with e | ⟨e, he, h1, h2⟩
  ·rw [show aF (J es P (r + 1 + 1)) p = aF (si (J es P (r + 1)) es (J es P (r + 1))) p from rfl, e] at h; omega
  ·have h3 : aF (J es P (r + 1 + 1)) p = mx (aF (J es P (r + 1))) 0 e.deletes + 1 := h2
   have h4 : mx (aF (J es P r)) 0 e.deletes + 1 ≤ aF (J es P (r + 1)) p := (oS (L := J es P r) (M := J es P r) ho (gq es P r) p hp).2 e he h1
   have h5 := mc (aF (J es P r)) e.deletes 0
   rcases og (aF (J es P (r + 1))) e.deletes 0 with g | ⟨x, hx, g⟩
   ·omega
   ·have h6 := h5.2 x hx
    have hlt : aF (J es P r) x < aF (J es P (r + 1)) x := by omega
    have := (sk r x hlt).1
    refine ⟨by rw [h3, g, this]; push_cast; rfl, .inr ⟨x, ⟨e, he, hx, h1⟩, hlt⟩⟩
theorem xY : ∀ r p, aF (J es P r) p ≤ r
 | 0, p => by rw [zm]; exact Int.le_refl _
 | r + 1, p => by
  by_cases h : aF (J es P r) p < aF (J es P (r + 1)) p
  ·rw [(sk ho r p h).1]; push_cast; exact Int.le_refl _
  ·have := xY r p; push_cast; omega
theorem kA {r : Nat} (h : J es P (r + 1) = J es P r) : qR es (aF (J es P r)) := by
 refine ⟨zg ho r, fun x y hd => ?_⟩
 obtain ⟨e, he, h1, h2⟩ := hd
 have hy := (ho e he).c y h2
 have h3 : mx (aF (J es P r)) 0 e.deletes + 1 ≤ aF (J es P (r + 1)) y := (oS (L := J es P r) (M := J es P r) ho (gq es P r) y hy.1).2 e he h2
 have h4 := (mc (aF (J es P r)) e.deletes 0).2 x h1
 rw [h] at h3; omega
end
inductive Wk (es : List a8) : Int → Int → Nat → Prop
 | nil (x : Int) : Wk es x x 0
 | step {x y z : Int} {n : Nat} (h : Wk es x y n) (d : Dm es y z) : Wk es x z (n + 1)
theorem Wk.pot {es : List a8} {f : Int → Int} (hf : qR es f) {x y : Int} {n : Nat} (h : Wk es x y n) : f x + n ≤ f y := by
 induction h with
 | nil => simp
 | step h d ih => have := hf.s _ _ d; push_cast; omega
theorem sJ : ∀ (P : Nat) (g : Nat → Nat), (∀ i, i ≤ P → g i < P) → ¬ ∀ i j, i ≤ P → j ≤ P → g i = g j → i = j
 | 0, g, hg, _ => by have := hg 0 (by omega); omega
 | P + 1, g, hg, inj => by
  refine sJ P (fun i => if g i = P then g (P + 1) else g i) (fun i hi => ?_) (fun i j hi hj e => ?_)
  ·have h1 := hg i (by omega)
   have h2 := hg (P + 1) (by omega)
   have h3 := inj i (P + 1) (by omega) (by omega)
   split <;> omega
  ·have h1 := inj i j (by omega) (by omega)
   have h2 := inj i (P + 1) (by omega) (by omega)
   have h3 := inj j (P + 1) (by omega) (by omega)
   have h4 := inj (P + 1) i (by omega) (by omega)
   split at e <;> split at e <;> omega
theorem xW {P : Nat} (g : Nat → Int) (hg : ∀ i, i ≤ P → 0 ≤ g i ∧ g i < P) : ∃ i j, i < j ∧ j ≤ P ∧ g i = g j := by
 apply Classical.byContradiction
 intro hno
 refine sJ P (fun i => (g i).toNat) (fun i hi => by have := hg i hi; omega) fun i j hi hj e => Classical.byContradiction fun hne => ?_
 have h1 := hg i hi
 have h2 := hg j hj
 rcases Nat.lt_or_gt_of_ne hne with h | h
 ·exact hno ⟨i, j, h, hj, by omega⟩
 ·exact hno ⟨j, i, h, hi, by omega⟩
end Go.Ev.Pl
end
section
set_option linter.unusedVariables false
namespace Go.Ev.Pl
theorem xU {es : List a8} {f : Int → Int} (hf : qR es f) {e : a8} (he : e ∈ es) (hd : e.deletes ≠ []) {p : Int} (hp : p ∈ e.creates) : mx f 0 e.deletes + 1 ≤ f p := by
 rcases og f e.deletes 0 with g | ⟨x, hx, g⟩
 ·cases hd' : e.deletes with
  | nil => exact absurd hd' hd
  | cons x l =>
   have hx : x ∈ e.deletes := by rw [hd']; simp
   have := hf.s x p ⟨e, he, hx, hp⟩
   have := hf.z x
   rw [← hd', g]; omega
 ·have := hf.s x p ⟨e, he, hx, hp⟩
  rw [g]; omega
theorem qI {es : List a8} {P : Nat} (ho : ∀ e ∈ es, uM P e) : ∀ r p, aF (J es P r) p < aF (J es P (r + 1)) p → ∃ g : Nat → Int, g r = p ∧ (∀ i, i < r → Dm es (g i) (g (i + 1))) ∧ ∀ i, i ≤ r → 0 ≤ g i ∧ g i < P
 | 0, p, h => by
  have hp : 0 ≤ p ∧ p < P := Classical.byContradiction fun c => by rw [eN (by rw [gq]; omega), eN (by rw [gq]; omega)] at h; omega
  exact ⟨fun _ => p, rfl, fun i hi => by omega, fun i _ => hp⟩
 | r + 1, p, h => by
  have hp : 0 ≤ p ∧ p < P := Classical.byContradiction fun c => by rw [eN (by rw [gq]; omega), eN (by rw [gq]; omega)] at h; omega
  rcases (sk ho (r + 1) p h).2 with c | ⟨x, d, hx⟩
  ·omega
  ·obtain ⟨g, g1, g2, g3⟩ := qI ho r x hx
   refine ⟨fun i => if i = r + 1 then p else g i, by simp, fun i hi => ?_, fun i hi => ?_⟩
   ·by_cases c : i = r
    ·subst c
     have : i ≠ i + 1 := by omega
     simp only [this, if_false, if_true, g1]; exact d
    ·have h1 : i ≠ r + 1 := by omega
     have h2 : i + 1 ≠ r + 1 := by omega
     simp only [h1, h2, if_false]; exact g2 i (by omega)
   ·by_cases c : i = r + 1
    ·simp only [c, if_true]; exact hp
    ·simp only [c, if_false]; exact g3 i (by omega)
theorem xO {es : List a8} {P : Nat} (ho : ∀ e ∈ es, uM P e) : J es P (P + 1) = J es P P ∨ ∃ x n, 0 < n ∧ n ≤ P ∧ Wk es x x n := by
 by_cases h : ∃ p, aF (J es P P) p < aF (J es P (P + 1)) p
 ·obtain ⟨p, h⟩ := h
  obtain ⟨g, _, g2, g3⟩ := qI ho P p h
  obtain ⟨i, j, h1, h2, h3⟩ := xW g g3
  have wk : ∀ n, i + n ≤ P → Wk es (g i) (g (i + n)) n := by
   intro n
   induction n with
   | zero => intro _; exact .nil _
   | succ n ih => intro hn; exact .step (ih (by omega)) (g2 (i + n) (by omega))
  refine .inr ⟨g i, j - i, by omega, by omega, ?_⟩
  have := wk (j - i) (by omega)
  rwa [show i + (j - i) = j by omega, ← h3] at this
 ·refine .inl (mJ (by rw [gq, gq]) fun p _ _ => ?_)
  have h1 := vD ho P p
  have h2 : ¬ aF (J es P P) p < aF (J es P (P + 1)) p := fun c => h ⟨p, c⟩
  omega
theorem mT {es : List a8} {P : Nat} (ho : ∀ e ∈ es, uM P e) {f : Int → Int} (hf : qR es f) : J es P (P + 1) = J es P P := by
 rcases xO ho with h | ⟨x, n, h1, _, w⟩
 ·exact h
 ·have := w.pot hf; omega
theorem tT : ∀ (L : List Int) (i : Nat) (a : Int), i < L.length → (L.set i a).sum = L.sum - (L[i]?).getD 0 + a
 | [], i, a, h => by simp at h
 | x :: L, 0, a, h => by simp; omega
 | x :: L, i + 1, a, h => by
  have := tT L i a (by simpa using h)
  simp only [List.set_cons_succ, List.sum_cons, this, List.getElem?_cons_succ]
  omega
theorem rJ {b : Int} : ∀ (L : List Int), (∀ x ∈ L, x ≤ b) → L.sum ≤ b * L.length
 | [], h => by simp
 | x :: L, h => by
  have := rJ L fun y hy => h y (by simp [hy])
  have := h x (by simp)
  simp only [List.sum_cons, List.length_cons]
  push_cast
  rw [Int.mul_add]
  omega
theorem pP {L : List Int} {x : Int} (h : x ∈ L) : ∃ p : Int, 0 ≤ p ∧ p < L.length ∧ x = aF L p := by
 obtain ⟨i, hi, rfl⟩ := List.getElem_of_mem h
 exact ⟨i, by omega, by omega, by simp [aF, oX hi]⟩
theorem pj {L : List Int} {i : Int} (h : 0 ≤ i ∧ i < L.length) : L.set i.toNat (aF L i) = L := by
 obtain ⟨x, x1, x2, _⟩ := bw h.1 h.2
 have h2 : i.toNat < L.length := by omega
 have : aF L i = L[i.toNat] := by
  rw [aF, x1]; rw [List.getElem?_eq_getElem h2] at x2; simpa using x2.symm
 rw [this]; simp
theorem my {L : List Int} {i p a : Int} (hi : 0 ≤ i ∧ i < L.length) (hp : 0 ≤ p) : aF (L.set i.toNat a) p = if p = i then a else aF L p := by
 by_cases h : p = i
 ·subst h
  have : p.toNat < L.length := by omega
  simp [aF, ay, nth, hp, this]
 ·have : i.toNat ≠ p.toNat := by omega
  simp [aF, ay, nth, hp, h, List.getElem?_set_ne this]
theorem pN {L : List Int} {i a : Int} (hi : 0 ≤ i ∧ i < L.length) : (L.set i.toNat a).sum = L.sum - aF L i + a := by
 rw [tT L i.toNat a (by omega)]
 obtain ⟨x, x1, x2, _⟩ := bw hi.1 hi.2
 rw [x2, aF, x1]
theorem k6 {L : List Int} {i : Int} (h : 0 ≤ i ∧ i < L.length) : nth L (Int.toNat i) = some (aF L i) := by
 obtain ⟨x, x1, x2, _⟩ := bw h.1 h.2
 rw [nth, x2, aF, x1]; rfl
theorem lV {i : Int} {n : Nat} (h : 0 ≤ i ∧ i < n) : (decide (0 ≤ i) && decide (i < (n : Int))) = true := by simp; exact h
theorem kH {α : Type} {l : List α} {j : Nat} {x : α} (h : l[j]? = some x) : l.take (j + 1) = l.take j ++ [x] := by
 rw [List.take_add_one, h]; rfl
theorem yD {es ls : List a8} {A R0 : List Int} {i n8 : Int} {q7 : Int} {e : a8} {c0 : Bool} (hi : 0 ≤ i ∧ i < R0.length) (hd : ∀ x ∈ e.deletes, 0 ≤ x ∧ x < A.length) (hl : e.deletes.length ≤ 32) :
  ∃ r, layering_least.l4 es A i e ls q7 n8 e.deletes e.deletes.length (Int.toNat (e.deletes.length : Int) + 1) R0 c0 0 = some r ∧ ∃ c, r = (es, R0.set i.toNat (mx (aF A) (aF R0 i) e.deletes), A, c, i, e, ls, q7, n8, ()) ∧
   (c = false → c0 = false ∧ mx (aF A) (aF R0 i) e.deletes = aF R0 i) ∧ (c = true → c0 = true ∨ aF R0 i < mx (aF A) (aF R0 i) e.deletes) := by
 refine td (F := fun n (s : List Int × Bool) j => layering_least.l4 es A i e ls q7 n8 e.deletes e.deletes.length n s.1 s.2 j) e.deletes.length
  (fun j s => s.1 = R0.set i.toNat (mx (aF A) (aF R0 i) (e.deletes.take j)) ∧ (s.2 = false → c0 = false ∧ mx (aF A) (aF R0 i) (e.deletes.take j) = aF R0 i) ∧ (s.2 = true → c0 = true ∨ aF R0 i < mx (aF A) (aF R0 i) (e.deletes.take j)))
  _ (Int.toNat (e.deletes.length : Int) + 1) (R0, c0) ⟨(pj hi).symm, fun h => ⟨h, rfl⟩, fun h => .inl h⟩ (fun n s h => ?_) (fun n s j hj h => .inr ?_) (by omega)
 ·simp only [layering_least.l4, az, cond_false]
  rw [List.take_length] at h
  exact ⟨_, rfl, s.2, by rw [h.1], h.2⟩
 ·obtain ⟨h1, h2, h3⟩ := h
  obtain ⟨R, c⟩ := s
  dsimp only at h1 h2 h3
  have hx : e.deletes[j]? = some e.deletes[j] := List.getElem?_eq_getElem hj
  have hxm := hd _ (List.getElem_mem hj)
  generalize e.deletes[j] = x at *
  have hR : R.length = R0.length := by rw [h1]; simp
  have hv : aF R i = mx (aF A) (aF R0 i) (e.deletes.take j) := by rw [h1, my hi hi.1, if_pos rfl]
  have ht : mx (aF A) (aF R0 i) (e.deletes.take (j + 1)) = fH (aF R i) (aF A x) := by rw [kH hx, hv]; unfold mx; rw [List.foldl_append]; rfl
  have hge := (mc (aF A) (e.deletes.take j) (aF R0 i)).1
  have hi' : 0 ≤ i ∧ i < (R.length : Int) := by rw [hR]; exact hi
  simp only [layering_least.l4, aQ hj, cond_true, idx_some hx, Option.bind_some, lV hxm, k6 hxm, lV hi', k6 hi', wS (show j < 4611686018427387904 by omega)]
  rw [ht]
  by_cases hc : aF A x > aF R i
  ·refine ⟨(R.set i.toNat (aF A x), true), ⟨?_, fun h => (by cases h), fun _ => .inr ?_⟩, by simp only [hc, decide_true, cond_true]⟩
   ·rw [h1, List.set_set, fH, ← h1, decide_eq_true hc]; rfl
   ·have := pF (aF R i) (aF A x); omega
  ·have e2 : fH (aF R i) (aF A x) = aF R i := by rw [fH, decide_eq_false hc]; rfl
   refine ⟨(R, c), ⟨?_, fun h => ?_, fun h => ?_⟩, by simp only [hc, decide_false, cond_false]⟩
   ·rw [e2, hv]; exact h1
   ·have := h2 h; rw [e2, hv]; exact this
   ·have := h3 h; rw [e2, hv]; exact this
theorem yW {es ls : List a8} {A0 R : List Int} {i v : Int} {q6 q7 : Int} {cr : List Int} {c0 : Bool} (hi : 0 ≤ i ∧ i < R.length) (hv : aF R i = v) (hv' : 0 ≤ v ∧ v ≤ 1000) (hc : ∀ x ∈ cr, 0 ≤ x ∧ x < A0.length) (hl : cr.length ≤ 32) :
  ∃ r, layering_least.l6 es R i ls q6 q7 cr cr.length (Int.toNat (cr.length : Int) + 1) A0 c0 0 = some r ∧ ∃ c, r = (es, R, fW v A0 cr, c, i, ls, q6, q7, ()) ∧
   (c = false → c0 = false ∧ fW v A0 cr = A0 ∧ ∀ y ∈ cr, v < aF A0 y) ∧ (c = true → c0 = true ∨ A0.sum < (fW v A0 cr).sum) ∧ A0.sum ≤ (fW v A0 cr).sum := by
 refine td (F := fun n (s : List Int × Bool) j => layering_least.l6 es R i ls q6 q7 cr cr.length n s.1 s.2 j) cr.length
  (fun j s => s.1 = fW v A0 (cr.take j) ∧ (s.2 = false → c0 = false ∧ fW v A0 (cr.take j) = A0 ∧ ∀ y ∈ cr.take j, v < aF A0 y) ∧ (s.2 = true → c0 = true ∨ A0.sum < (fW v A0 (cr.take j)).sum) ∧ A0.sum ≤ (fW v A0 (cr.take j)).sum)
  _ (Int.toNat (cr.length : Int) + 1) (A0, c0) ⟨rfl, fun h => ⟨h, rfl, fun y hy => by simp at hy⟩, fun h => .inl h, Int.le_refl _⟩ (fun n s h => ?_) (fun n s j hj h => .inr ?_) (by omega)
 ·simp only [layering_least.l6, az, cond_false]
  rw [List.take_length] at h
  exact ⟨_, rfl, s.2, by rw [h.1], h.2⟩
 ·obtain ⟨h1, h2, h3, h4⟩ := h
  obtain ⟨A, c⟩ := s
  dsimp only at h1 h2 h3
  have hx : cr[j]? = some cr[j] := List.getElem?_eq_getElem hj
  have hxm0 := hc _ (List.getElem_mem hj)
  generalize cr[j] = x at *
  have hA : A.length = A0.length := by rw [h1, iA]
  have hxm : 0 ≤ x ∧ x < (A.length : Int) := by rw [hA]; exact hxm0
  have ht : fW v A0 (cr.take (j + 1)) = put v A x := by rw [kH hx, h1]; unfold fW; rw [List.foldl_append]; rfl
  have w : IntKind.i64.wrap (v + 1) = v + 1 := jC (by omega) (by omega)
  simp only [layering_least.l6, aQ hj, cond_true, idx_some hx, Option.bind_some, lV hxm, k6 hxm, lV hi, k6 hi, hv, w, wS (show j < 4611686018427387904 by omega)]
  rw [ht]
  by_cases hcc : aF A x ≤ v
  ·have e1 : put v A x = A.set x.toNat (v + 1) := by rw [put, fH, decide_eq_true (show v + 1 > aF A x by omega)]; rfl
   have e2 := pN (a := v + 1) hxm
   rw [h1] at e1 e2 hcc
   rw [h1]
   refine ⟨((fW v A0 (cr.take j)).set x.toNat (v + 1), true), ⟨e1.symm, fun h => (by cases h), fun _ => .inr (by rw [e1]; omega), by rw [e1]; omega⟩, by simp only [hcc, decide_true, cond_true]⟩
  ·have e1 : put v A x = A := by rw [put, fH, decide_eq_false (show ¬ (v + 1 > aF A x) by omega)]; exact pj hxm
   rw [e1, h1]
   rw [h1] at hcc
   refine ⟨(fW v A0 (cr.take j), c), ⟨rfl, fun h => ?_, h3, h4⟩, by simp only [hcc, decide_false, cond_false]⟩
   obtain ⟨a1, a2, a3⟩ := h2 h
   refine ⟨a1, a2, fun y hy => ?_⟩
   rw [kH hx] at hy
   rcases List.mem_append.1 hy with hy | hy
   ·exact a3 y hy
   ·simp at hy; subst hy; rw [a2] at hcc; omega
structure PI (es : List a8) (P : Nat) (R A : List Int) : Prop where
 rl : R.length = es.length
 al : A.length = P
 rb : ∀ j, 0 ≤ aF R j ∧ aF R j ≤ 100
 ab : ∀ p, 0 ≤ aF A p ∧ aF A p ≤ 101
 pa : ∀ f, qR es f → ∀ p, aF A p ≤ f p
 pr : ∀ f, qR es f → ∀ (j : Nat) e, es[j]? = some e → aF R j ≤ mx f 0 e.deletes
def xK (R A : List Int) (j : Nat) (e : a8) : Prop := (∀ x ∈ e.deletes, aF A x ≤ aF R j) ∧ ∀ y ∈ e.creates, aF R j < aF A y
def yE (es : List a8) (R A : List Int) : Prop := ∀ (j : Nat) e, es[j]? = some e → xK R A j e
theorem ox {es : List a8} {P : Nat} (ho : ∀ e ∈ es, uM P e) (hP : P ≤ 50) (h : ∃ f, qR es f) : ∃ f, qR es f ∧ ∀ p, f p ≤ 50 := by
 obtain ⟨f, hf⟩ := h
 refine ⟨_, kA ho (mT ho hf), fun p => ?_⟩
 have := xY ho P p
 omega
theorem wT {es : List a8} {P : Nat} (ho : ∀ e ∈ es, uM P e) (hl : es.length ≤ 6) (hP : P ≤ 50) (hne : ∀ e ∈ es, e.deletes ≠ []) {R0 A0 : List Int} (h : PI es P R0 A0) {k : Nat} (hk : 20000 < k) :
  ∃ r, layering_least.l2 k es R0 A0 false es es.length 0 = some r ∧ ((r = .inr ([], [], false, ()) ∧ ¬ ∃ f, qR es f) ∨ ∃ R A c, r = .inl (es, R, A, c, ()) ∧ PI es P R A ∧ (c = false → yE es R A) ∧ (c = true → R0.sum + A0.sum < R.sum + A.sum)) := by
 refine td (F := fun n (s : List Int × List Int × Bool) j => layering_least.l2 n es s.1 s.2.1 s.2.2 es es.length j) es.length
  (fun i s => PI es P s.1 s.2.1 ∧ (s.2.2 = false → s.1 = R0 ∧ s.2.1 = A0 ∧ ∀ (j : Nat) e, j < i → es[j]? = some e → xK R0 A0 j e) ∧ (s.2.2 = true → R0.sum + A0.sum < s.1.sum + s.2.1.sum) ∧ R0.sum + A0.sum ≤ s.1.sum + s.2.1.sum)
  _ k (R0, A0, false) ⟨h, fun _ => ⟨rfl, rfl, fun j e hj => by omega⟩, fun h => (by cases h), Int.le_refl _⟩ (fun n s h => ?_) (fun n s i hi h => ?_) (by omega)
 ·obtain ⟨R, A, c⟩ := s
  dsimp only at h
  obtain ⟨h1, h2, h3, _⟩ := h
  simp only [layering_least.l2, az, cond_false]
  refine ⟨_, rfl, .inr ⟨R, A, c, rfl, h1, fun hc => ?_, h3⟩⟩
  obtain ⟨rfl, rfl, h4⟩ := h2 hc
  exact fun j e he => h4 j e (aL he) he
 ·obtain ⟨R, A, c⟩ := s
  dsimp only at h
  obtain ⟨h1, h2, h3, h5⟩ := h
  have hx : es[i]? = some es[i] := List.getElem?_eq_getElem hi
  have hmem : es[i] ∈ es := List.getElem_mem hi
  generalize es[i] = e at *
  have o := ho e hmem
  have hir : 0 ≤ (i : Int) ∧ (i : Int) < R.length := by have := h1.rl; omega
  obtain ⟨_, e4, c1, rfl, f1, f2⟩ := yD (es := es) (ls := es) (A := A) (R0 := R) (i := (i : Int)) (n8 := (i : Int)) (q7 := (es.length : Int)) (e := e) (c0 := c) hir (by rw [h1.al]; exact o.d) o.dl
  generalize hv : mx (aF A) (aF R i) e.deletes = v at *
  have hvge := mc (aF A) e.deletes (aF R i)
  rw [hv] at hvge
  have hvle : v ≤ 101 := by rw [← hv]; exact oM _ (by have := (h1.rb i).2; omega) fun x _ => (h1.ab x).2
  have hv0 : 0 ≤ v := by have := (h1.rb i).1; omega
  have hir' : 0 ≤ (i : Int) ∧ (i : Int) < ((R.set (Int.toNat (i : Int)) v).length : Int) := by simpa using hir
  have hlv : aF (R.set (Int.toNat (i : Int)) v) i = v := by rw [my hir hir.1, if_pos rfl]
  obtain ⟨_, e6, c2, rfl, g1, g2, g3⟩ := yW (es := es) (ls := es) (A0 := A) (R := R.set (Int.toNat (i : Int)) v) (i := (i : Int)) (v := v) (q6 := (es.length : Int)) (q7 := (i : Int)) (cr := e.creates) (c0 := c1) hir' hlv ⟨hv0, by omega⟩ (by rw [h1.al]; exact o.c) o.cl
  have cA : ∀ x ∈ e.creates, 0 ≤ x ∧ x < (A.length : Int) := by rw [h1.al]; exact o.c
  have pf : ∀ f, qR es f → v ≤ mx f 0 e.deletes := fun f hf => by
   rw [← hv]
   exact oM _ (h1.pr f hf i e hx) fun x hxd => Int.le_trans (h1.pa f hf x) ((mc f e.deletes 0).2 x hxd)
  simp only [layering_least.l2, aQ hi, cond_true, idx_some hx, Option.bind_some, e4, e6, lV hir', k6 hir', hlv, wS (show i < 4611686018427387904 by omega)]
  by_cases hb : v > 100
  ·simp only [hb, decide_true, cond_true]
   refine .inl ⟨_, rfl, .inl ⟨rfl, fun hp => ?_⟩⟩
   obtain ⟨f, hf, fb⟩ := ox ho hP hp
   have := pf f hf
   have : mx f 0 e.deletes ≤ 50 := oM f (by omega) fun x _ => fb x
   omega
  ·simp only [hb, decide_false, cond_false]
   refine .inr ⟨(R.set (Int.toNat (i : Int)) v, fW v A e.creates, c2), ⟨⟨by simpa using h1.rl, by rw [iA]; exact h1.al, fun j => ?_, fun p => ?_, fun f hf p => ?_, fun f hf j e' he' => ?_⟩, fun hc => ?_, fun hc => ?_, ?_⟩, rfl⟩
   ·by_cases c : 0 ≤ j
    ·rw [my hir c]
     split
     ·exact ⟨hv0, by omega⟩
     ·exact h1.rb j
    ·rw [eN (by omega)]; exact ⟨by omega, by omega⟩
   ·by_cases c : 0 ≤ p
    ·rcases mE (v := v) cA p c with q | ⟨_, q⟩
     ·rw [q]; exact h1.ab p
     ·rw [q]; exact ⟨by omega, by omega⟩
    ·rw [eN (by omega)]; exact ⟨by omega, by omega⟩
   ·by_cases c : 0 ≤ p
    ·rcases mE (v := v) cA p c with q | ⟨q1, q⟩
     ·rw [q]; exact h1.pa f hf p
     ·rw [q]
      have := xU hf hmem (hne e hmem) q1
      have := pf f hf
      omega
    ·rw [eN (by omega)]; exact hf.z p
   ·rw [my hir (by omega)]
    split
    ·rename_i c
     have c : j = i := by omega
     subst c
     rw [hx] at he'; cases he'
     exact pf f hf
    ·exact h1.pr f hf j e' he'
   ·obtain ⟨a1, a2, a3⟩ := g1 hc
    obtain ⟨b1, b2⟩ := f1 a1
    obtain ⟨rfl, rfl, b3⟩ := h2 b1
    have hRe : R.set (Int.toNat (i : Int)) v = R := by rw [b2]; exact pj hir
    refine ⟨hRe, a2, fun j e' hj he' => ?_⟩
    by_cases c : j = i
    ·subst c
     rw [hx] at he'; cases he'
     refine ⟨fun x hxd => ?_, fun y hy => ?_⟩
     ·rw [← b2]; exact hvge.2 x hxd
     ·rw [← b2]; exact a3 y hy
    ·exact b3 j e' (by omega) he'
   ·have s1 := pN (a := v) hir
    have hvR := hvge.1
    dsimp only
    rcases g2 hc with q | q
    ·rcases f2 q with q' | q'
     ·have := h3 q'; omega
     ·omega
    ·omega
   ·have s1 := pN (a := v) hir
    have hvR := hvge.1
    dsimp only
    omega
theorem zd {es : List a8} {P : Nat} (hl : es.length ≤ 6) (hP : P ≤ 50) {R A : List Int} (h : PI es P R A) : R.sum + A.sum ≤ 5650 := by
 have h1 := rJ (b := 100) R fun x hx => by obtain ⟨p, _, _, rfl⟩ := pP hx; exact (h.rb p).2
 have h2 := rJ (b := 101) A fun x hx => by obtain ⟨p, _, _, rfl⟩ := pP hx; exact (h.ab p).2
 have := h.rl
 have := h.al
 omega
theorem rr {es : List a8} {P : Nat} (ho : ∀ e ∈ es, uM P e) (hl : es.length ≤ 6) (hP : P ≤ 50) (hne : ∀ e ∈ es, e.deletes ≠ []) {k : Nat} (hk : 20000 < k) :
  ∀ (m fuel : Nat) (R A : List Int), PI es P R A → 5700 - (R.sum + A.sum) ≤ m → m + 2 ≤ fuel → (layering_least.l0 k fuel es R A true = some (.inr ([], [], false, ())) ∧ ¬ ∃ f, qR es f) ∨ ∃ R' A', layering_least.l0 k fuel es R A true = some (.inl (R', A', ())) ∧ PI es P R' A' ∧ yE es R' A'
 | m, 0, R, A, h, hm, hf => by omega
 | 0, fuel + 1, R, A, h, hm, hf => by have := zd hl hP h; omega
 | m + 1, fuel + 1, R, A, h, hm, hf => by
  obtain ⟨r, e, p⟩ := wT ho hl hP hne h hk
  simp only [layering_least.l0, cond_true, e, Option.bind_some]
  rcases p with ⟨rfl, p⟩ | ⟨R', A', c, rfl, p1, p2, p3⟩
  ·exact .inl ⟨rfl, p⟩
  ·cases c with
   | false =>
    cases fuel with
    | zero => omega
    | succ fuel => exact .inr ⟨R', A', rfl, p1, p2 rfl⟩
   | true =>
    have := p3 rfl
    exact rr ho hl hP hne hk m fuel R' A' p1 (by omega) (by omega)
theorem xT : @dz = @gE a8 := by kernel_rfl
theorem zB {es : List a8} {P : Nat} : PI es P (List.replicate es.length 0) (List.replicate P 0) := by
 have z : ∀ n p, aF (List.replicate n (0 : Int)) p = 0 := fun n p => zm [] n p
 refine ⟨by simp, by simp, fun j => ?_, fun p => ?_, fun f hf p => ?_, fun f hf j e _ => ?_⟩
 ·rw [z]; omega
 ·rw [z]; omega
 ·rw [z]; exact hf.z p
 ·rw [z]; exact (mc f e.deletes 0).1
theorem wN {es : List a8} {P : Nat} (ho : ∀ e ∈ es, uM P e) (hl : es.length ≤ 6) (hP : P ≤ 50) {k : Nat} (hk : 20000 < k) :
  (layering_least k es P = some ([], [], false, ()) ∧ ¬ ((∀ e ∈ es, e.deletes ≠ []) ∧ ∃ f, qR es f)) ∨ ∃ R A, layering_least k es P = some (R, A, true, ()) ∧ (∀ e ∈ es, e.deletes ≠ []) ∧ PI es P R A ∧ yE es R A := by
 have h1 := bz (l := es) (q := fun z1 => ek z1.1) (p := fun e => (e.deletes.length : Int) == 0) (fun _ _ => rfl) (cO hl (by omega))
 have f1 : cE es.length = true := bB (by omega)
 have f2 : cE P = true := bB (by omega)
 simp only [layering_least, xT, h1, f1, f2, iv, mv (Nat.le_refl _), Bool.and_self, cond_true, Option.bind_some, Int.toNat_natCast]
 cases ha : es.any (fun e => (e.deletes.length : Int) == 0) with
 | true =>
  refine .inl ⟨rfl, fun h => ?_⟩
  obtain ⟨e, he, h2⟩ := List.any_eq_true.1 ha
  have : e.deletes = [] := by simpa using h2
  exact h.1 e he this
 | false =>
  have hne : ∀ e ∈ es, e.deletes ≠ [] := fun e he c => by
   have := List.any_eq_false.1 ha e he
   rw [c] at this; exact this rfl
  simp only [cond_false]
  have h0 := zB (es := es) (P := P)
  have hz : (List.replicate es.length (0 : Int)).sum + (List.replicate P (0 : Int)).sum = 0 := by simp
  rcases rr ho hl hP hne hk 5700 k _ _ h0 (by omega) (by omega) with ⟨e, p⟩ | ⟨R, A, e, p1, p2⟩
  ·rw [e]; exact .inl ⟨rfl, fun h => p h.2⟩
  ·rw [e]; exact .inr ⟨R, A, rfl, hne, p1, p2⟩
end Go.Ev.Pl
end
section
set_option linter.unusedVariables false
namespace Go.Ev.Pl
theorem iN {k : Nat} {a b : List Int} (ha : a.length ≤ 1000) (hk : 20000 < k) : scarfjointref05_SameInts k a b = some (decide (a = b), ()) := by
 rw [scarfjointref05_SameInts]
 cases hl : ((a.length : Int) != (b.length : Int)) with
 | true =>
  have : a ≠ b := fun c => by rw [c] at hl; simp at hl
  simp [this]
 | false =>
  have hl : a.length = b.length := by simp at hl; omega
  have h := bS (F := scarfjointref05_SameInts.l0 a b) a () (fun i x => cond (x != aF b i) (some (false, ())) none) k (fun n => by simp only [scarfjointref05_SameInts.l0, az, cond_false]) (fun n i x hx _ => by
   have hi := aL hx
   have e2 : ay b (i : Int) = some (aF b i) := jl (by omega)
   simp only [scarfjointref05_SameInts.l0, aQ hi, cond_true, idx_some hx, e2, Option.bind_some, cS, wS (show i < 4611686018427387904 by omega)]) (by omega)
  simp only [cond_false, h, Option.bind_some]
  cases hf : bU (fun i x => cond (x != aF b i) (some (false, ())) none) a with
  | none =>
   have : a = b := mJ hl fun p h0 h1 => by
    obtain ⟨x, x1, x2, _⟩ := bw h0 h1
    have h2 := eJ.1 hf p.toNat x x2
    have e3 : ((p.toNat : Nat) : Int) = p := by omega
    rw [e3] at h2
    have h2 : x = aF b p := Classical.byContradiction fun c => by
     have : (x != aF b p) = true := by simpa using c
     rw [this] at h2; cases h2
    rw [aF, x1]; exact h2
   rw [decide_eq_true this]; rfl
  | some z =>
   obtain ⟨j, _, _, j3, _⟩ := dy hf
   obtain ⟨x, j4, j5⟩ := Option.bind_eq_some_iff.1 j3
   dsimp only at j5
   cases hc : (x != aF b j) with
   | false => rw [hc] at j5; cases j5
   | true =>
    rw [hc] at j5; cases j5
    have : a ≠ b := fun c => by
     subst c
     rw [aF, idx_some j4] at hc
     simp at hc
    rw [decide_eq_false this]; rfl
theorem vS {α S R : Type} {F : Nat → S → Int → Option R} (l : List α) (fX : Nat → S → Prop) (out : S → Option R) (st : α → S → S) (fuel : Nat) (s : S) (hs : fX 0 s)
  (h0 : ∀ n s, fX l.length s → F (n + 1) s (l.length : Int) = out s)
  (h1 : ∀ n s (i : Nat) x, l[i]? = some x → fX i s → F (n + 1) s (i : Int) = F n (st x s) ((i + 1 : Nat) : Int))
  (hI : ∀ s (i : Nat) x, l[i]? = some x → fX i s → fX (i + 1) (st x s)) (hf : l.length < fuel) : F fuel s 0 = out (l.foldl (fun s x => st x s) s) := by
 suffices H : ∀ c i fuel s, l.length - i = c → i ≤ l.length → l.length - i < fuel → fX i s → F fuel s (i : Int) = out ((l.drop i).foldl (fun s x => st x s) s) by
  have := H _ 0 fuel s rfl (by omega) (by omega) hs
  simpa using this
 intro c
 induction c with
 | zero =>
  intro i fuel s hc hi hf hs
  obtain rfl : i = l.length := by omega
  cases fuel with
  | zero => omega
  | succ n => rw [h0 n s hs]; simp
 | succ c ih =>
  intro i fuel s hc hi hf hs
  cases fuel with
  | zero => omega
  | succ n =>
   have hlt : i < l.length := by omega
   have hx := List.getElem?_eq_getElem hlt
   rw [h1 n s i _ hx hs, ih (i + 1) n _ (by omega) (by omega) (by omega) (hI s i _ hx hs), List.drop_eq_getElem_cons hlt]
   rfl
theorem uB {n : Nat} {t : ad} {rs : List aH} (ok : uZ n t rs) : jm n t rs = 0 := by
 have h1 : (jA t != 0) = false := by simpa using ok.t0
 have h2 : decide ((rs.length : Int) > 6) = false := by have := ok.l; simp; omega
 have h3 : bU (fun _ r => cond (hO n t r != 0) (some (hO n t r, ())) none) rs = none := eJ.2 fun j r hr => by
  have : (hO n t r != 0) = false := by simpa using ok.e r (cJ hr)
  rw [this]; rfl
 simp only [jm, h1, h2, h3, cond_false, lk]
section
variable {k n : Nat} {t : ad} {rs : List aH} (ht : BT t) (hr : ∀ r ∈ rs, sI n r) (ok : uZ n t rs) (hk : 20000 + n < k)
include ht hr ok hk
theorem vh {L : List Int} (hL : L.length = t.nodes.length + t.edges.length) (hb : ∀ p, 0 ≤ aF L p ∧ aF L p ≤ 1000) : scarfjointref40_raise k t rs L = some ((rs.map (dF t)).map (fun e => mx (aF L) 0 e.deletes), si L (rs.map (dF t)) L, ()) := by
 have tl := nT ht ok
 have rl := ok.l
 have h0 := vS (F := fun m (s : List Int × List Int) i => scarfjointref40_raise.l0 k m rs L t s.1 s.2 i) rs (fun i s => s.1.length = i ∧ s.2.length = L.length) (fun s => some (s.1, s.2, ())) (fun r s => (s.1 ++ [mx (aF L) 0 (dF t r).deletes], fW (mx (aF L) 0 (dF t r).deletes) s.2 (dF t r).creates)) k ([], L) ⟨rfl, rfl⟩ (fun m s _ => by simp only [scarfjointref40_raise.l0, az, cond_false]) (fun m s i r hx hs => by
  have hi := aL hx
  have hmem := cJ hx
  have o := sf ht (ok.e r hmem)
  have hD := kR (k := k) ht (hr r hmem) (ok.e r hmem) hk
  generalize dF t r = E at *
  have l2 := fun s0 s1 : List Int => qq (F := fun m s j => scarfjointref40_raise.l2 rs L t s0 s1 i E.deletes E.creates m s j) E.deletes (fun s => some (rs, L, t, s0, s1, (i : Int), E.creates, s, ())) (fun x s => fH s (aF L x)) k 0 (fun m s => by simp only [scarfjointref40_raise.l2, az, cond_false]) (fun m s j x hx => by
   have hj := aL hx
   have hxm := o.d x (cJ hx)
   have := o.dl
   simp only [scarfjointref40_raise.l2, aQ hj, iv, Bool.and_true, cond_true, Int.toNat_natCast, fD hx, jl (L := L) (k := x) (by omega), Option.bind_some, wS (show j < 4611686018427387904 by omega)]) (by have := o.dl; omega)
  have hv : 0 ≤ mx (aF L) 0 E.deletes ∧ mx (aF L) 0 E.deletes ≤ 1000 := ⟨(mc _ _ _).1, oM _ (by omega) fun x _ => (hb x).2⟩
  have l2' : ∀ s0 s1 : List Int, scarfjointref40_raise.l2 rs L t s0 s1 i E.deletes E.creates k 0 0 = some (rs, L, t, s0, s1, (i : Int), E.creates, mx (aF L) 0 E.deletes, ()) := l2
  generalize mx (aF L) 0 E.deletes = v at *
  have w : IntKind.i64.wrap (v + 1) = v + 1 := jC (by omega) (by omega)
  have l4 : ∀ s0 s1 : List Int, s1.length = L.length → scarfjointref40_raise.l4 rs L t s0 i E.creates v k s1 0 = some (rs, L, t, s0, fW v s1 E.creates, (i : Int), ()) := fun s0 s1 hs1 =>
   vS (F := fun m s j => scarfjointref40_raise.l4 rs L t s0 i E.creates v m s j) E.creates (fun _ s => s.length = L.length) (fun s => some (rs, L, t, s0, s, (i : Int), ())) (fun x s => put v s x) k s1 hs1 (fun m s _ => by simp only [scarfjointref40_raise.l4, az, cond_false]) (fun m s j x hx hs => by
    have hj := aL hx
    have hxm := o.c x (cJ hx)
    have hxs : 0 ≤ x ∧ x < (s.length : Int) := by omega
    have := o.cl
    simp only [scarfjointref40_raise.l4, aQ hj, iv, Bool.and_true, cond_true, Int.toNat_natCast, fD hx, lV hxs, k6 hxs, Option.bind_some, w, put, wS (show j < 4611686018427387904 by omega)]) (fun s j x hx hs => by rw [mz]; exact hs) (by have := o.cl; omega)
  have f1 : cE (s.1.length + 1) = true := bB (by omega)
  simp only [scarfjointref40_raise.l0, aQ hi, cond_true, idx_some hx, hD.1, hD.2, Option.bind_some, l2', l4 _ _ hs.2, List.length_cons, List.length_nil, Nat.zero_add, f1, wS (show i < 4611686018427387904 by omega)]) (fun s i r hx hs => ⟨by simp [hs.1], by rw [iA]; exact hs.2⟩) (by omega)
 have key : ∀ (l : List aH) (a M : List Int), l.foldl (fun (s : List Int × List Int) r => (s.1 ++ [mx (aF L) 0 (dF t r).deletes], fW (mx (aF L) 0 (dF t r).deletes) s.2 (dF t r).creates)) (a, M) = (a ++ (l.map (dF t)).map (fun e => mx (aF L) 0 e.deletes), si L (l.map (dF t)) M) := by
  intro l
  induction l with
  | nil => intro a M; simp [si]
  | cons r l ih => intro a M; rw [List.foldl_cons, ih]; simp [si]
 have f2 : cE (0 + L.length) = true := bB (by omega)
 rw [key] at h0
 simp only [scarfjointref40_raise, List.length_nil, f2, cond_true, List.nil_append, h0, Option.bind_some]
theorem tE : (scarfjointref40_least k t rs = some (([], [], [], ()), false, ()) ∧ ¬ ((∀ e ∈ rs.map (dF t), e.deletes ≠ []) ∧ ∃ f, qR (rs.map (dF t)) f)) ∨
  ∃ r, r ≤ t.nodes.length + t.edges.length + 1 ∧ J (rs.map (dF t)) (t.nodes.length + t.edges.length) (r + 1) = J (rs.map (dF t)) (t.nodes.length + t.edges.length) r ∧ (∀ e ∈ rs.map (dF t), e.deletes ≠ []) ∧
   scarfjointref40_least k t rs = some (((rs.map (dF t)).map (fun e => mx (aF (J (rs.map (dF t)) (t.nodes.length + t.edges.length) r)) 0 e.deletes), (J (rs.map (dF t)) (t.nodes.length + t.edges.length) r).take t.nodes.length, (J (rs.map (dF t)) (t.nodes.length + t.edges.length) r).drop t.nodes.length, ()), true, ()) := by
 have tl := nT ht ok
 have rl := ok.l
 obtain ⟨oe, ol⟩ := rP ht ok
 have l0 := bS (F := scarfjointref40_least.l0 k rs t [] [] []) rs (rs, t, ([], [], [], ()), ()) (fun _ r => cond (((dF t r).deletes.length : Int) == 0) (some (([], [], [], ()), false, ())) none) k (fun m => by simp only [scarfjointref40_least.l0, az, cond_false]) (fun m i r hx _ => by
  have hi := aL hx
  have hmem := cJ hx
  have hD := kR (k := k) ht (hr r hmem) (ok.e r hmem) hk
  simp only [scarfjointref40_least.l0, aQ hi, cond_true, idx_some hx, hD.1, Option.bind_some, cS, wS (show i < 4611686018427387904 by omega)]) (by omega)
 rw [bH (fun r => ((dF t r).deletes.length : Int) == 0)] at l0
 simp only [scarfjointref40_least, l0, Option.bind_some, fF]
 have w1 : IntKind.i64.wrap ((t.nodes.length : Int) + (t.edges.length : Int)) = ((t.nodes.length + t.edges.length : Nat) : Int) := pA (by omega)
 have w2 : IntKind.i64.wrap (((t.nodes.length + t.edges.length : Nat) : Int) + 1) = ((t.nodes.length + t.edges.length + 1 : Nat) : Int) := wS (by omega)
 cases ha : rs.any (fun r => ((dF t r).deletes.length : Int) == 0) with
 | true =>
  refine .inl ⟨rfl, fun h => ?_⟩
  obtain ⟨r, hr, h2⟩ := List.any_eq_true.1 ha
  exact h.1 _ (List.mem_map.2 ⟨r, hr, rfl⟩) (by simpa using h2)
 | false =>
  have hne : ∀ e ∈ rs.map (dF t), e.deletes ≠ [] := fun e he c => by
   obtain ⟨r, hr, rfl⟩ := List.mem_map.1 he
   have := List.any_eq_false.1 ha r hr
   rw [c] at this; exact this rfl
  have f1 : cE (t.nodes.length + t.edges.length) = true := bB (by omega)
  simp only [cond_false, aG, w1, iv, mv (Nat.le_refl _), Bool.and_self, Int.toNat_natCast, f1, cond_true]
  generalize hP : t.nodes.length + t.edges.length = P at *
  obtain ⟨r, e, p⟩ := td (F := fun m (s : List Int) i => scarfjointref40_least.l2 k rs t [] [] [] P m s i) (P + 2) (fun i s => s = J (rs.map (dF t)) P i ∧ ∀ j, j < i → J (rs.map (dF t)) P (j + 1) ≠ J (rs.map (dF t)) P j)
   (fun o => (o = .inl (([], [], [], ()), ()) ∧ ∀ j, j < P + 2 → J (rs.map (dF t)) P (j + 1) ≠ J (rs.map (dF t)) P j) ∨ ∃ r, r ≤ P + 1 ∧ J (rs.map (dF t)) P (r + 1) = J (rs.map (dF t)) P r ∧ o = .inr (((rs.map (dF t)).map (fun e => mx (aF (J (rs.map (dF t)) P r)) 0 e.deletes), (J (rs.map (dF t)) P r).take t.nodes.length, (J (rs.map (dF t)) P r).drop t.nodes.length, ()), true, ()))
   k (List.replicate P 0) ⟨rfl, fun j hj => by omega⟩ (fun m s h => by
    have : decide (((P + 2 : Nat) : Int) ≤ ((P + 1 : Nat) : Int)) = false := decide_eq_false (by omega)
    simp only [scarfjointref40_least.l2, w2, this, cond_false]
    exact ⟨_, rfl, .inl ⟨rfl, h.2⟩⟩) (fun m s i hi h => by
    obtain ⟨rfl, h2⟩ := h
    have hb : ∀ p, 0 ≤ aF (J (rs.map (dF t)) P i) p ∧ aF (J (rs.map (dF t)) P i) p ≤ 1000 := fun p => ⟨zg oe i p, by have := xY oe i p; omega⟩
    have hlen := gq (rs.map (dF t)) P i
    have re := vh ht hr ok hk (L := J (rs.map (dF t)) P i) (by omega) hb
    have hnl : t.nodes.length ≤ (J (rs.map (dF t)) P i).length := by omega
    have : decide ((i : Int) ≤ ((P + 1 : Nat) : Int)) = true := decide_eq_true (by omega)
    simp only [scarfjointref40_least.l2, w2, this, cond_true, re, iN (k := k) (a := J (rs.map (dF t)) P i) (show _ ≤ 1000 by omega) (by omega), Option.bind_some, wS (show i < 4611686018427387904 by omega)]
    by_cases hc : J (rs.map (dF t)) P i = si (J (rs.map (dF t)) P i) (rs.map (dF t)) (J (rs.map (dF t)) P i)
    ·refine .inl ⟨_, ?_, .inr ⟨i, by omega, hc.symm, rfl⟩⟩
     rw [decide_eq_true hc, cond_true]
     simp only [Int.toNat_natCast, iv, mv hnl, mv (Nat.le_refl _), sw hnl, zn, Nat.le_refl, decide_true, Bool.and_self, cond_true, qu, yt]
     simp only [slc, List.take_length]
    ·refine .inr ⟨J (rs.map (dF t)) P (i + 1), ⟨rfl, fun j hj => ?_⟩, by rw [decide_eq_false hc, cond_false]; rfl⟩
     by_cases e : j = i
     ·subst e; exact fun c => hc c.symm
     ·exact h2 j (by omega)) (by omega)
  rw [e]
  rcases p with ⟨rfl, p⟩ | ⟨r', p1, p2, rfl⟩
  ·refine .inl ⟨rfl, fun h => ?_⟩
   obtain ⟨_, f, hf⟩ := h
   exact p P (by omega) (mT oe hf)
  ·exact .inr ⟨r', p1, p2, hne, rfl⟩
theorem vn {R A : List Int} (hR : R.length = rs.length) (hA : A.length = t.nodes.length + t.edges.length) (rb : ∀ j, 0 ≤ aF R j ∧ aF R j ≤ 100) (ab : ∀ p, 0 ≤ aF A p ∧ aF A p ≤ 100) (hne : ∀ e ∈ rs.map (dF t), e.deletes ≠ []) (sol : yE (rs.map (dF t)) R A) :
  layering_Check k t rs ⟨R, A.take t.nodes.length, A.drop t.nodes.length⟩ = some (true, ()) := by
 have tl := nT ht ok
 have rl := ok.l
 have n1 : (A.take t.nodes.length).length = t.nodes.length := by rw [List.length_take]; omega
 have n2 : (A.drop t.nodes.length).length = t.edges.length := by rw [List.length_drop]; omega
 obtain ⟨b, c1, _, c3⟩ := yT (k := k) (l := ⟨R, A.take t.nodes.length, A.drop t.nodes.length⟩) ht hr (by omega) (by dsimp only; omega) (by dsimp only; omega) (by dsimp only; omega) hk
 rw [c1, c3]
 have g0 : jm n t rs = 0 := uB ok
 have nb : ∀ (M : List Int), (∀ p, 0 ≤ aF M p ∧ aF M p ≤ 100) → ∀ l : List Int, (∀ x ∈ l, x ∈ M) → l.any kg = false := fun M hM l hl => by
  rw [List.any_eq_false]
  intro x hx
  obtain ⟨p, _, _, rfl⟩ := pP (hl x hx)
  have := hM p
  simp [kg]; omega
 have hf : bU (tD (A.take t.nodes.length ++ A.drop t.nodes.length) R) (rs.map (dF t)) = none := by
  rw [List.take_append_drop]
  refine eJ.2 fun j e he => ?_
  obtain ⟨s1, s2⟩ := sol j e he
  have hd : ((e.deletes.length : Int) == 0) = false := by
   have := hne e (cJ he)
   cases h : e.deletes with
   | nil => exact absurd h this
   | cons x l => simp; omega
  have h1 : e.deletes.any (fun k => decide (aF A k > aF R j)) = false := by
   rw [List.any_eq_false]; intro x hx; have := s1 x hx; simp; omega
  have h2 : e.creates.any (fun k => decide (aF A k ≤ aF R j)) = false := by
   rw [List.any_eq_false]; intro x hx; have := s2 x hx; simp; omega
  simp only [tD, hd, h1, h2, Bool.or_self, cond_false]
 simp only [g0, n1, n2, hR, nb R rb R (fun x h => h), nb A ab _ (fun x h => List.mem_of_mem_take h), nb A ab _ (fun x h => List.mem_of_mem_drop h), hf, beq_self_eq_true, Bool.not_false, Bool.and_self, Option.isNone_none]
end
theorem xk {es : List a8} {g : a8 → Int} {j : Nat} {e : a8} (h : es[j]? = some e) : aF (es.map g) j = g e := by
 have : (es.map g)[j]? = some (g e) := by rw [List.getElem?_map, h]; rfl
 rw [aF, idx_some this]; rfl
theorem wG {k n : Nat} {t : ad} {rs : List aH} (ht : BT t) (hr : ∀ r ∈ rs, sI n r) (hrl : rs.length ≤ 1000) (hk : 20000 + n < k) :
  ∃ a e, cQ k t rs = some (a, e, ()) ∧ cx k t rs = some (a, e, ()) ∧
   ((e = jm n t rs ∧ e ≠ 0 ∧ a = ([], [], [], ())) ∨ (jm n t rs = 0 ∧ e = 10 ∧ a = ([], [], [], ()) ∧ ¬ ((∀ e ∈ rs.map (dF t), e.deletes ≠ []) ∧ ∃ f, qR (rs.map (dF t)) f)) ∨
    (jm n t rs = 0 ∧ e = 0 ∧ (∀ e ∈ rs.map (dF t), e.deletes ≠ []) ∧ (∃ f, qR (rs.map (dF t)) f) ∧ ∃ R A : List Int, a = (R, A.take t.nodes.length, A.drop t.nodes.length, ()) ∧ R.length = rs.length ∧ A.length = t.nodes.length + t.edges.length ∧ (∀ j, 0 ≤ aF R j ∧ aF R j ≤ 50) ∧ (∀ p, 0 ≤ aF A p ∧ aF A p ≤ 50) ∧ yE (rs.map (dF t)) R A)) := by
 simp only [cQ, cx, sX ht hr hrl hk, tN ht hr hrl hk, Option.bind_some]
 cases h0 : (jm n t rs != 0) with
 | true => exact ⟨_, _, rfl, rfl, .inl ⟨rfl, by simpa using h0, rfl⟩⟩
 | false =>
  have g0 : jm n t rs = 0 := by simpa using h0
  have ok := pD g0
  obtain ⟨oe, ol⟩ := rP ht ok
  have tl := nT ht ok
  have w1 : IntKind.i64.wrap ((t.nodes.length : Int) + (t.edges.length : Int)) = ((t.nodes.length + t.edges.length : Nat) : Int) := pA (by omega)
  simp only [cond_false, w1]
  have P50 : t.nodes.length + t.edges.length ≤ 50 := by omega
  rcases wN oe ol P50 (show 20000 < k by omega) with ⟨e1, p1⟩ | ⟨R, A, e1, hne, pi, sol⟩
  ·rcases tE ht hr ok hk with ⟨e2, p2⟩ | ⟨r, r1, r2, r3, e2⟩
   ·rw [e1, e2]
    exact ⟨([], [], [], ()), 10, rfl, rfl, .inr (.inl ⟨g0, rfl, rfl, p1⟩)⟩
   ·exact absurd ⟨r3, _, kA oe r2⟩ p1
  ·have potA : qR (rs.map (dF t)) (aF A) := ⟨fun x => (pi.ab x).1, fun x y ⟨e, he, hx, hy⟩ => by
    obtain ⟨j, hj, rfl⟩ := List.getElem_of_mem he
    obtain ⟨s1, s2⟩ := sol j _ (List.getElem?_eq_getElem hj)
    have := s1 x hx
    have := s2 y hy
    omega⟩
   rcases tE ht hr ok hk with ⟨e2, p2⟩ | ⟨r, r1, r2, r3, e2⟩
   ·exact absurd ⟨hne, _, potA⟩ p2
   ·have potJ := kA oe r2
    have lA : ∀ p, aF A p = aF (J (rs.map (dF t)) (t.nodes.length + t.edges.length) r) p := fun p => by
     have := pi.pa _ potJ p
     have := xQ oe hne potA r p
     omega
    have eA : A = J (rs.map (dF t)) (t.nodes.length + t.edges.length) r := mJ (by rw [pi.al, gq]) fun p _ _ => lA p
    have eR : R = (rs.map (dF t)).map (fun e => mx (aF (J (rs.map (dF t)) (t.nodes.length + t.edges.length) r)) 0 e.deletes) := by
     refine mJ (by rw [pi.rl, List.length_map, List.length_map, List.length_map]) fun p h1 h2 => ?_
     have hp : p.toNat < (rs.map (dF t)).length := by have := pi.rl; omega
     have hx := List.getElem?_eq_getElem hp
     have ep : ((p.toNat : Nat) : Int) = p := by omega
     have hm := xk (g := fun e => mx (aF (J (rs.map (dF t)) (t.nodes.length + t.edges.length) r)) 0 e.deletes) hx
     rw [ep] at hm
     rw [hm]
     have u := pi.pr _ potJ p.toNat _ hx
     have l := (sol p.toNat _ hx).1
     rw [ep] at u l
     have := oM (aF (J (rs.map (dF t)) (t.nodes.length + t.edges.length) r)) (l := ((rs.map (dF t))[p.toNat]).deletes) (m := 0) (b := aF R p) (pi.rb p).1 fun x hx => by rw [← lA]; exact l x hx
     omega
    have hnl : t.nodes.length ≤ A.length := by have := pi.al; omega
    have b50 : ∀ p, aF A p ≤ 50 := fun p => by
     obtain ⟨f, f1, f2⟩ := ox oe P50 ⟨_, potA⟩
     have := pi.pa f f1 p
     have := f2 p
     omega
    refine ⟨(R, A.take t.nodes.length, A.drop t.nodes.length, ()), 0, ?_, ?_, .inr (.inr ⟨g0, rfl, hne, ⟨_, potA⟩, R, A, rfl, by have := pi.rl; simpa using this, pi.al, fun j => ⟨(pi.rb j).1, ?_⟩, fun p => ⟨(pi.ab p).1, b50 p⟩, sol⟩)⟩
    ·rw [e1]
     simp only [Option.bind_some, Bool.not_true, cond_false, Int.toNat_natCast, iv, mv hnl, mv (Nat.le_refl _), sw hnl, zn, Nat.le_refl, decide_true, Bool.and_self, cond_true, qu, yt]
     simp only [slc, List.take_length]
    ·rw [e2, ← eR, ← eA]; rfl
    ·by_cases c : 0 ≤ j ∧ j < R.length
     ·have hp : j.toNat < (rs.map (dF t)).length := by have := pi.rl; omega
      have u := pi.pr _ potA j.toNat _ (List.getElem?_eq_getElem hp)
      rw [show ((j.toNat : Nat) : Int) = j by omega] at u
      exact Int.le_trans u (oM _ (by omega) fun x _ => b50 x)
     ·rw [eN c]; omega
theorem lQ {k : Nat} {a : bM} (h1 : a.rules.length ≤ 1000) (h2 : a.nodes.length ≤ 1000) (h3 : a.edges.length ≤ 1000) (hk : 20000 < k) : bd k a a = some (true, ()) := by
 simp only [bd, iN h1 hk, iN h2 hk, iN h3 hk, decide_true, Option.bind_some, cond_true]
theorem wa {k : Nat} {t : ad} {rs : List aH} (ht : ∀ x ∈ t.nodes, x.attrs.length ≤ mi) (hr : ∀ r ∈ rs, yO r) (hk : 30000 < k) (aw : bI k = some (true, ())) : aK k t rs = some (true, ()) := by
 obtain ⟨b, e1, p1⟩ := yJ (k := k) ht hr (by omega)
 simp only [aK, aw, e1, Option.bind_some, Bool.not_true, cond_false, eX, i9]
 cases hb : b with
 | false => rfl
 | true =>
  obtain ⟨bt, rl, br⟩ := p1 hb
  obtain ⟨a, e, f1, f2, f3⟩ := wG (k := k) bt br (by omega) (by omega)
  simp only [Bool.not_true, cond_false, jI (show rs.length ≤ 1000000 by omega), Option.bind_some, f1, f2, beq_self_eq_true, cond_true]
  rcases f3 with ⟨_, h, rfl⟩ | ⟨_, rfl, rfl, _⟩ | ⟨g0, rfl, hne, _, R, A, rfl, l1, l2, b1, b2, sol⟩
  ·rw [lQ (a := ⟨[], [], []⟩) (by simp) (by simp) (by simp) (by omega)]
   have : (e != 0) = true := by simpa using h
   simp only [Option.bind_some, cond_true, this]; rfl
  ·rw [lQ (a := ⟨[], [], []⟩) (by simp) (by simp) (by simp) (by omega)]; rfl
  ·have ok := pD g0
   have tl := nT bt ok
   rw [lQ (a := ⟨R, A.take t.nodes.length, A.drop t.nodes.length⟩) (by dsimp only; omega) (by dsimp only; rw [List.length_take]; omega) (by dsimp only; rw [List.length_drop]; omega) (by omega),
    vn bt br ok (show 20000 + 41 < k by omega) l1 l2 (fun j => ⟨(b1 j).1, by have := (b1 j).2; omega⟩) (fun p => ⟨(b2 p).1, by have := (b2 p).2; omega⟩) hne sol]
   rfl
end Go.Ev.Pl
end
