import Derived.Test.YtlmpeiepanajmaaGreatM5
set_option linter.all false
section
set_option linter.unusedVariables false
namespace Go.Ev.Pl
def gf (t : ad) (p : ai) (i : Nat) (s : dR) : Int :=
 cond (dm t p s) 6 (cond ((p.slots.take i).any fun y => y.node == s.node && y.attr == s.attr) 5 0)
def jz (t : ad) (r : aC) : Int :=
 cond (l7 r.right.graph != 0) (l7 r.right.graph) (cond (!sA t r.right.graph) 13 (cond (r.right.vars != r.left.vars || decide ((r.right.tests.length : Int) > 0)) 1
  (cond (decide ((r.right.slots.length : Int) > 10)) 3 (jv (bO (fun i x => cond (gf t r.right i x != 0) (some (gf t r.right i x, ())) none) r.right.slots)))))
theorem wn {t : ad} {p : ai} {s : dR} (h : jN t p.graph) (h1 : 0 ≤ s.node ∧ s.node < p.graph.nodes.length) {x : Int} (x1 : aB p.graph.nodes s.node = some x) :
  (decide (s.attr < 0) || (decide (s.attr ≥ ((bj t x).length : Int)) || (decide (s.term.var < -1) || (decide (s.term.var ≥ p.vars) || (decide (s.term.add < -1000000) || decide (s.term.add > 1000000)))))) = dm t p s := by
 have d1 : decide (s.node ≥ 0) = true := decide_eq_true h1.1
 have d3 : decide (s.node < (p.graph.nodes.length : Int)) = true := decide_eq_true h1.2
 simp only [dm, jK, i9, d1, d3, x1, Bool.true_and]
 rw [Bool.eq_iff_iff]; simp <;> omega
theorem vK {t : ad} {p : ai} {s : dR} (h1 : (decide (s.node < 0) || decide (s.node ≥ (p.graph.nodes.length : Int))) = true) : dm t p s = true := by
 have d2 : ∀ b, (decide (s.node ≥ 0) && (decide (s.node < (p.graph.nodes.length : Int)) && b)) = false := fun b => by
  rw [← Bool.and_assoc]; simp at *; intros; omega
 simp only [dm, jK, d2]; rfl
theorem u6 {k : Nat} {t : ad} {r : aC} (h : jN t r.right.graph) (hs : r.right.slots.length ≤ 15) (hk : 2000 < k) {i : Nat} {x : dR} (hx : r.right.slots[i]? = some x) :
  im k t r i = some (gf t r.right i x, ()) ∧ scarfjointref24_slot k t r.right i = some (gf t r.right i x, ()) := by
 have hi := aM hx
 have hn := h.gr.n
 have c1 := bF (l := r.right.slots.take i) (q := fun z6 => fR z6.1 x) (p := fun y => y.node == x.node && y.attr == x.attr) (fun y _ => by simp only [fR, eY, jO, Option.bind_some]) (cP (m := 20) (by simp; omega) (by omega))
 have c2 := oy (F := scarfjointref24_slot.l0 i r.right x) r.right.slots i () (5, ()) (fun y => y.node == x.node && y.attr == x.attr) k (by omega) (fun n => by simp only [scarfjointref24_slot.l0, ar, cond_false]) (fun n j y hj hy => by
  simp only [scarfjointref24_slot.l0, aL hj, cond_true, idx_some hy, Option.bind_some, eY, jO, wS (show j < 4611686018427387904 by omega)]) (by omega)
 simp only [im, scarfjointref24_slot, idx_some hx, Option.bind_some, eY, iM, ug, c1, c2, ig, lI (Nat.le_of_lt hi), zZ, Bool.and_true, cond_true, Int.toNat_natCast, qS]
 cases h1 : (decide (x.node < 0) || decide (x.node ≥ (r.right.graph.nodes.length : Int))) with
 | true => simp only [gf, vK h1, cond_true, and_self]
 | false =>
  have h2 : 0 ≤ x.node ∧ x.node < r.right.graph.nodes.length := by simp at h1; omega
  obtain ⟨y, y1, y2, y3⟩ := bl h2.1 h2.2
  simp only [cond_false, y1, Option.bind_some, rH h.ok hk h.e, p8 h.ok hk h.e, ma h y3, cond_true, wn h h2 y1, gf]
  cases dm t r.right x with
  | true => (refine ⟨?_, ?_⟩ <;> first | rfl | trivial)
  | false => cases ((r.right.slots.take i).any fun y => y.node == x.node && y.attr == x.attr) <;> (refine ⟨?_, ?_⟩ <;> first | rfl | trivial)
theorem oR {k : Nat} {t : ad} {r : aC} (ht : vF t) (h0 : jr t = 0) (hp : BP r.right) (hk : 2000 < k) : rule_right k t r = some (jz t r, ()) ∧ scarfjointref24_right k t r = some (jz t r, ()) := by
 have hs := hp.s
 have hg := hp.g
 simp only [rule_right, scarfjointref24_right, jz, (kA hg (show 200 < k by omega)).1, (kA hg (show 200 < k by omega)).2, Option.bind_some, eY, iM, wI hg]
 cases h4 : (l7 r.right.graph != 0) with
 | true => (refine ⟨?_, ?_⟩ <;> first | rfl | trivial)
 | false =>
  have hgr := k7 (show l7 r.right.graph = 0 by simpa using h4)
  simp only [cond_false, oN hgr (show 200 < k by omega), Option.bind_some]
  cases h5 : sA t r.right.graph with
  | false => (refine ⟨?_, ?_⟩ <;> first | rfl | trivial)
  | true =>
   have hgt : jN t r.right.graph := ⟨ht, h0, hgr, h5⟩
   have l1 := bP (F := rule_right.l1 k t r r.right.slots.length) r.right.slots () (fun i x => cond (gf t r.right i x != 0) (some (gf t r.right i x, ())) none) (Int.toNat (r.right.slots.length : Int) + 1) (fun n => by simp only [rule_right.l1, ar, cond_false]) (fun n i x hx _ => by
    simp only [rule_right.l1, aL (aM hx), cond_true, (u6 hgt hs hk hx).1, Option.bind_some, cY, wS (show i < 4611686018427387904 by have := aM hx; omega)]) (by omega)
   have l2 := bP (F := scarfjointref24_right.l0 k t r) r.right.slots () (fun i x => cond (gf t r.right i x != 0) (some (gf t r.right i x, ())) none) k (fun n => by simp only [scarfjointref24_right.l0, ar, cond_false]) (fun n i x hx _ => by
    simp only [scarfjointref24_right.l0, aL (aM hx), cond_true, (u6 hgt hs hk hx).2, Option.bind_some, cY, wS (show i < 4611686018427387904 by have := aM hx; omega)]) (by omega)
   simp only [Bool.not_true, cond_false, l1, l2]
   cases (r.right.vars != r.left.vars || decide ((r.right.tests.length : Int) > 0)) <;> cases decide ((r.right.slots.length : Int) > 10) <;> first | (refine ⟨?_, ?_⟩ <;> first | rfl | trivial) | exact ⟨kR _, kR _⟩
def od (l : List Int) (n : Int) (i : Nat) (x : Int) : Option (Int × Unit) :=
 cond (decide (x < 0) || decide (x ≥ n)) (some (6, ())) (cond (decide ((i : Int) > 0) && decide (x ≤ (l[i - 1]?).getD 0)) (some (12, ())) none)
def lP (l : List Int) (n : Int) : Int := jv (bO (od l n) l)
theorem pB {k : Nat} {l : List Int} (n : Int) (hl : l.length ≤ 1000) (hk : 2000 < k) : subgraph_list l n = some (lP l n, ()) ∧ scarfjointref07_ascending k l n = some (lP l n, ()) := by
 have step : ∀ (i : Nat) x, l[i]? = some x → (cond (decide ((i : Int) > 0)) ((aB l (IntKind.i64.wrap ((i : Int) - 1))).bind fun x7 => some (decide (x ≤ x7), ())) (some (false, ()))) = some (decide ((i : Int) > 0) && decide (x ≤ (l[i - 1]?).getD 0), ()) := fun i x hx => by
  have := aM hx
  by_cases h : (i : Int) > 0
  ·have e : IntKind.i64.wrap ((i : Int) - 1) = ((i - 1 : Nat) : Int) := by rw [jE (by omega) (by omega)]; omega
   have hg : l[i - 1]? = some l[i - 1] := List.getElem?_eq_getElem (by omega)
   simp only [h, decide_true, cond_true, e, idx_some hg, Option.bind_some, hg, Option.getD_some, Bool.true_and]
  ·simp only [h, decide_false, cond_false, Bool.false_and]
 have l1 := bP (F := subgraph_list.l0 l n l l.length) l () (od l n) (Int.toNat (l.length : Int) + 1) (fun m => by simp only [subgraph_list.l0, ar, cond_false]) (fun m i x hx _ => by
  simp only [subgraph_list.l0, od, aL (aM hx), cond_true, idx_some hx, Option.bind_some, eY, iM, step i x hx, ib, jG, wS (show i < 4611686018427387904 by have := aM hx; omega)]) (by omega)
 have l2 := bP (F := scarfjointref07_ascending.l0 l n) l () (od l n) k (fun m => by simp only [scarfjointref07_ascending.l0, ar, cond_false]) (fun m i x hx _ => by
  simp only [scarfjointref07_ascending.l0, od, aL (aM hx), cond_true, idx_some hx, Option.bind_some, eY, iM, step i x hx, ib, jG, wS (show i < 4611686018427387904 by have := aM hx; omega)]) (by omega)
 exact ⟨by rw [subgraph_list, l1]; exact kR _, by rw [scarfjointref07_ascending, l2]; exact kR _⟩
structure Ax (l : List Int) (n : Nat) : Prop where
 ran : ∀ x ∈ l, 0 ≤ x ∧ x < n
 lt : ∀ (i j : Nat) x y, i < j → l[i]? = some x → l[j]? = some y → x < y
theorem pj {l : List Int} {n : Nat} (h : lP l n = 0) : Ax l n := by
 have h0 : bO (od l n) l = none := by
  cases hf : bO (od l n) l with
  | none => rfl
  | some z =>
   rw [lP, hf] at h
   obtain ⟨j, _, _, j3, _⟩ := cO hf
   obtain ⟨x, _, j5⟩ := Option.bind_eq_some_iff.1 j3
   simp only [od] at j5
   cases h1 : (decide (x < 0) || decide (x ≥ (n : Int))) with
   | true => rw [h1] at j5; cases j5; cases h
   | false =>
    rw [h1] at j5
    cases h2 : (decide ((j : Int) > 0) && decide (x ≤ (l[j - 1]?).getD 0)) with
    | true => rw [h2] at j5; cases j5; cases h
    | false => rw [h2] at j5; cases j5
 rw [dU] at h0
 have key : ∀ (i : Nat) x, l[i]? = some x → (0 ≤ x ∧ x < n) ∧ (0 < i → (l[i - 1]?).getD 0 < x) := fun i x hx => by
  have := h0 i x hx
  simp only [od] at this
  cases h1 : (decide (x < 0) || decide (x ≥ (n : Int))) with
  | true => rw [h1] at this; cases this
  | false =>
   rw [h1] at this
   cases h2 : (decide ((i : Int) > 0) && decide (x ≤ (l[i - 1]?).getD 0)) with
   | true => rw [h2] at this; cases this
   | false => simp at h1 h2; exact ⟨by omega, fun hi => by omega⟩
 refine ⟨fun x hx => ?_, fun i j x y hij hx hy => ?_⟩
 ·obtain ⟨i, hi, rfl⟩ := List.getElem_of_mem hx
  exact (key i _ (List.getElem?_eq_getElem hi)).1
 ·induction j generalizing y with
  | zero => omega
  | succ j ih =>
   have h1 := (key (j + 1) y hy).2 (by omega)
   have hjl : j < l.length := by have := aM hy; omega
   have hj : l[j]? = some l[j] := List.getElem?_eq_getElem hjl
   simp only [Nat.add_sub_cancel, hj, Option.getD_some] at h1
   by_cases e : i = j
   ·subst e; rw [hj] at hx; cases hx; exact h1
   ·have := ih _ (by omega) hj; omega
theorem Bd {i j : Nat} (h : i + j ≤ 1000000) : IntKind.i64.wrap (Int.fdiv (IntKind.u64.wrap (IntKind.i64.wrap ((i : Int) + (j : Int)))) (2 ^ (min (Int.toNat (1 : Int)) (IntKind.bits .u64)))) = (((i + j) / 2 : Nat) : Int) := by
 have e1 : IntKind.i64.wrap ((i : Int) + (j : Int)) = ((i + j : Nat) : Int) := by rw [jE (by omega) (by omega)]; omega
 have e2 : IntKind.u64.wrap ((i + j : Nat) : Int) = ((i + j : Nat) : Int) := by
  simp only [IntKind.wrap, IntKind.bits, IntKind.signed, Bool.false_and]
  rw [if_neg (by decide)]; omega
 have e3 : (2 : Int) ^ (min (Int.toNat (1 : Int)) (IntKind.bits .u64)) = 2 := rfl
 rw [e1, e2, e3]
 have e4 : Int.fdiv ((i + j : Nat) : Int) 2 = (((i + j) / 2 : Nat) : Int) := by rw [Int.fdiv_eq_ediv_of_nonneg _ (by omega)]; omega
 rw [e4, jE (by omega) (by omega)]
theorem sw {l : List Int} {n : Nat} (x : Int) (N : Int) (ha : Ax l n) (hl : l.length ≤ 1000) : ∀ (fuel i j : Nat), j - i < fuel → i ≤ j → j ≤ l.length → (∀ m y, m < i → l[m]? = some y → y < x) → (∀ m y, j ≤ m → l[m]? = some y → x ≤ y) →
  ∃ p : Nat, slices_BinarySearch_lint.l0 l x N fuel i j = some (l, x, N, (p : Int), ()) ∧ p ≤ l.length ∧ (∀ m y, m < p → l[m]? = some y → y < x) ∧ (∀ m y, p ≤ m → l[m]? = some y → x ≤ y)
 | 0, i, j, h, _, _, _, _ => by omega
 | fuel + 1, i, j, h, hij, hj, h1, h2 => by
  by_cases e : i = j
  ·subst e
   refine ⟨i, ?_, hj, h1, h2⟩
   simp only [slices_BinarySearch_lint.l0, ar, cond_false]
  ·have hlt : i < j := by omega
   have hm : (i + j) / 2 < l.length := by omega
   have hg : l[(i + j) / 2]? = some l[(i + j) / 2] := List.getElem?_eq_getElem hm
   have e1 : decide (0 ≤ (1 : Int)) = true := rfl
   have e2 : ∀ y : Int, (y != y) = false := fun y => by simp
   simp only [slices_BinarySearch_lint.l0, aL hlt, cond_true, e1, Bd (show i + j ≤ 1000000 by omega), idx_some hg, Option.bind_some, gn, eS, e2, cond_false, wS (show (i + j) / 2 < 4611686018427387904 by omega)]
   by_cases hc : l[(i + j) / 2] < x
   ·simp only [hc, decide_true, cond_true]
    refine sw x N ha hl fuel _ j (by omega) (by omega) hj (fun m y hm' hy => ?_) h2
    by_cases e3 : m = (i + j) / 2
    ·subst e3; rw [hg] at hy; cases hy; exact hc
    ·have := ha.lt m _ y _ (show m < (i + j) / 2 by omega) hy hg; omega
   ·simp only [hc, decide_false, cond_false]
    refine sw x N ha hl fuel i _ (by omega) (by omega) (by omega) h1 (fun m y hm' hy => ?_)
    by_cases e3 : m = (i + j) / 2
    ·subst e3; rw [hg] at hy; cases hy; omega
    ·have := ha.lt _ m _ y (show (i + j) / 2 < m by omega) hg hy; omega
def oA (l : List Int) (x : Int) : Int := tz (l.findIdx? (· == x))
theorem qt {k : Nat} {l : List Int} {n : Nat} (x : Int) (ha : Ax l n) (hl : l.length ≤ 1000) (hk : 2000 < k) : ∃ p, slices_BinarySearch_lint k l x = some (p, l.any (x == ·), ()) ∧ (l.any (x == ·) = true → p = oA l x) := by
 obtain ⟨p, h1, h2, h3, h4⟩ := sw x (l.length : Int) ha hl k 0 l.length (by omega) (by omega) (Nat.le_refl _) (fun m y h => by omega) (fun m y h hy => by have := aM hy; omega)
 rw [slices_BinarySearch_lint, show (0 : Int) = ((0 : Nat) : Int) from rfl, h1]
 have e2 : ∀ y : Int, (y != y) = false := fun y => by simp
 simp only [Option.bind_some]
 by_cases hp : p < l.length
 ·have hg : l[p]? = some l[p] := List.getElem?_eq_getElem hp
  simp only [aL hp, cond_true, idx_some hg, Option.bind_some, dt, e2, cond_false]
  by_cases hx : l[p] = x
  ·have e3 : (l[p] == x) = true := by simpa using hx
   have e4 : l.any (x == ·) = true := List.any_eq_true.2 ⟨l[p], List.getElem_mem hp, by simp [hx]⟩
   simp only [e3, e4, cond_true, Option.bind_some]
   refine ⟨_, rfl, fun _ => ?_⟩
   have : l.findIdx? (· == x) = some p := by
    rw [List.findIdx?_eq_some_iff_getElem]
    refine ⟨hp, e3, fun m hm => ?_⟩
    have := h3 m _ hm (List.getElem?_eq_getElem (by omega))
    simp; omega
   rw [oA, this]; rfl
  ·have e3 : (l[p] == x) = false := by simpa using hx
   have e4 : l.any (x == ·) = false := by
    rw [List.any_eq_false]
    intro y hy
    obtain ⟨m, hm, rfl⟩ := List.getElem_of_mem hy
    have hgm := List.getElem?_eq_getElem hm
    by_cases h5 : m < p
    ·have := h3 m _ h5 hgm; simp; omega
    ·by_cases h6 : m = p
     ·subst h6; simp; omega
     ·have := ha.lt p m _ _ (by omega) hg hgm
      have := h4 p _ (Nat.le_refl _) hg
      simp; omega
   simp only [e3, e4, cond_false, Option.bind_some]
   exact ⟨_, rfl, fun h => by cases h⟩
 ·have e4 : l.any (x == ·) = false := by
   rw [List.any_eq_false]
   intro y hy
   obtain ⟨m, hm, rfl⟩ := List.getElem_of_mem hy
   have := h3 m _ (by omega) (List.getElem?_eq_getElem hm)
   simp; omega
  have e5 : ¬ ((p : Int) < (l.length : Int)) := by omega
  simp only [e4, e5, decide_false, cond_false, Option.bind_some]
  exact ⟨_, rfl, fun h => by cases h⟩
theorem rX {k : Nat} {l : List Int} (x : Int) (hl : l.length ≤ 1000) (hk : 2000 < k) : scarfjointref07_index k l x = some (oA l x, ()) := by
 have := bP (F := scarfjointref07_index.l0 l x) l () (fun i y => cond (y == x) (some ((i : Int), ())) none) k (fun m => by simp only [scarfjointref07_index.l0, ar, cond_false]) (fun m i y hx _ => by
  simp only [scarfjointref07_index.l0, aL (aM hx), cond_true, idx_some hx, Option.bind_some, cY, wS (show i < 4611686018427387904 by have := aM hx; omega)]) (by omega)
 rw [scarfjointref07_index, this]
 have h2 := iV (l := l) (q := fun z => some (z.1 == x)) (p := (· == x)) (fun _ _ => rfl) (cP hl (by omega))
 rw [jk, oZ (p := (· == x)) (fun _ _ => rfl) (cP hl (by omega))] at h2
 rw [oA, ← h2]
 have e : bO (fun (i : Nat) (y : Int) => cond (y == x) (some ((i : Int), ())) none) l = ce (fun i => l[i]?.bind fun y => cond (y == x) (some ((i : Int), ())) none) 0 l.length := rfl
 rw [e]
theorem sl {k : Nat} {l : List Int} (x : Int) (hl : l.length ≤ 20000) (hk : 20000 < k) : scarfjointref07_has k l x = some (l.any (x == ·), ()) ∧ scarfjointref24_has k l x = some (l.any (x == ·), ()) := by
 have e : l.any (x == ·) = l.any (· == x) := kj fun y _ => by rw [Bool.eq_iff_iff]; simp; exact eq_comm
 rw [e]
 constructor
 ·have := bP (F := scarfjointref07_has.l0 l x) l () (fun i y => cond (y == x) (some (true, ())) none) k (fun m => by simp only [scarfjointref07_has.l0, ar, cond_false]) (fun m i y hx _ => by
   simp only [scarfjointref07_has.l0, aL (aM hx), cond_true, idx_some hx, Option.bind_some, cY, wS (show i < 4611686018427387904 by have := aM hx; omega)]) (by omega)
  rw [scarfjointref07_has, this, bS (· == x)]
  cases l.any (· == x) <;> rfl
 ·have := bP (F := scarfjointref24_has.l0 l x) l () (fun i y => cond (y == x) (some (true, ())) none) k (fun m => by simp only [scarfjointref24_has.l0, ar, cond_false]) (fun m i y hx _ => by
   simp only [scarfjointref24_has.l0, aL (aM hx), cond_true, idx_some hx, Option.bind_some, cY, wS (show i < 4611686018427387904 by have := aM hx; omega)]) (by omega)
  rw [scarfjointref24_has, this, bS (· == x)]
  cases l.any (· == x) <;> rfl
end Go.Ev.Pl
end
section
set_option linter.unusedVariables false
namespace Go.Ev.Pl
theorem gz {α β : Type} (f : α → β) (l : List α) : (List.range l.length).flatMap (fun i => (l[i]?).elim [] fun x => [f x]) = l.map f := by
 have h := congrArg (List.map f) (m5 l)
 rw [List.map_flatMap] at h
 rw [← h]
 congr 1
 funext i
 cases l[i]? <;> rfl
def qI (g : ag) (p : dT) (x : Int) : Bool := match aB g.edges x with | some e => !(p.nodes.any (e.frm == ·)) || !(p.nodes.any (e.to == ·)) | none => false
def rQ (g : ag) (p : dT) : Int :=
 cond (lP p.nodes g.nodes.length != 0) (lP p.nodes g.nodes.length) (cond (lP p.edges g.edges.length != 0) (lP p.edges g.edges.length) (cond (p.edges.any (qI g p)) 14 0))
def ks (g : ag) (p : dT) : Int := cond (l7 g != 0) (l7 g) (rQ g p)
structure mh (p : dT) : Prop where
 n : p.nodes.length ≤ 140
 e : p.edges.length ≤ 140
theorem qK {k : Nat} {g : ag} {p : dT} (hp : mh p) (hk : 20000 < k) : subgraph_part k g p = some (rQ g p, ()) ∧ scarfjointref07_Right k g p = some (rQ g p, ()) := by
 have h1 := hp.n
 have h2 := hp.e
 simp only [subgraph_part, scarfjointref07_Right, rQ, (pB (k := k) (l := p.nodes) g.nodes.length (by omega) (by omega)).1, (pB (k := k) (l := p.nodes) g.nodes.length (by omega) (by omega)).2, (pB (k := k) (l := p.edges) g.edges.length (by omega) (by omega)).1, (pB (k := k) (l := p.edges) g.edges.length (by omega) (by omega)).2, Option.bind_some]
 cases h3 : (lP p.nodes g.nodes.length != 0) with
 | true => (refine ⟨?_, ?_⟩ <;> first | rfl | trivial)
 | false =>
  cases h4 : (lP p.edges g.edges.length != 0) with
  | true => (refine ⟨?_, ?_⟩ <;> first | rfl | trivial)
  | false =>
   have a1 := pj (show lP p.nodes g.nodes.length = 0 by simpa using h3)
   have a2 := pj (show lP p.edges g.edges.length = 0 by simpa using h4)
   have l1 := bP (F := subgraph_part.l0 k g p p.edges p.edges.length) p.edges () (fun _ x => cond (qI g p x) (some (14, ())) none) (Int.toNat (p.edges.length : Int) + 1) (fun n => by simp only [subgraph_part.l0, ar, cond_false]) (fun n i x hx _ => by
    have hr := a2.ran x (cm hx)
    obtain ⟨e, e1, _, _⟩ := bl hr.1 hr.2
    obtain ⟨q1, q2, _⟩ := qt (k := k) e.frm a1 (by omega) (by omega)
    obtain ⟨r1, r2, _⟩ := qt (k := k) e.to a1 (by omega) (by omega)
    simp only [subgraph_part.l0, fh, aL (aM hx), cond_true, idx_some hx, e1, q2, r2, Option.bind_some, eY, iM, qI, cY, wS (show i < 4611686018427387904 by have := aM hx; omega)]) (by omega)
   have l2 := bP (F := scarfjointref07_Right.l0 k g p) p.edges () (fun _ x => cond (qI g p x) (some (14, ())) none) k (fun n => by simp only [scarfjointref07_Right.l0, ar, cond_false]) (fun n i x hx _ => by
    have hr := a2.ran x (cm hx)
    obtain ⟨e, e1, _, _⟩ := bl hr.1 hr.2
    simp only [scarfjointref07_Right.l0, aL (aM hx), cond_true, idx_some hx, e1, (sl (k := k) (l := p.nodes) e.frm (by omega) (by omega)).1, (sl (k := k) (l := p.nodes) e.to (by omega) (by omega)).1, Option.bind_some, eY, iM, qI, cY, wS (show i < 4611686018427387904 by have := aM hx; omega)]) (by omega)
   rw [bS (qI g p)] at l1 l2
   simp only [cond_false, l1, l2, Option.bind_some, fD]
   cases p.edges.any (qI g p) <;> (refine ⟨?_, ?_⟩ <;> first | rfl | trivial)
theorem sS {k : Nat} {g : ag} {p : dT} (hg : BG g) (hp : mh p) (hk : 20000 < k) : eI k g p = some (ks g p, ()) ∧ bo k g p = some (ks g p, ()) := by
 simp only [eI, bo, ks, (kA hg (show 200 < k by omega)).1, (kA hg (show 200 < k by omega)).2, (qK (g := g) hp hk).1, (qK (g := g) hp hk).2, Option.bind_some, eY, and_self]
structure zH (g : ag) (p : dT) : Prop where
 gr : AO g
 n : Ax p.nodes g.nodes.length
 e : Ax p.edges g.edges.length
 d : ∀ x ∈ p.edges, ∀ e, aB g.edges x = some e → p.nodes.any (e.frm == ·) = true ∧ p.nodes.any (e.to == ·) = true
theorem vS {c y : Int} (h : cond (c != 0) c y = 0) : c = 0 ∧ y = 0 := by
 cases hc : (c != 0) with
 | true => rw [hc, cond_true] at h; rw [h] at hc; cases hc
 | false => rw [hc] at h; exact ⟨by simpa using hc, h⟩
theorem Aj {b : Bool} {c y : Int} (h : cond b c y = 0) (hc : c ≠ 0) : b = false ∧ y = 0 := by
 cases b with
 | true => exact absurd h hc
 | false => exact ⟨rfl, h⟩
theorem yH {g : ag} {p : dT} (h : ks g p = 0) : zH g p := by
 obtain ⟨h1, h⟩ := vS h
 obtain ⟨h2, h⟩ := vS h
 obtain ⟨h3, h⟩ := vS h
 obtain ⟨h4, h⟩ := Aj h (by decide)
 refine ⟨k7 h1, pj h2, pj h3, fun x hx e he => ?_⟩
 have := List.any_eq_false.1 h4 x hx
 simp only [qI, he] at this
 cases h6 : p.nodes.any (e.frm == ·) <;> cases h7 : p.nodes.any (e.to == ·) <;> simp only [h6, h7] at this <;> simp at this ⊢
def A7 (g : ag) (p : dT) (x : Int) : Edge := match aB g.edges x with | some e => ⟨e.typ, oA p.nodes e.frm, oA p.nodes e.to⟩ | none => ⟨0, 0, 0⟩
def vp (g : ag) (p : dT) : ag := ⟨p.nodes.map fun i => (aB g.nodes i).getD 0, p.edges.map (A7 g p)⟩
abbrev Bg := ((List Int) × ((List Edge) × Unit)) × (((List Int) × ((List Int) × Unit)) × (Int × Unit))
def Ab (g : ag) (p : dT) : Bg := cond (ks g p != 0) (([], [], ()), ([], [], ()), ks g p, ()) (((vp g p).nodes, (vp g p).edges, ()), (p.nodes, p.edges, ()), 0, ())
theorem zg {k : Nat} {g : ag} {p : dT} (hg : BG g) (hp : mh p) (hk : 20000 < k) : subgraph_Extract k g p = some (Ab g p) ∧ scarfjointref07_Extract k g p = some (Ab g p) := by
 have h1 := hp.n
 have h2 := hp.e
 simp only [subgraph_Extract, scarfjointref07_Extract, (sS hg hp hk).1, (sS hg hp hk).2, Option.bind_some, Ab]
 cases h3 : (ks g p != 0) with
 | true => (refine ⟨?_, ?_⟩ <;> first | rfl | trivial)
 | false =>
  have ok := yH (show ks g p = 0 by simpa using h3)
  have bn : ∀ {β : Type} (f : Nat → List β) (acc : List β) (i : Nat), (∀ j, (f j).length ≤ 1) → acc = [] ++ (List.range i).flatMap f → i ≤ 140 → acc.length + 1 ≤ 1000000 := fun f acc i hf hacc hi => by
   have := cy hf i; rw [List.nil_append] at hacc; subst hacc; omega
  have l1 := gY (F := subgraph_Extract.l0 g p [] [] [] [] [] p.nodes p.nodes.length) p.nodes.length (fun i => (p.nodes[i]?).elim [] fun x => [(aB g.nodes x).getD 0]) (fun acc => some (g, p, ([], [], ()), ([], [], ()), (acc, [], ()), ())) [] (Int.toNat (p.nodes.length : Int) + 1) (fun n acc => by simp only [subgraph_Extract.l0, ar, cond_false]) (fun n acc i hi hacc => by
   have hx : p.nodes[i]? = some p.nodes[i] := List.getElem?_eq_getElem hi
   have hr := ok.n.ran _ (List.getElem_mem hi)
   obtain ⟨e, e1, _, _⟩ := bl hr.1 hr.2
   have hb := bn _ acc i (fun j => by cases p.nodes[j]? <;> simp) hacc (by omega)
   simp only [subgraph_Extract.l0, aL hi, cond_true, idx_some hx, e1, hx, Option.bind_some, Option.elim, Option.getD_some, List.length_cons, List.length_nil, Nat.zero_add, aR hb, wS (show i < 4611686018427387904 by omega)]) (by omega)
  have l2 := gY (F := scarfjointref07_Extract.l0 g p [] [] [] [] []) p.nodes.length (fun i => (p.nodes[i]?).elim [] fun x => [(aB g.nodes x).getD 0]) (fun acc => some (g, p, ([], [], ()), ([], [], ()), (acc, [], ()), ())) [] k (fun n acc => by simp only [scarfjointref07_Extract.l0, ar, cond_false]) (fun n acc i hi hacc => by
   have hx : p.nodes[i]? = some p.nodes[i] := List.getElem?_eq_getElem hi
   have hr := ok.n.ran _ (List.getElem_mem hi)
   obtain ⟨e, e1, _, _⟩ := bl hr.1 hr.2
   have hb := bn _ acc i (fun j => by cases p.nodes[j]? <;> simp) hacc (by omega)
   simp only [scarfjointref07_Extract.l0, aL hi, cond_true, idx_some hx, e1, hx, Option.bind_some, Option.elim, Option.getD_some, List.length_cons, List.length_nil, Nat.zero_add, aR hb, wS (show i < 4611686018427387904 by omega)]) (by omega)
  rw [gz (fun x => (aB g.nodes x).getD 0), List.nil_append] at l1 l2
  have hN : (vp g p).nodes = p.nodes.map (fun x => (aB g.nodes x).getD 0) := rfl
  rw [hN]
  generalize p.nodes.map (fun x => (aB g.nodes x).getD 0) = N at *
  have l3 := gY (F := subgraph_Extract.l2 k g p [] [] [] [] N p.edges p.edges.length) p.edges.length (fun i => (p.edges[i]?).elim [] fun x => [A7 g p x]) (fun acc => some (p, ([], [], ()), ([], [], ()), (N, acc, ()), ())) [] (Int.toNat (p.edges.length : Int) + 1) (fun n acc => by simp only [subgraph_Extract.l2, ar, cond_false]) (fun n acc i hi hacc => by
   have hx : p.edges[i]? = some p.edges[i] := List.getElem?_eq_getElem hi
   have hr := ok.e.ran _ (List.getElem_mem hi)
   obtain ⟨e, e1, _, _⟩ := bl hr.1 hr.2
   obtain ⟨d1, d2⟩ := ok.d _ (List.getElem_mem hi) e e1
   obtain ⟨q1, q2, q3⟩ := qt (k := k) e.frm ok.n (by omega) (by omega)
   obtain ⟨r1, r2, r3⟩ := qt (k := k) e.to ok.n (by omega) (by omega)
   have hb := bn _ acc i (fun j => by cases p.edges[j]? <;> simp) hacc (by omega)
   simp only [subgraph_Extract.l2, aL hi, cond_true, idx_some hx, e1, hx, q2, r2, q3 d1, r3 d2, A7, Option.bind_some, Option.elim, List.length_cons, List.length_nil, Nat.zero_add, aR hb, wS (show i < 4611686018427387904 by omega)]) (by omega)
  have l4 := gY (F := scarfjointref07_Extract.l2 k g p [] [] [] [] N) p.edges.length (fun i => (p.edges[i]?).elim [] fun x => [A7 g p x]) (fun acc => some (p, ([], [], ()), ([], [], ()), (N, acc, ()), ())) [] k (fun n acc => by simp only [scarfjointref07_Extract.l2, ar, cond_false]) (fun n acc i hi hacc => by
   have hx : p.edges[i]? = some p.edges[i] := List.getElem?_eq_getElem hi
   have hr := ok.e.ran _ (List.getElem_mem hi)
   obtain ⟨e, e1, _, _⟩ := bl hr.1 hr.2
   have hb := bn _ acc i (fun j => by cases p.edges[j]? <;> simp) hacc (by omega)
   simp only [scarfjointref07_Extract.l2, aL hi, cond_true, idx_some hx, e1, hx, rX (k := k) (l := p.nodes) e.frm (by omega) (by omega), rX (k := k) (l := p.nodes) e.to (by omega) (by omega), A7, Option.bind_some, Option.elim, List.length_cons, List.length_nil, Nat.zero_add, aR hb, wS (show i < 4611686018427387904 by omega)]) (by omega)
  rw [gz (A7 g p), List.nil_append] at l3 l4
  simp only [cond_false, l1, l2, l3, l4, Option.bind_some, k8 (show p.nodes.length ≤ 1000000 by omega), k8 (show p.edges.length ≤ 1000000 by omega), List.length_nil, Nat.zero_add, List.nil_append, aR (show p.nodes.length ≤ 1000000 by omega), aR (show p.edges.length ≤ 1000000 by omega), cond_true, vp, and_self]
theorem wg {g : ag} {p : dT} (hp : mh p) : BG (vp g p) := ⟨by have := hp.n; simp [vp]; omega, by have := hp.e; simp [vp]; omega⟩
def rE (a b : ag) (i : Nat) (x : Int) : Option (Int × Unit) :=
 cond (decide (x < 0) || decide (x ≥ (b.nodes.length : Int))) (some (6, ())) (cond ((aB b.nodes x).getD 0 != (a.nodes[i]?).getD 0) (some (13, ())) none)
def sr (a b : ag) (m : aO) (i : Nat) (x : Int) : Option (Int × Unit) :=
 cond (decide (x < 0) || decide (x ≥ (b.edges.length : Int))) (some (6, ())) (match a.edges[i]?, aB b.edges x with
  | some e, some f => cond (e.typ != f.typ) (some (13, ())) (cond ((aB m.nodes e.frm).getD 0 != f.frm || (aB m.nodes e.to).getD 0 != f.to) (some (11, ())) none)
  | _, _ => none)
def kD (a b : ag) (m : aO) : Int :=
 cond (l7 a != 0) (l7 a) (cond (l7 b != 0) (l7 b) (cond (((m.nodes.length : Int) != (a.nodes.length : Int)) || ((m.edges.length : Int) != (a.edges.length : Int))) 20
  (match bO (rE a b) m.nodes with | some z => z.1 | none => jv (bO (sr a b m) m.edges))))
theorem pJ {k : Nat} {a b : ag} {m : aO} (ha : BG a) (hb : BG b) (hk : 20000 < k) : morphism_Valid a b m = some (kD a b m, ()) ∧ scarfjointref06_Valid k a b m = some (kD a b m, ()) := by
 have h1 := ha.n
 have h2 := ha.e
 simp only [morphism_Valid, scarfjointref06_Valid, kD, (kA ha (show 200 < k by omega)).1, (kA ha (show 200 < k by omega)).2, (kA hb (show 200 < k by omega)).1, (kA hb (show 200 < k by omega)).2, Option.bind_some, eY, iM]
 cases h3 : (l7 a != 0) with
 | true => (refine ⟨?_, ?_⟩ <;> first | rfl | trivial)
 | false =>
  cases h4 : (l7 b != 0) with
  | true => (refine ⟨?_, ?_⟩ <;> first | rfl | trivial)
  | false =>
   cases h5 : (((m.nodes.length : Int) != (a.nodes.length : Int)) || ((m.edges.length : Int) != (a.edges.length : Int))) with
   | true => (refine ⟨?_, ?_⟩ <;> first | rfl | trivial)
   | false =>
    have oa := k7 (show l7 a = 0 by simpa using h3)
    have ob := k7 (show l7 b = 0 by simpa using h4)
    have hn : m.nodes.length = a.nodes.length := by simp at h5; omega
    have he : m.edges.length = a.edges.length := by simp at h5; omega
    have l1 := bP (F := morphism_Valid.l0 a b m m.nodes m.nodes.length) m.nodes (a, b, m, ()) (rE a b) (Int.toNat (m.nodes.length : Int) + 1) (fun n => by simp only [morphism_Valid.l0, ar, cond_false]) (fun n i x hx _ => by
     have hi := aM hx
     have hy : a.nodes[i]? = some a.nodes[i] := List.getElem?_eq_getElem (by omega)
     simp only [morphism_Valid.l0, rE, aL hi, cond_true, idx_some hx, idx_some hy, hy, Option.bind_some, Option.getD_some, eY, iM, ib, jG, wS (show i < 4611686018427387904 by omega)]
     cases h6 : (decide (x < 0) || decide (x ≥ (b.nodes.length : Int))) with
     | true => rfl
     | false =>
      have : 0 ≤ x ∧ x < b.nodes.length := by simp at h6; omega
      obtain ⟨z, z1, _, _⟩ := bl this.1 this.2
      simp only [cond_false, z1, Option.bind_some, Option.getD_some]) (by omega)
    have l2 := bP (F := scarfjointref06_Valid.l0 a b m) m.nodes (a, b, m, ()) (rE a b) k (fun n => by rw [hn]; simp only [scarfjointref06_Valid.l0, ar, cond_false]) (fun n i x hx _ => by
     have hi := aM hx
     have hy : a.nodes[i]? = some a.nodes[i] := List.getElem?_eq_getElem (by omega)
     simp only [scarfjointref06_Valid.l0, rE, aL (show i < a.nodes.length by omega), cond_true, idx_some hx, idx_some hy, hy, Option.bind_some, Option.getD_some, eY, iM, ib, jG, wS (show i < 4611686018427387904 by omega)]
     cases h6 : (decide (x < 0) || decide (x ≥ (b.nodes.length : Int))) with
     | true => rfl
     | false =>
      have : 0 ≤ x ∧ x < b.nodes.length := by simp at h6; omega
      obtain ⟨z, z1, _, _⟩ := bl this.1 this.2
      simp only [cond_false, z1, Option.bind_some, Option.getD_some]) (by omega)
    have l3 := bP (F := morphism_Valid.l2 a b m m.edges m.edges.length) m.edges () (sr a b m) (Int.toNat (m.edges.length : Int) + 1) (fun n => by simp only [morphism_Valid.l2, ar, cond_false]) (fun n i x hx _ => by
     have hi := aM hx
     have hy : a.edges[i]? = some a.edges[i] := List.getElem?_eq_getElem (by omega)
     have hr := oa.edge _ (cm hy)
     obtain ⟨u, u1, _, _⟩ := bl (l := m.nodes) (i := a.edges[i].frm) (by omega) (by omega)
     obtain ⟨v, v1, _, _⟩ := bl (l := m.nodes) (i := a.edges[i].to) (by omega) (by omega)
     simp only [morphism_Valid.l2, sr, aL hi, cond_true, idx_some hx, idx_some hy, hy, Option.bind_some, Option.getD_some, eY, iM, ib, wS (show i < 4611686018427387904 by omega)]
     cases h6 : (decide (x < 0) || decide (x ≥ (b.edges.length : Int))) with
     | true => rfl
     | false =>
      have : 0 ≤ x ∧ x < b.edges.length := by simp at h6; omega
      obtain ⟨z, z1, _, _⟩ := bl this.1 this.2
      simp only [cond_false, z1, u1, v1, Option.bind_some, Option.getD_some, eY, iM, ib, jG]) (by omega)
    have l4 := bP (F := scarfjointref06_Valid.l2 a b m) m.edges () (sr a b m) k (fun n => by rw [he]; simp only [scarfjointref06_Valid.l2, ar, cond_false]) (fun n i x hx _ => by
     have hi := aM hx
     have hy : a.edges[i]? = some a.edges[i] := List.getElem?_eq_getElem (by omega)
     have hr := oa.edge _ (cm hy)
     obtain ⟨u, u1, _, _⟩ := bl (l := m.nodes) (i := a.edges[i].frm) (by omega) (by omega)
     obtain ⟨v, v1, _, _⟩ := bl (l := m.nodes) (i := a.edges[i].to) (by omega) (by omega)
     simp only [scarfjointref06_Valid.l2, sr, aL (show i < a.edges.length by omega), cond_true, idx_some hx, idx_some hy, hy, Option.bind_some, Option.getD_some, eY, iM, ib, wS (show i < 4611686018427387904 by omega)]
     cases h6 : (decide (x < 0) || decide (x ≥ (b.edges.length : Int))) with
     | true => rfl
     | false =>
      have : 0 ≤ x ∧ x < b.edges.length := by simp at h6; omega
      obtain ⟨z, z1, _, _⟩ := bl this.1 this.2
      simp only [cond_false, z1, u1, v1, Option.bind_some, Option.getD_some, eY, iM, ib, jG]) (by omega)
    simp only [cond_false, l1, l2, Option.bind_some]
    cases bO (rE a b) m.nodes with
    | some z => (refine ⟨?_, ?_⟩ <;> first | rfl | trivial)
    | none =>
     simp only [Option.elim, aJ, l3, l4, Option.bind_some]
     cases bO (sr a b m) m.edges <;> (refine ⟨?_, ?_⟩ <;> first | rfl | trivial)
end Go.Ev.Pl
end
section
set_option linter.unusedVariables false
namespace Go.Ev.Pl
def kp (s : List Int) (i : Nat) : List Int := match s[i]? with | none => [] | some x => if 0 < i ∧ s[i - 1]? = some x then [] else [x]
def fE (s : List Int) (m : Nat) : List Int := (List.range m).flatMap (kp s)
theorem jl (s : List Int) (m : Nat) : fE s (m + 1) = fE s m ++ kp s m := by simp [fE, List.range_succ, List.flatMap_append]
theorem wq (s : List Int) (i : Nat) : (kp s i).length ≤ 1 := by
 unfold kp; cases s[i]? with
 | none => simp
 | some x => dsimp only; split <;> simp
theorem xt (s : List Int) (m : Nat) : (fE s m).length ≤ m := by
 have := cy (wq s) m; simpa [fE] using this
theorem kO {s : List Int} {i0 : Nat} (hN : s.length ≤ 1000000) (hi0 : i0 < s.length) : ∀ (c j fuel : Nat) (q0 : List Int) (kk : Nat), s.length - i0 - j = c → 1 ≤ j → j ≤ s.length - i0 → s.length - i0 - j < fuel → q0.length = s.length →
  (∀ p, i0 + j - 1 ≤ p → q0[p]? = s[p]?) → kk ≤ i0 + j - 1 → q0.take kk = fE s (i0 + j) → kk = (fE s (i0 + j)).length →
  ∃ q, slices_Compact_lint.l2 fuel q0 kk i0 s.length j = some (q, ((fE s s.length).length : Int), ()) ∧ q.length = s.length ∧ q.take (fE s s.length).length = fE s s.length
 | c, j, 0, q0, kk, _, _, _, h, _, _, _, _, _ => by omega
 | c, j, fuel + 1, q0, kk, hc, hj1, hj, hf, hl, hp, hk, ht, hkl => by
  by_cases e : j = s.length - i0
  ·subst e
   have e1 : i0 + (s.length - i0) = s.length := by omega
   rw [e1] at ht hkl
   refine ⟨q0, ?_, hl, by rw [← hkl]; exact ht⟩
   simp only [slices_Compact_lint.l2, Int.toNat_natCast, ar, cond_false, ← hkl]
  ·have hlt : j < s.length - i0 := by omega
   have hx : q0[i0 + j]? = some s[i0 + j] := by rw [hp _ (by omega)]; exact List.getElem?_eq_getElem (by omega)
   have hs1 : s[i0 + j]? = some s[i0 + j] := List.getElem?_eq_getElem (by omega)
   have hy : q0[i0 + (j - 1)]? = some s[i0 + (j - 1)] := by rw [hp _ (by omega)]; exact List.getElem?_eq_getElem (by omega)
   have hs2 : s[i0 + j - 1]? = some s[i0 + (j - 1)] := by rw [show i0 + j - 1 = i0 + (j - 1) by omega]; exact List.getElem?_eq_getElem (by omega)
   have ew : IntKind.i64.wrap ((j : Int) - 1) = ((j - 1 : Nat) : Int) := by rw [jE (by omega) (by omega)]; omega
   have hsu := jl s (i0 + j)
   simp only [slices_Compact_lint.l2, Int.toNat_natCast, aL hlt, aL (show j - 1 < s.length - i0 by omega), ig, ew, sN (show s.length ≤ q0.length by omega), Bool.and_true, cond_true, fg hx, fg hy, Option.bind_some, wS (show j < 4611686018427387904 by omega), wS (show kk < 4611686018427387904 by omega)]
   by_cases hne : s[i0 + j] = s[i0 + (j - 1)]
   ·have e2 : (s[i0 + j] != s[i0 + (j - 1)]) = false := by simp [hne]
    have e3 : kp s (i0 + j) = [] := by simp only [kp, hs1, hs2]; rw [if_pos ⟨by omega, by rw [hne]⟩]
    rw [e3, List.append_nil] at hsu
    rw [e2, cond_false]
    exact kO hN hi0 (c - 1) (j + 1) fuel q0 kk (by omega) (by omega) (by omega) (by omega) hl (fun p h => hp p (by omega)) (by omega) (by rw [show i0 + (j + 1) = i0 + j + 1 by omega, hsu]; exact ht) (by rw [show i0 + (j + 1) = i0 + j + 1 by omega, hsu]; exact hkl)
   ·have e2 : (s[i0 + j] != s[i0 + (j - 1)]) = true := by simp [hne]
    have e3 : kp s (i0 + j) = [s[i0 + j]] := by
     simp only [kp, hs1, hs2]
     rw [if_neg]; rintro ⟨_, h⟩; exact hne (Option.some.inj h).symm
    rw [e3] at hsu
    have hkl' : kk < q0.length := by omega
    have hz : q0[kk]? = some q0[kk] := List.getElem?_eq_getElem hkl'
    rw [e2, cond_true]
    simp only [aL hkl', ig, Bool.and_true, cond_true, fg hz, Option.bind_some]
    refine kO hN hi0 (c - 1) (j + 1) fuel (q0.set kk s[i0 + j]) (kk + 1) (by omega) (by omega) (by omega) (by omega) (by simpa using hl) (fun p h => ?_) (by omega) ?_ (by rw [show i0 + (j + 1) = i0 + j + 1 by omega, hsu]; simp [← hkl])
    ·rw [List.getElem?_set_ne (by omega)]; exact hp p (by omega)
    ·rw [show i0 + (j + 1) = i0 + j + 1 by omega, hsu, ← ht, List.take_add_one]
     rw [List.take_set, List.set_eq_of_length_le (by simp; omega)]
     simp [hkl']
theorem nI {k : Nat} {s : List Int} (hN : s.length ≤ 1000000) (hk : s.length < k) : ∀ (c i fuel : Nat), s.length - i = c → 1 ≤ i → i ≤ s.length → s.length - i < fuel → fE s i = s.take i →
  ∃ o, slices_Compact_lint.l0 k s fuel i = some o ∧ ((o = .inl (s, ()) ∧ fE s s.length = s) ∨ ∃ r, o = .inr (r, (((0 : Nat) : Int), (((fE s s.length).length : Nat) : Int)), ()) ∧ r.take (fE s s.length).length = fE s s.length)
 | c, i, 0, _, _, _, h, _ => by omega
 | c, i, fuel + 1, hc, h1, hi, hf, ht => by
  by_cases e : i = s.length
  ·subst e
   refine ⟨.inl (s, ()), by simp only [slices_Compact_lint.l0, ar, cond_false], .inl ⟨rfl, ?_⟩⟩
   rw [ht]; simp
  ·have hlt : i < s.length := by omega
   have hx : s[i]? = some s[i] := List.getElem?_eq_getElem hlt
   have hy : s[i - 1]? = some s[i - 1] := List.getElem?_eq_getElem (by omega)
   have ew : IntKind.i64.wrap ((i : Int) - 1) = ((i - 1 : Nat) : Int) := by rw [jE (by omega) (by omega)]; omega
   have hsu := jl s i
   simp only [slices_Compact_lint.l0, Int.toNat_natCast, aL hlt, aL (show i - 1 < s.length by omega), ig, ew, lI hi, lI (Nat.le_refl s.length), Bool.and_true, cond_true, fg hx, fg hy, Option.bind_some, wS (show i < 4611686018427387904 by omega)]
   by_cases he : s[i] = s[i - 1]
   ·have e2 : (s[i] == s[i - 1]) = true := by simp [he]
    have e3 : kp s i = [] := by simp only [kp, hx, hy]; rw [if_pos ⟨by omega, by rw [he]⟩]
    rw [e3, List.append_nil] at hsu
    obtain ⟨q, q1, q2, q3⟩ := kO hN hlt (s.length - i - 1) 1 k s i (by omega) (by omega) (by omega) (by omega) rfl (fun p _ => rfl) (by omega) (by rw [hsu, ht]) (by rw [hsu, ht]; simp; omega)
    have hm := xt s s.length
    rw [show ((1 : Nat) : Int) = 1 from rfl] at q1
    rw [e2, cond_true, q1]
    generalize (fE s s.length).length = m at *
    have e5 : (nu q m (List.replicate (s.length - m) (0 : Int))).length = s.length := by simp [nu]; omega
    simp only [Option.bind_some, q2, ig, lI hm, lI (Nat.le_refl s.length), sN hm, sN (Nat.le_refl s.length), zZ, Bool.and_true, cond_true, Int.toNat_natCast, e5]
    refine ⟨_, rfl, .inr ⟨_, rfl, ?_⟩⟩
    rw [nu, List.append_assoc, List.take_append_of_le_length (by simp; omega), List.take_take, Nat.min_self, q3]
   ·have e2 : (s[i] == s[i - 1]) = false := by simp [he]
    have e3 : kp s i = [s[i]] := by
     simp only [kp, hx, hy]
     rw [if_neg]; rintro ⟨_, h⟩; exact he (Option.some.inj h).symm
    rw [e3] at hsu
    rw [e2, cond_false]
    exact nI hN hk (c - 1) (i + 1) fuel (by omega) (by omega) (by omega) (by omega) (by rw [hsu, ht, List.take_add_one, hx]; rfl)
theorem n5 {k : Nat} {s : List Int} (hN : s.length ≤ 1000000) (hk : s.length < k) :
  ∃ r, slices_Compact_lint k s = some (r, (0, ((fE s s.length).length : Int)), ()) ∧ r.take (fE s s.length).length = fE s s.length := by
 rw [slices_Compact_lint]
 by_cases h : s.length < 2
 ·have h' : (s.length : Int) < 2 := by omega
  have : fE s s.length = s := by
   match s, h with
   | [], _ => rfl
   | [x], _ => rfl
  simp only [h', decide_true, cond_true, this]
  exact ⟨_, rfl, by simp⟩
 ·have h' : ¬ ((s.length : Int) < 2) := by omega
  have h1 : fE s 1 = s.take 1 := by
   match s, h with
   | x :: _, _ => rfl
   | [], h => exact absurd (by simp) h
  obtain ⟨o, o1, o2⟩ := nI hN hk (s.length - 1) 1 k rfl (by omega) (by omega) (by omega) h1
  rw [show ((1 : Nat) : Int) = 1 from rfl] at o1
  simp only [h', decide_false, cond_false, o1, Option.bind_some]
  rcases o2 with ⟨rfl, o3⟩ | ⟨r, rfl, o3⟩
  ·simp only [aJ, o3]; exact ⟨_, rfl, by simp⟩
  ·exact ⟨r, by simp only [aJ, Int.toNat_natCast]; rfl, o3⟩
theorem lu (s : List Int) : ∀ m, m ≤ s.length → (fE s m).Sublist (s.take m)
 | 0, _ => by simp [fE]
 | m + 1, h => by
  have hx : s[m]? = some s[m] := List.getElem?_eq_getElem (by omega)
  rw [jl, List.take_add_one, hx]
  refine (lu s m (by omega)).append ?_
  simp only [kp, hx]
  split <;> simp
theorem wC {s : List Int} {x : Int} (h : x ∈ s) : x ∈ fE s s.length := by
 obtain ⟨i, hi, rfl⟩ := List.getElem_of_mem h
 suffices H : ∀ n, n ≤ i → s[n]? = some s[i] → s[i] ∈ fE s s.length from H i (Nat.le_refl _) (List.getElem?_eq_getElem hi)
 intro n
 induction n with
 | zero =>
  intro _ hx
  refine List.mem_flatMap.2 ⟨0, by simp; omega, ?_⟩
  simp [kp, hx]
 | succ n ih =>
  intro hn hx
  by_cases e : s[n]? = some s[i]
  ·exact ih (by omega) e
  ·refine List.mem_flatMap.2 ⟨n + 1, by simp; omega, ?_⟩
   simp [kp, hx, e]
theorem nG {s : List Int} (hs : s.Pairwise (· ≤ ·)) : ∀ m, m ≤ s.length → (fE s m).Pairwise (· < ·)
 | 0, _ => by simp [fE]
 | m + 1, h => by
  have hx : s[m]? = some s[m] := List.getElem?_eq_getElem (by omega)
  rw [jl, List.pairwise_append]
  refine ⟨nG hs m (by omega), ?_, fun a ha b hb => ?_⟩
  ·have := wq s m
   match hk : kp s m, this with
   | [], _ => simp
   | [y], _ => simp
  ·simp only [kp, hx] at hb
   split at hb
   ·simp at hb
   ·rename_i hn
    simp at hb
    subst hb
    have ha' := (lu s m (by omega)).subset ha
    obtain ⟨j, hj, rfl⟩ := List.getElem_of_mem ha'
    have hjm : j < m := by have := hj; simp at this; omega
    simp only [List.getElem_take]
    have hp := List.pairwise_iff_getElem.1 hs
    have h1 := hp (m - 1) m (by omega) (by omega) (by omega)
    have h2 : s[m - 1] ≠ s[m] := fun e => hn ⟨by omega, by rw [List.getElem?_eq_getElem (by omega), e]⟩
    by_cases e : j = m - 1
    ·subst e; omega
    ·have := hp j (m - 1) (by omega) (by omega) (by omega); omega
theorem sO {s : List Int} (hs : s.Pairwise (· ≤ ·)) : (fE s s.length).length = s.length ↔ s.Nodup := by
 have hsub := lu s s.length (Nat.le_refl _)
 rw [List.take_length] at hsub
 constructor
 ·intro h
  have := hsub.eq_of_length h
  have hp := nG hs s.length (Nat.le_refl _)
  rw [this] at hp
  exact hp.imp fun h => Int.ne_of_lt h
 ·intro h
  have : ∀ m, m ≤ s.length → fE s m = s.take m := by
   intro m
   induction m with
   | zero => intro _; simp [fE]
   | succ m ih =>
    intro hm
    have hx : s[m]? = some s[m] := List.getElem?_eq_getElem (by omega)
    rw [jl, List.take_add_one, hx, ih (by omega)]
    congr 1
    simp only [kp, hx]
    rw [if_neg]
    ·rfl
    ·rintro ⟨h1, h2⟩
     have hy : s[m - 1]? = some s[m - 1] := List.getElem?_eq_getElem (by omega)
     rw [hy] at h2
     have := List.pairwise_iff_getElem.1 h (m - 1) m (by omega) (by omega) (by omega)
     exact this (Option.some.inj h2)
  rw [this _ (Nat.le_refl _)]; simp
def dst (l : List Int) : Bool := decide l.Nodup
theorem oE {k : Nat} {l : List Int} (hl : l.length ≤ 1000) (hk : 20000 < k) : ∃ m : Nat, d9 k l = some ((m : Int), ()) ∧ ((m : Int) == (l.length : Int)) = dst l := by
 have hp := gJ l
 have hlen := hp.length_eq
 obtain ⟨r, r1, r2⟩ := n5 (k := k) (s := cG l) (by omega) (by omega)
 refine ⟨(fE (cG l) (cG l).length).length, ?_, ?_⟩
 ·simp only [d9, k8 (show l.length ≤ 1000000 by omega), slices_Sort_int, aR (show l.length ≤ 1000000 by omega), cond_true, Option.bind_some, r1, Int.toNat_natCast, show Int.toNat 0 = 0 from rfl, Nat.sub_zero]
 ·have h := sO (lp l)
  rw [hp.nodup_iff] at h
  rw [dst, Bool.eq_iff_iff, decide_eq_true_iff, ← h]
  simp; omega
theorem iS {k : Nat} {l : List Int} (hl : l.length ≤ 1000) (hk : 20000 < k) : scarfjointref06_Distinct k l = some (dst l, ()) := by
 have l1 := bP (F := fun n i => scarfjointref06_Distinct.l0 k n l i) l () (fun i x => cond ((l.take i).any (x == ·)) (some (false, ())) none) k (fun n => by simp only [scarfjointref06_Distinct.l0, ar, cond_false]) (fun n i x hx _ => by
  have hi := aM hx
  have l2 := oy (F := scarfjointref06_Distinct.l2 l i) l i (l, (i : Int), ()) (false, ()) (x == ·) k (by omega) (fun n => by simp only [scarfjointref06_Distinct.l2, ar, cond_false]) (fun n j y hj hy => by
   simp only [scarfjointref06_Distinct.l2, aL hj, cond_true, idx_some hy, idx_some hx, Option.bind_some, wS (show j < 4611686018427387904 by omega)]) (by omega)
  simp only [scarfjointref06_Distinct.l0, aL hi, cond_true, l2, Option.bind_some]
  cases (l.take i).any (x == ·) <;> simp only [cond_true, cond_false, aJ, Option.elim, wS (show i < 4611686018427387904 by omega)]) (by omega)
 have key : bO (fun i x => cond ((l.take i).any (x == ·)) (some ((false, ()) : Bool × Unit)) none) l = cond (dst l) none (some (false, ())) := by
  cases hf : bO (fun i x => cond ((l.take i).any (x == ·)) (some ((false, ()) : Bool × Unit)) none) l with
  | none =>
   rw [dU] at hf
   have : l.Nodup := List.pairwise_iff_getElem.2 fun i j hi hj hij e => by
    have := hf j _ (List.getElem?_eq_getElem hj)
    have h2 : (l.take j).any (l[j] == ·) = true := List.any_eq_true.2 ⟨l[i], by rw [List.mem_take_iff_getElem]; exact ⟨i, by omega, rfl⟩, by simp [e]⟩
    rw [h2] at this; cases this
   simp [dst, this]
  | some z =>
   obtain ⟨j, _, _, j3, _⟩ := cO hf
   obtain ⟨x, hx, j5⟩ := Option.bind_eq_some_iff.1 j3
   dsimp only at j5
   cases h2 : (l.take j).any (x == ·) with
   | false => rw [h2] at j5; cases j5
   | true =>
    rw [h2] at j5; cases j5
    have : ¬ l.Nodup := fun hn => by
     obtain ⟨y, hy, hxy⟩ := List.any_eq_true.1 h2
     obtain ⟨i, hi, rfl⟩ := List.mem_take_iff_getElem.1 hy
     obtain ⟨hj, rfl⟩ := List.getElem?_eq_some_iff.1 hx
     exact List.pairwise_iff_getElem.1 hn i j (by omega) hj (by omega) (by simpa using hxy : l[j] = l[i]).symm
    simp [dst, this]
 rw [scarfjointref06_Distinct, l1, key]
 cases dst l <;> rfl
end Go.Ev.Pl
end
section
set_option linter.unusedVariables false
namespace Go.Ev.Pl
def lm (l : List Int) (i : Nat) : List Int := cond (!(l.any ((i : Int) == ·))) [(i : Int)] []
def lk (l : List Int) (n : Nat) : List Int := (List.range n).flatMap (lm l)
theorem oX (l : List Int) (i : Nat) : (lm l i).length ≤ 1 := by unfold lm; cases l.any ((i : Int) == ·) <;> simp
theorem eD (l : List Int) (n : Nat) : (lk l n).length ≤ n := by have := cy (oX l) n; simpa [lk] using this
theorem bM {l : List Int} {n : Nat} {x : Int} (h : x ∈ lk l n) : 0 ≤ x ∧ x < n := by
 obtain ⟨i, hi, hx⟩ := List.mem_flatMap.1 h
 unfold lm at hx
 cases ha : l.any ((i : Int) == ·) <;> simp [ha] at hx
 subst hx; simp at hi; omega
theorem iW {k : Nat} {l : List Int} {n : Nat} (hl : l.length ≤ 1000) (hn : n ≤ 1000) (hk : 20000 < k) : rule_others l n = some (lk l n, ()) ∧ scarfjointref24_rest k n l = some (lk l n, ()) := by
 have bn : ∀ (acc : List Int) (i : Nat), acc = [] ++ (List.range i).flatMap (lm l) → i ≤ 1000 → acc.length + 1 ≤ 1000000 := fun acc i hacc hi => by
  have := cy (oX l) i; rw [List.nil_append] at hacc; subst hacc; omega
 have l1 := gY (F := rule_others.l0 l n) n (lm l) (fun acc => some (acc, ())) [] (Int.toNat (n : Int) + 1) (fun m acc => by simp only [rule_others.l0, ar, cond_false]) (fun m acc i hi hacc => by
  simp only [rule_others.l0, lm, aL hi, cond_true, tG (l := l) (i : Int) (cP hl (by omega)), Option.bind_some, List.length_cons, List.length_nil, Nat.zero_add, aR (bn acc i hacc (by omega)), wS (show i < 4611686018427387904 by omega)]
  cases l.any ((i : Int) == ·) <;> simp) (by omega)
 have l2 := gY (F := scarfjointref24_rest.l0 k n l) n (lm l) (fun acc => some (acc, ())) [] k (fun m acc => by simp only [scarfjointref24_rest.l0, ar, cond_false]) (fun m acc i hi hacc => by
  simp only [scarfjointref24_rest.l0, lm, aL hi, cond_true, (sl (k := k) (l := l) (i : Int) (by omega) (by omega)).2, Option.bind_some, List.length_cons, List.length_nil, Nat.zero_add, aR (bn acc i hacc (by omega)), wS (show i < 4611686018427387904 by omega)]
  cases l.any ((i : Int) == ·) <;> simp) (by omega)
 exact ⟨by rw [rule_others, l1]; rfl, by rw [scarfjointref24_rest, l2]; rfl⟩
def qF : Nat → ad → Int → List Int
 | 0, _, _ => []
 | n + 1, t, a => cond (decide (a < 0)) [] (match aB t.nodes a with | some x => a :: qF n t x.parent | none => [])
def ow (t : ad) (a : Int) : List Int := qF 32 t a
theorem ue (t : ad) : ∀ n a, (qF n t a).length ≤ n
 | 0, a => by simp [qF]
 | n + 1, a => by
  rw [qF]
  cases decide (a < 0) with
  | true => simp
  | false =>
   rw [cond_false]
   cases h : aB t.nodes a with
   | none => simp
   | some x => have := ue t n x.parent; simp; omega
theorem tY {t : ad} (ht : vF t) : ∀ (m fuel n : Nat) (a : Int) (acc : List Int), -1 ≤ a → a < m → a < t.nodes.length → m < fuel → m < n → acc.length + m ≤ 1000 →
  types_line.l0 t fuel a acc = some (acc ++ qF n t a, ())
 | m, 0, n, a, acc, _, _, _, h, _, _ => by omega
 | m, fuel + 1, 0, a, acc, _, _, _, _, h, _ => by omega
 | m, fuel + 1, n + 1, a, acc, h1, h2, h3, h4, h5, h6 => by
  by_cases h0 : a ≥ 0
  ·obtain ⟨x, x1, x2, x3⟩ := bl h0 h3
   have hn : ¬ a < 0 := by omega
   have hp := ht.par a.toNat x x2
   match m, h2 with
   | 0, h2 => omega
   | m + 1, h2 =>
    simp only [types_line.l0, qF, h0, hn, decide_true, decide_false, cond_true, cond_false, x1, Option.bind_some, List.length_cons, List.length_nil, Nat.zero_add, aR (show acc.length + 1 ≤ 1000000 by omega)]
    rw [tY ht m fuel n x.parent (acc ++ [a]) (by omega) (by omega) (by omega) (by omega) (by omega) (by simp; omega)]
    simp
  ·have hn : a < 0 := by omega
   simp [types_line.l0, qF, h0, hn]
theorem nk : ∀ (fuel : Nat) (q : List Int) (i : Nat) (j : Int), j < q.length → j - i < fuel → j ≤ 1000 → ∃ r, slices_Reverse_lint.l0 (fuel + 1) q i j = some (r, ()) ∧ r.Perm q
 | fuel, q, i, j, hj, hf, hs => by
  by_cases h : (i : Int) < j
  ·obtain ⟨b, rfl⟩ : ∃ b : Nat, j = b := ⟨j.toNat, by omega⟩
   match fuel, hf with
   | 0, hf => omega
   | fuel + 1, hf =>
    have hb : b < q.length := by omega
    have hi : i < q.length := by omega
    have hy : q[b]? = some q[b] := List.getElem?_eq_getElem hb
    have hx : q[i]? = some q[i] := List.getElem?_eq_getElem hi
    have hz : (q.set i q[b])[b]? = some q[b] := by rw [List.getElem?_set_ne (by omega)]; exact hy
    have ew : IntKind.i64.wrap ((b : Int) - 1) = (b : Int) - 1 := jE (by omega) (by omega)
    have hl : (q.set i q[b]).length = q.length := by simp
    have hd : decide ((i : Int) < (b : Int)) = true := decide_eq_true h
    rw [slices_Reverse_lint.l0]
    simp only [hd, aL hi, aL hb, hl, ig, Bool.and_true, cond_true, Int.toNat_natCast, fg hy, fg hx, fg hz, Option.bind_some, ew, wS (show i < 4611686018427387904 by omega)]
    obtain ⟨r, r1, r2⟩ := nk fuel ((q.set i q[b]).set b q[i]) (i + 1) ((b : Int) - 1) (by simp; omega) (by omega) (by omega)
    exact ⟨r, r1, r2.trans (List.set_set_perm hi hb)⟩
  ·exact ⟨q, by simp [slices_Reverse_lint.l0, h], List.Perm.refl _⟩
theorem sy {k : Nat} {q : List Int} (hq : q.length ≤ 1000) (hk : 20000 < k) : ∃ r, slices_Reverse_lint k q = some (r, ()) ∧ r.Perm q := by
 have ew : IntKind.i64.wrap ((q.length : Int) - 1) = (q.length : Int) - 1 := jE (by omega) (by omega)
 obtain ⟨k, rfl⟩ : ∃ k', k = k' + 1 := ⟨k - 1, by omega⟩
 obtain ⟨r, r1, r2⟩ := nk k q 0 ((q.length : Int) - 1) (by omega) (by omega) (by omega)
 rw [show ((0 : Nat) : Int) = 0 from rfl] at r1
 exact ⟨r, by rw [slices_Reverse_lint, ew, r1]; rfl, r2⟩
def qv (t : ad) (a b : Int) : Bool := (ow t a).any (b == ·)
theorem zb {k : Nat} {t : ad} (ht : vF t) (hk : 20000 < k) {a : Int} (ha : kw t a = true) (b : Int) : iF k t a b = some (qv t a b, ()) := by
 simp [kw] at ha
 have hn := ht.n
 have hl := ue t 32 a
 obtain ⟨r, r1, r2⟩ := sy (k := k) (q := ow t a) (by simp only [ow]; omega) hk
 have e := tY ht 31 k 32 a [] (by omega) (by omega) (by omega) (by omega) (by omega) (by simp)
 rw [List.nil_append] at e
 rw [ow] at r1 r2
 have hr := r2.length_eq
 simp only [iF, types_line, e, Option.bind_some, r1, tG (l := r) b (cP (m := 1000) (by omega) (by omega)), qv, ow]
 congr 2
 rw [Bool.eq_iff_iff, List.any_eq_true, List.any_eq_true]
 constructor
 ·rintro ⟨x, h1, h2⟩; exact ⟨x, r2.mem_iff.1 h1, h2⟩
 ·rintro ⟨x, h1, h2⟩; exact ⟨x, r2.mem_iff.2 h1, h2⟩
theorem tE {t : ad} (ht : vF t) {b : Int} (hb : 0 ≤ b) : ∀ (m fuel n : Nat) (a : Int), -1 ≤ a → a < m → a < t.nodes.length → m < fuel → m < n → ax fuel t a b = some ((qF n t a).any (b == ·), ())
 | m, 0, n, a, _, _, _, h, _ => by omega
 | m, fuel + 1, 0, a, _, _, _, _, h => by omega
 | m, fuel + 1, n + 1, a, h1, h2, h3, h4, h5 => by
  by_cases h0 : a ≥ 0
  ·obtain ⟨x, x1, x2, x3⟩ := bl h0 h3
   have hn : ¬ a < 0 := by omega
   have hp := ht.par a.toNat x x2
   match m, h2 with
   | 0, h2 => omega
   | m + 1, h2 =>
    simp only [ax, qF, h0, hn, decide_true, decide_false, cond_true, cond_false, x1, Option.bind_some]
    rw [tE ht hb m fuel n x.parent (by omega) (by omega) (by omega) (by omega) (by omega)]
    simp only [Option.bind_some, eY, iM, List.any_cons]
    congr 2
    congr 1
    rw [Bool.eq_iff_iff]; simp; exact eq_comm
  ·have hn : a < 0 := by omega
   have hab : (a == b) = false := by simp; omega
   simp [ax, qF, h0, hn, hab]
theorem nK {k : Nat} {t : ad} (ht : vF t) (hk : 20000 < k) {a b : Int} (ha : kw t a = true) (hb : 0 ≤ b) : ax k t a b = some (qv t a b, ()) := by
 simp [kw] at ha
 have hn := ht.n
 exact tE ht hb 31 k 32 a (by omega) (by omega) (by omega) (by omega) (by omega)
def yJ (t : ad) (e a b : Int) : Bool :=
 (kw t a && kw t b && (decide (e ≥ 0) && decide (e < (t.edges.length : Int)))) && match aB t.edges e with | some x => qv t a x.frm && qv t b x.to | none => false
theorem vY {k : Nat} {t : ad} (ht : vF t) (h0 : jr t = 0) (hk : 20000 < k) (e a b : Int) : gH k t e a b = some (yJ t e a b, ()) ∧ ci k t e a b = some (yJ t e a b, ()) := by
 have hn := ht.e
 have e7 : IntKind.i64.wrap ((t.edges.length : Int) - 1) = (t.edges.length : Int) - 1 := jE (by omega) (by omega)
 have e8 : decide (e ≤ (t.edges.length : Int) - 1) = decide (e < (t.edges.length : Int)) := decide_eq_decide.2 (by omega)
 have e9 : (decide (e < 0) || decide (e ≥ (t.edges.length : Int))) = !(decide (e ≥ 0) && decide (e < (t.edges.length : Int))) := by rw [Bool.eq_iff_iff]; simp <;> omega
 simp only [gH, ci, ah, qH ht.b (show 2000 < k by omega) [a, b] (by simp), m3 ht.b (show 2000 < k by omega) a b, h0, bne_self_eq_false, cond_false, Option.bind_some, eY, iM, jO, e7, e8, e9, List.any_cons, List.any_nil, Bool.or_false, yJ]
 cases ha : kw t a with
 | false => (refine ⟨?_, ?_⟩ <;> first | rfl | trivial)
 | true =>
  cases hb : kw t b with
  | false => (refine ⟨?_, ?_⟩ <;> first | rfl | trivial)
  | true =>
   cases he : (decide (e ≥ 0) && decide (e < (t.edges.length : Int))) with
   | false => (refine ⟨?_, ?_⟩ <;> first | rfl | trivial)
   | true =>
    have : 0 ≤ e ∧ e < t.edges.length := by simp at he; omega
    obtain ⟨x, x1, x2, x3⟩ := bl this.1 this.2
    have hx := ht.edge _ x x2
    simp only [x1, Option.bind_some, zb ht hk ha, zb ht hk hb, nK ht hk ha hx.1, nK ht hk hb hx.2.2.1, eY, jO, Bool.not_true, Bool.or_self, bne_self_eq_false, cond_false, Bool.and_self, Bool.true_and, and_self]
def tf (t : ad) (g : ag) (i : Int) : Bool := match aB g.nodes i with | some x => (match aB t.nodes x with | some n => n.abstract | none => false) | none => false
def sR (t : ad) (g : ag) (i : Int) : Bool := match aB g.edges i with | some x => yJ t x.typ ((aB g.nodes x.frm).getD 0) ((aB g.nodes x.to).getD 0) | none => false
def wu (t : ad) (g : ag) (nodes edges : List Int) : Bool := !nodes.any (tf t g) && !edges.any fun i => !sR t g i
theorem zi {k : Nat} {t : ad} {g : ag} (h : jN t g) {nodes edges : List Int} (hn : ∀ x ∈ nodes, 0 ≤ x ∧ x < g.nodes.length) (he : ∀ x ∈ edges, 0 ≤ x ∧ x < g.edges.length) (ln : nodes.length ≤ 1000) (le : edges.length ≤ 1000) (hk : 20000 < k) :
  fi k t g nodes edges = some (wu t g nodes edges, ()) ∧ scarfjointref24_proper k t g nodes edges = some (wu t g nodes edges, ()) := by
 have N : ∀ x ∈ nodes, ∃ a b, aB g.nodes x = some a ∧ aB t.nodes a = some b := fun x hx => by
  obtain ⟨a, a1, _, a3⟩ := bl (hn x hx).1 (hn x hx).2
  have := ma h a3
  simp [kw] at this
  obtain ⟨b, b1, _, _⟩ := bl this.1 this.2
  exact ⟨a, b, a1, b1⟩
 have X : ∀ x ∈ edges, ∃ e a b, aB g.edges x = some e ∧ aB g.nodes e.frm = some a ∧ aB g.nodes e.to = some b := fun x hx => by
  obtain ⟨e, e1, _, e3⟩ := bl (he x hx).1 (he x hx).2
  have := h.gr.edge e e3
  obtain ⟨a, a1, _, _⟩ := bl (l := g.nodes) (i := e.frm) (by omega) (by omega)
  obtain ⟨b, b1, _, _⟩ := bl (l := g.nodes) (i := e.to) (by omega) (by omega)
  exact ⟨e, a, b, e1, a1, b1⟩
 constructor
 ·have c1 := bF (l := nodes) (q := fun z1 => ez z1.1 t g) (p := tf t g) (fun x hx => by
   obtain ⟨a, b, a1, b1⟩ := N x hx
   simp only [ez, tf, a1, b1, Option.bind_some]) (cP ln (by omega))
  have c2 := bF (l := edges) (q := fun z3 => ev k z3.1 g t) (p := fun i => !sR t g i) (fun x hx => by
   obtain ⟨e, a, b, e1, a1, b1⟩ := X x hx
   simp only [ev, sR, e1, a1, b1, Option.bind_some, (vY h.ok h.e hk _ _ _).1, Option.getD_some]) (cP le (by omega))
  simp only [fi, mU, c1, c2, Option.bind_some, eY, jO, wu]
 ·have l1 := bP (F := scarfjointref24_proper.l0 nodes edges t g) nodes (edges, t, g, ()) (fun _ x => cond (tf t g x) (some (false, ())) none) k (fun n => by simp only [scarfjointref24_proper.l0, ar, cond_false]) (fun n i x hx _ => by
   obtain ⟨a, b, a1, b1⟩ := N x (cm hx)
   simp only [scarfjointref24_proper.l0, tf, aL (aM hx), cond_true, idx_some hx, a1, b1, Option.bind_some, cY, wS (show i < 4611686018427387904 by have := aM hx; omega)]) (by omega)
  have l2 := bP (F := scarfjointref24_proper.l2 k edges t g) edges () (fun _ x => cond (!sR t g x) (some (false, ())) none) k (fun n => by simp only [scarfjointref24_proper.l2, ar, cond_false]) (fun n i x hx _ => by
   obtain ⟨e, a, b, e1, a1, b1⟩ := X x (cm hx)
   simp only [scarfjointref24_proper.l2, sR, aL (aM hx), cond_true, idx_some hx, e1, a1, b1, Option.bind_some, (vY h.ok h.e hk _ _ _).2, Option.getD_some, cY, wS (show i < 4611686018427387904 by have := aM hx; omega)]) (by omega)
  rw [bS (tf t g)] at l1
  rw [bS (fun x => !sR t g x)] at l2
  simp only [scarfjointref24_proper, l1, Option.bind_some, fD, wu]
  cases nodes.any (tf t g) with
  | true => rfl
  | false =>
   simp only [cond_false, aJ, l2, Option.bind_some, fD]
   cases edges.any (fun x => !sR t g x) <;> rfl
def ov (r : aC) : Int :=
 cond (ks r.left.graph r.keep != 0) (ks r.left.graph r.keep) (cond (kD (vp r.left.graph r.keep) r.right.graph r.into != 0) (kD (vp r.left.graph r.keep) r.right.graph r.into)
  (cond (!(dst r.into.nodes && dst r.into.edges)) 11 0))
theorem yW (g : ag) : (⟨g.nodes, g.edges⟩ : ag) = g := rfl
structure BM (m : aO) : Prop where
 n : m.nodes.length ≤ 140
 e : m.edges.length ≤ 140
theorem wL {k : Nat} {a b : ag} {m : aO} (ha : BG a) (hb : BG b) (hm : BM m) (h0 : kD a b m = 0) (hk : 20000 < k) : bN k a b m = some (dst m.nodes && dst m.edges, ()) := by
 have h1 := hm.n
 have h2 := hm.e
 obtain ⟨p, p1, p2⟩ := oE (k := k) (l := m.nodes) (by omega) hk
 obtain ⟨q, q1, q2⟩ := oE (k := k) (l := m.edges) (by omega) hk
 simp only [bN, (pJ (m := m) ha hb hk).1, h0, beq_self_eq_true, cond_true, Option.bind_some, p1, q1, p2, q2, eY, jO, Bool.true_and]
theorem yk {k : Nat} {r : aC} (hl : BG r.left.graph) (hr : BG r.right.graph) (hk' : mh r.keep) (hm : BM r.into) (hk : 20000 < k) : ip k r = some (ov r, ()) := by
 simp only [ip, (zg hl hk' hk).1, Option.bind_some, Ab, ov]
 cases h1 : (ks r.left.graph r.keep != 0) with
 | true => simp only [cond_true, h1]
 | false =>
  simp only [cond_false, bne_self_eq_false, yW, (pJ (m := r.into) (wg hk') hr hk).1, Option.bind_some]
  cases h2 : (kD (vp r.left.graph r.keep) r.right.graph r.into != 0) with
  | true => rfl
  | false => simp only [cond_false, wL (wg hk') hr hm (show kD (vp r.left.graph r.keep) r.right.graph r.into = 0 by simpa using h2) hk, Option.bind_some, eY]
theorem yL {k : Nat} {r : aC} (hl : BG r.left.graph) (hr : BG r.right.graph) (hk' : mh r.keep) (hk : 20000 < k) : cq k r = some (cond (ks r.left.graph r.keep != 0) (ks r.left.graph r.keep) (kD (vp r.left.graph r.keep) r.right.graph r.into), ()) := by
 simp only [cq, (sS hl hk' hk).2, (zg hl hk' hk).2, Option.bind_some, Ab]
 cases h1 : (ks r.left.graph r.keep != 0) with
 | true => rfl
 | false => simp only [cond_false, yW, (pJ (m := r.into) (wg hk') hr hk).2, Option.bind_some]
end Go.Ev.Pl
end
section
set_option linter.unusedVariables false
namespace Go.Ev.Pl
theorem qT {α S R : Type} {F : Nat → S → Int → Option R} (l : List α) (out : S → Option R) (st : α → S → S) (fuel : Nat) (s : S)
  (h0 : ∀ n s, F (n + 1) s (l.length : Int) = out s)
  (h1 : ∀ n s (i : Nat) x, l[i]? = some x → F (n + 1) s (i : Int) = F n (st x s) ((i + 1 : Nat) : Int))
  (hf : l.length < fuel) : F fuel s 0 = out (l.foldl (fun s x => st x s) s) := by
 suffices H : ∀ c i fuel s, l.length - i = c → i ≤ l.length → l.length - i < fuel → F fuel s (i : Int) = out ((l.drop i).foldl (fun s x => st x s) s) by
  have := H _ 0 fuel s rfl (by omega) (by omega)
  simpa using this
 intro c
 induction c with
 | zero =>
  intro i fuel s hc hi hf
  obtain rfl : i = l.length := by omega
  cases fuel with
  | zero => omega
  | succ n => rw [h0 n s]; simp
 | succ c ih =>
  intro i fuel s hc hi hf
  cases fuel with
  | zero => omega
  | succ n =>
   have hlt : i < l.length := by omega
   rw [h1 n s i _ (List.getElem?_eq_getElem hlt), List.drop_eq_getElem_cons hlt, List.foldl_cons]
   exact ih (i + 1) n _ (by omega) (by omega) (by omega)
def BC : Nat → af → Prop
 | 0, _ => False
 | n + 1, c => BP c.pattern ∧ BM c.map ∧ c.kids.length ≤ 1000 ∧ ∀ d ∈ c.kids, BC n d
theorem nY {a b : Nat} (h : a + b ≤ 1000000) : IntKind.i64.wrap ((a : Int) + (b : Int)) = ((a + b : Nat) : Int) := by rw [jE (by omega) (by omega)]; omega
def mQ (c : af) : Bool :=
 decide (c.map.nodes.length + c.map.edges.length + c.pattern.graph.nodes.length + c.pattern.graph.edges.length + c.pattern.slots.length + c.pattern.tests.length = 0) && (c.pattern.vars == 0)
theorem tW {c : af} {n : Nat} (h : BC n c) : cE c = some (mQ c, ()) ∧ aP c = some (mQ c, ()) := by
 match n, h with
 | n + 1, ⟨⟨⟨h1, h2⟩, h3, h4⟩, ⟨h5, h6⟩, _⟩ =>
  simp only [cE, aP, mQ]
  rw [nY, nY, nY, nY, nY, nY] <;> try omega
  simp only [eY, jO, Option.bind_some]
  constructor
  ·congr 2
   congr 1
   rw [Bool.eq_iff_iff]; simp only [decide_eq_true_eq, beq_iff_eq, Bool.and_eq_true]; omega
  ·rw [← Bool.and_assoc]
   congr 2
   congr 1
   rw [Bool.eq_iff_iff]; simp only [decide_eq_true_eq, beq_iff_eq, Bool.and_eq_true]; omega
def As (c : af) : Bool :=
 cond (c.kind == 1) (((c.kids.length : Int) == 0) && mQ c) (cond (c.kind == 2) (((c.kids.length : Int) == 1) && mQ c) (cond (c.kind == 3) (decide ((c.kids.length : Int) ≥ 1) && mQ c)
  (cond (c.kind == 4) (decide ((c.kids.length : Int) ≥ 1) && mQ c) (cond (c.kind == 5) ((c.kids.length : Int) == 1) false))))
theorem yv {c : af} {n : Nat} (h : BC n c) : cb c = some (As c, ()) := by
 have e : decide ((c.kids.length : Int) > 0) = decide ((c.kids.length : Int) ≥ 1) := decide_eq_decide.2 (by omega)
 simp only [cb, (tW h).2, Option.bind_some, eY, jO, As, e]
 cases (c.kind == 1) <;> cases (c.kind == 2) <;> cases (c.kind == 3) <;> cases (c.kind == 4) <;> cases (c.kind == 5) <;> rfl
def xE : Nat → af → Bool
 | 0, _ => false
 | n + 1, c => As c && !(c.kids.any fun d => !xE n d)
theorem xr : ∀ (n : Nat) (c : af), BC n c → ∀ k, 20000 + n < k → aq k c = some (xE n c, ()) ∧ scarfjointref22_allRight k c = some (xE n c, ())
 | 0, c, h, _, _ => h.elim
 | n + 1, c, h, 0, hk => by omega
 | n + 1, c, h, k + 1, hk => by
  have hkids := h.2.2.2
  have hlen := h.2.2.1
  have ih : ∀ d ∈ c.kids, _ := fun d hd => xr n d (hkids d hd) k (by omega)
  have c1 := bF (l := c.kids) (q := fun z => aG (aq k) z.1) (p := fun d => !xE n d) (fun d hd => by simp only [aG, (ih d hd).1, Option.bind_some]) (cP hlen (by omega))
  have l1 := bP (F := scarfjointref22_allRight.l0 (scarfjointref22_allRight k) c) c.kids () (fun _ d => cond (!xE n d) (some (false, ())) none) k (fun m => by simp only [scarfjointref22_allRight.l0, ar, cond_false]) (fun m i x hx _ => by
   simp only [scarfjointref22_allRight.l0, aL (aM hx), cond_true, idx_some hx, (ih x (cm hx)).2, Option.bind_some, cY, wS (show i < 4611686018427387904 by have := aM hx; omega)]) (by omega)
  rw [bS (fun d => !xE n d)] at l1
  constructor
  ·simp only [aq, (tW h).1, yz, c1, Option.bind_some, eY, jO, xE, As]
   cases (c.kind == 1) <;> cases (c.kind == 2) <;> cases (c.kind == 3) <;> cases (c.kind == 4) <;> cases (c.kind == 5) <;> rfl
  ·simp only [scarfjointref22_allRight, yv h, l1, Option.bind_some, xE, fD]
   cases As c <;> cases (c.kids.any fun d => !xE n d) <;> rfl
def gX : Nat → af → Int × Int
 | 0, _ => (0, 0)
 | n + 1, c => cond (c.kind == 5) ((c.kids.foldl (fun s d => (IntKind.i64.wrap (s.1 + (gX n d).1), fF s.2 (gX n d).2)) ((1, 0) : Int × Int)).1, IntKind.i64.wrap ((c.kids.foldl (fun s d => (IntKind.i64.wrap (s.1 + (gX n d).1), fF s.2 (gX n d).2)) ((1, 0) : Int × Int)).2 + 1))
   (c.kids.foldl (fun s d => (IntKind.i64.wrap (s.1 + (gX n d).1), fF s.2 (gX n d).2)) ((1, 0) : Int × Int))
theorem pD : ∀ (n : Nat) (c : af), BC n c → ∀ k, 20000 + n < k → condition_measure k c = some ((gX n c).1, (gX n c).2, ()) ∧ scarfjointref22_Measure k c = some ((gX n c).1, (gX n c).2, ())
 | 0, c, h, _, _ => h.elim
 | n + 1, c, h, 0, hk => by omega
 | n + 1, c, h, k + 1, hk => by
  have hkids := h.2.2.2
  have hlen := h.2.2.1
  have ih : ∀ d ∈ c.kids, _ := fun d hd => pD n d (hkids d hd) k (by omega)
  have l1 := qT (F := fun m (s : Int × Int) i => condition_measure.l0 (condition_measure k) c c.kids c.kids.length m s.1 s.2 i) c.kids (fun s => some (c, s.1, s.2, ())) (fun d s => (IntKind.i64.wrap (s.1 + (gX n d).1), fF s.2 (gX n d).2)) (Int.toNat (c.kids.length : Int) + 1) (1, 0) (fun m s => by simp only [condition_measure.l0, ar, cond_false]) (fun m s i x hx => by
   simp only [condition_measure.l0, aL (aM hx), cond_true, idx_some hx, (ih x (cm hx)).1, Option.bind_some, wS (show i < 4611686018427387904 by have := aM hx; omega)]) (by omega)
  have l2 := qT (F := fun m (s : Int × Int) i => scarfjointref22_Measure.l0 (scarfjointref22_Measure k) c m s.1 s.2 i) c.kids (fun s => some (c, s.1, s.2, ())) (fun d s => (IntKind.i64.wrap (s.1 + (gX n d).1), fF s.2 (gX n d).2)) k (1, 0) (fun m s => by simp only [scarfjointref22_Measure.l0, ar, cond_false]) (fun m s i x hx => by
   simp only [scarfjointref22_Measure.l0, aL (aM hx), cond_true, idx_some hx, (ih x (cm hx)).2, Option.bind_some, wS (show i < 4611686018427387904 by have := aM hx; omega)]) (by omega)
  dsimp only at l1 l2
  simp only [condition_measure, scarfjointref22_Measure, l1, l2, Option.bind_some, gX]
  cases (c.kind == 5) <;> (refine ⟨?_, ?_⟩ <;> first | rfl | trivial)
def A6 (n : Nat) (c : af) : Int := cond (!xE n c) 1 (cond (decide ((gX n c).1 > 12) || decide ((gX n c).2 > 3)) 3 0)
theorem ze {n : Nat} {c : af} (h : BC n c) {k : Nat} (hk : 20000 + n < k) : dG k c = some (A6 n c, ()) ∧ c8 k c = some (A6 n c, ()) := by
 simp only [dG, c8, (xr n c h k hk).1, (xr n c h k hk).2, (pD n c h k hk).1, (pD n c h k hk).2, Option.bind_some, eY, iM, A6, and_self]
def PV (p : ai) : Prop := 0 ≤ p.vars ∧ p.vars ≤ 12
theorem ki {t : ad} {p : ai} (h : iO t p = 0 ∨ iO t p = 9 ∧ jr t = 0) : PV p := by
 have key : jr t = 0 → iO t p = 0 ∨ iO t p = 9 → PV p := fun h0 h => by
  simp only [iO, h0, bne_self_eq_false, cond_false] at h
  cases h6 : (decide (p.vars < 0) || decide (p.vars > 12)) with
  | false => simp at h6; exact ⟨by omega, by omega⟩
  | true =>
   rw [h6] at h
   have hg : l7 p.graph = 0 ∨ l7 p.graph = 3 ∨ l7 p.graph = 6 := by
    simp only [l7]
    cases (decide ((p.graph.nodes.length : Int) > 40) || decide ((p.graph.edges.length : Int) > 80)) <;> cases (p.graph.nodes.any fun n => !gh n) <;> cases (p.graph.edges.any fun e => !i6 p.graph.nodes.length e) <;> simp
   exfalso
   revert h
   rcases hg with e | e | e <;> rw [e] <;> cases sA t p.graph <;> simp
 rcases h with h | ⟨h, h0⟩
 ·exact key (vS h).1 (.inl h)
 ·exact key h0 (.inr h)
def pn (t : ad) (q : ai) (v : Nat) : Int := cond (iO t q != 9) (iO t q) (cond (!iL q v) 9 0)
theorem vZ (q : ai) (e : Int) (v : Nat) : ∀ c, ce (fun i => cond (!oH q i) (some (e, ())) none) v c = cond (!(List.range' v c).all (oH q)) (some (e, ())) none := by
 intro c
 induction c generalizing v with
 | zero => rfl
 | succ c ih =>
  rw [ce, List.range'_succ, List.all_cons]
  cases oH q v with
  | false => rfl
  | true => simp only [Bool.not_true, cond_false, Bool.true_and]; exact ih (v + 1)
theorem zB {k : Nat} {t : ad} (ht : BT t) (h0 : jr t = 0) {q : ai} (hq : BP q) (v : Nat) (hk : 20000 < k) : condition_pattern k t q v = some (pn t q v, ()) ∧
  (decide (q.vars < (v : Int)) = false → scarfjointref22_inner k t v q = some (pn t q v, ())) := by
 have hs := hq.s
 simp only [condition_pattern, scarfjointref22_inner, tb ht hq (show 2000 < k by omega), qh ht hq (show 2000 < k by omega), Option.bind_some, pn]
 cases h9 : (iO t q != 9) with
 | true => exact ⟨rfl, fun h => by rw [h]; rfl⟩
 | false =>
  have h9' : iO t q = 9 := by simpa using h9
  obtain ⟨v1, v2⟩ := ki (.inr ⟨h9', h0⟩)
  obtain ⟨V, hV⟩ : ∃ V : Nat, q.vars = V := ⟨q.vars.toNat, by omega⟩
  have e9 : ∀ j, iL q j = (List.range' j (V - j)).all (oH q) := fun j => by simp [iL, hV]
  have l1 := li (F := condition_pattern.l0 q 9) V () (fun i => cond (!oH q i) (some (9, ())) none) v (fun n i hi => by
   have : ¬ ((i : Int) < q.vars) := by omega
   simp [condition_pattern.l0, this]) (fun n i _ hi _ => by
   have : (i : Int) < q.vars := by omega
   have c1 := bF (l := q.slots) (q := fun z4 => dg z4.1 i) (p := fun s => s.term.var == (i : Int)) (fun _ _ => rfl) (cP hs (by omega))
   simp only [condition_pattern.l0, this, decide_true, cond_true, ug, c1, Option.bind_some, wS (show i < 4611686018427387904 by omega), oH]
   cases (q.slots.any fun s => s.term.var == (i : Int)) <;> rfl) k (by omega)
  have oc : ∀ i : Nat, scarfjointref22_occurs k q i = some (oH q i, ()) := fun i => by
   have := bP (F := scarfjointref22_occurs.l0 i q) q.slots () (fun _ x => cond (x.term.var == (i : Int)) (some (true, ())) none) k (fun n => by simp only [scarfjointref22_occurs.l0, ar, cond_false]) (fun n j x hx _ => by
    simp only [scarfjointref22_occurs.l0, aL (aM hx), cond_true, idx_some hx, Option.bind_some, cY, wS (show j < 4611686018427387904 by have := aM hx; omega)]) (by omega)
   rw [scarfjointref22_occurs, this, bS (fun x : dR => x.term.var == (i : Int))]
   simp only [Option.bind_some, oH]
   cases (q.slots.any fun x => x.term.var == (i : Int)) <;> rfl
  have l2 := li (F := scarfjointref22_inner.l0 k q 9) V () (fun i => cond (!oH q i) (some (9, ())) none) v (fun n i hi => by
   have : ¬ ((i : Int) < q.vars) := by omega
   simp [scarfjointref22_inner.l0, this]) (fun n i _ hi _ => by
   have : (i : Int) < q.vars := by omega
   simp only [scarfjointref22_inner.l0, this, decide_true, cond_true, oc, Option.bind_some, wS (show i < 4611686018427387904 by omega)]
   cases oH q i <;> rfl) k (by omega)
  rw [vZ, ← e9] at l1 l2
  simp only [h9', cond_false, l1, l2, Option.bind_some, fD]
  cases iL q v with
  | true => exact ⟨rfl, fun h => by rw [h]; rfl⟩
  | false => exact ⟨rfl, fun h => by rw [h]; rfl⟩
def m4 : Nat → ad → ai → af → Int
 | 0, _, _, _ => 0
 | n + 1, t, p, c =>
  cond (c.kind == 5)
   (cond (decide (c.pattern.vars < p.vars)) 20 (cond (pn t c.pattern p.vars.toNat != 0) (pn t c.pattern p.vars.toNat) (cond (kD p.graph c.pattern.graph c.map != 0) (kD p.graph c.pattern.graph c.map) (cond (!(dst c.map.nodes && dst c.map.edges)) 1
    (jv (bO (fun _ d => cond (m4 n t c.pattern d != 0) (some (m4 n t c.pattern d, ())) none) c.kids))))))
   (jv (bO (fun _ d => cond (m4 n t p d != 0) (some (m4 n t p d, ())) none) c.kids))
theorem pt {t : ad} (ht : BT t) (h0 : jr t = 0) : ∀ (n : Nat) (c : af) (p : ai), BC n c → BP p → PV p → ∀ k, 20000 + n < k → condition_inside k t p c = some (m4 n t p c, ()) ∧ scarfjointref22_over k t p c = some (m4 n t p c, ())
 | 0, c, p, h, _, _, _, _ => h.elim
 | n + 1, c, p, h, _, _, 0, hk => by omega
 | n + 1, c, p, h, hp, hv, k + 1, hk => by
  have hkids := h.2.2.2
  have hlen := h.2.2.1
  have hq := h.1
  have hm := h.2.1
  have l1 : ∀ q, BP q → PV q → _ := fun q bq vq => bP (F := condition_inside.l0 (condition_inside k) t q c.kids c.kids.length) c.kids () (fun _ d => cond (m4 n t q d != 0) (some (m4 n t q d, ())) none) (c.kids.length + 1) (fun m => by simp only [condition_inside.l0, ar, cond_false]) (fun m i x hx _ => by
   simp only [condition_inside.l0, aL (aM hx), cond_true, idx_some hx, (pt ht h0 n x q (hkids x (cm hx)) bq vq k (by omega)).1, Option.bind_some, cY, wS (show i < 4611686018427387904 by have := aM hx; omega)]) (by omega)
  have l2 : ∀ q, BP q → PV q → _ := fun q bq vq => bP (F := scarfjointref22_over.l0 (scarfjointref22_over k) t c q) c.kids () (fun _ d => cond (m4 n t q d != 0) (some (m4 n t q d, ())) none) k (fun m => by simp only [scarfjointref22_over.l0, ar, cond_false]) (fun m i x hx _ => by
   simp only [scarfjointref22_over.l0, aL (aM hx), cond_true, idx_some hx, (pt ht h0 n x q (hkids x (cm hx)) bq vq k (by omega)).2, Option.bind_some, cY, wS (show i < 4611686018427387904 by have := aM hx; omega)]) (by omega)
  obtain ⟨V, hV⟩ : ∃ V : Nat, p.vars = V := ⟨p.vars.toNat, by have := hv.1; omega⟩
  obtain ⟨p1, p2⟩ := zB (k := k) ht h0 hq V (by omega)
  obtain ⟨m1, m2⟩ := pJ (k := k) (m := c.map) hp.g hq.g (by omega)
  have hn1 := hm.n
  have hn2 := hm.e
  simp only [condition_inside, scarfjointref22_over, m4, hV, Int.toNat_natCast]
  cases hk5 : (c.kind == 5) with
  | false =>
   simp only [cond_false, l1 p hp hv, l2 p hp hv]
   exact ⟨kR _, kR _⟩
  | true =>
   simp only [cond_true, p1, m1, m2]
   cases hlt : decide (c.pattern.vars < (V : Int)) with
   | true => simp only [scarfjointref22_inner, hlt, cond_true]; (refine ⟨?_, ?_⟩ <;> first | rfl | trivial)
   | false =>
    simp only [cond_false, p2 hlt, Option.bind_some]
    cases h1 : (pn t c.pattern V != 0) with
    | true => (refine ⟨?_, ?_⟩ <;> first | rfl | trivial)
    | false =>
     cases h2 : (kD p.graph c.pattern.graph c.map != 0) with
     | true => (refine ⟨?_, ?_⟩ <;> first | rfl | trivial)
     | false =>
      have hm0 : kD p.graph c.pattern.graph c.map = 0 := by simpa using h2
      have hpv : PV c.pattern := by
       have : pn t c.pattern V = 0 := by simpa using h1
       simp only [pn] at this
       cases h9 : (iO t c.pattern != 9) with
       | true => rw [h9] at this; exact ki (.inl this)
       | false => exact ki (.inr ⟨by simpa using h9, h0⟩)
      simp only [cond_false, wL (k := k) hp.g hq.g hm hm0 (by omega), bU, m2, hm0, beq_self_eq_true, cond_true, iS (k := k) (l := c.map.nodes) (by omega) (by omega), iS (k := k) (l := c.map.edges) (by omega) (by omega), Option.bind_some, eY, jO, Bool.true_and, l1 _ hq hpv, l2 _ hq hpv]
      cases (dst c.map.nodes && dst c.map.edges) with
      | false => (refine ⟨?_, ?_⟩ <;> first | rfl | trivial)
      | true => exact ⟨kR _, kR _⟩
def rk (n : Nat) (t : ad) (p : ai) (c : af) : Int := cond (iO t p != 0) (iO t p) (cond (A6 n c != 0) (A6 n c) (m4 n t p c))
theorem xR {t : ad} (ht : BT t) (h0 : jr t = 0) {n : Nat} {c : af} {p : ai} (h : BC n c) (hp : BP p) {k : Nat} (hk : 20000 + n < k) : dF k t p c = some (rk n t p c, ()) ∧ bZ k t p c = some (rk n t p c, ()) := by
 simp only [dF, bZ, rk, tb ht hp (show 2000 < k by omega), qh ht hp (show 2000 < k by omega), (ze h hk).1, (ze h hk).2, Option.bind_some]
 cases h1 : (iO t p != 0) with
 | true => (refine ⟨?_, ?_⟩ <;> first | rfl | trivial)
 | false =>
  have hv := ki (t := t) (p := p) (.inl (by simpa using h1))
  simp only [cond_false, (pt ht h0 n c p h hp hv k hk).1, (pt ht h0 n c p h hp hv k hk).2, Option.bind_some, eY, and_self]
end Go.Ev.Pl
end
section
set_option linter.unusedVariables false
namespace Go.Ev.Pl
structure rS (n : Nat) (r : aC) : Prop where
 name : r.name.size ≤ 60
 left : BP r.left
 right : BP r.right
 keep : mh r.keep
 into : BM r.into
 cnd : BC n r.condition
def gS (r : aC) : List Int := lk r.keep.nodes r.left.graph.nodes.length
def lV (r : aC) : List Int := lk r.keep.edges r.left.graph.edges.length
def la (r : aC) : List Int := lk r.into.nodes r.right.graph.nodes.length
def l9 (r : aC) : List Int := lk r.into.edges r.right.graph.edges.length
def fU (n : Nat) (t : ad) (r : aC) : Int :=
 cond (jr t != 0) (jr t) (cond (!jd r.name) 2 (cond (iO t r.left != 0) (iO t r.left) (cond (jz t r != 0) (jz t r) (cond (ov r != 0) (ov r)
  (cond (!wu t r.right.graph (la r) (l9 r)) 13 (rk n t r.left r.condition))))))
theorem xH {t : ad} {p : ai} (ht : BT t) (h : iO t p = 0) : jN t p.graph := by
 obtain ⟨h1, h⟩ := vS h
 obtain ⟨h2, h⟩ := vS h
 obtain ⟨h3, h⟩ := Aj h (by decide)
 exact ⟨kG ht h1, h1, k7 h2, by simpa using h3⟩
theorem oz {t : ad} {r : aC} (ht : BT t) (h1 : jr t = 0) (h : jz t r = 0) : jN t r.right.graph := by
 obtain ⟨h2, h⟩ := vS h
 obtain ⟨h3, h⟩ := Aj h (by decide)
 exact ⟨kG ht h1, h1, k7 h2, by simpa using h3⟩
theorem wz {k n : Nat} {r : aC} (hr : rS n r) (hk : 20000 < k) : fq r = some (gS r, lV r, ()) ∧ bL k r = some (gS r, lV r, ()) := by
 have h1 := hr.keep.n
 have h2 := hr.keep.e
 have h3 := hr.left.g.n
 have h4 := hr.left.g.e
 simp only [fq, bL, (iW (k := k) (l := r.keep.nodes) (n := r.left.graph.nodes.length) (by omega) (by omega) hk).1, (iW (k := k) (l := r.keep.nodes) (n := r.left.graph.nodes.length) (by omega) (by omega) hk).2, (iW (k := k) (l := r.keep.edges) (n := r.left.graph.edges.length) (by omega) (by omega) hk).1, (iW (k := k) (l := r.keep.edges) (n := r.left.graph.edges.length) (by omega) (by omega) hk).2, Option.bind_some, gS, lV, and_self]
theorem tB {k n : Nat} {r : aC} (hr : rS n r) (hk : 20000 < k) : dK r = some (la r, l9 r, ()) ∧ aV k r = some (la r, l9 r, ()) := by
 have h1 := hr.into.n
 have h2 := hr.into.e
 have h3 := hr.right.g.n
 have h4 := hr.right.g.e
 simp only [dK, aV, (iW (k := k) (l := r.into.nodes) (n := r.right.graph.nodes.length) (by omega) (by omega) hk).1, (iW (k := k) (l := r.into.nodes) (n := r.right.graph.nodes.length) (by omega) (by omega) hk).2, (iW (k := k) (l := r.into.edges) (n := r.right.graph.edges.length) (by omega) (by omega) hk).1, (iW (k := k) (l := r.into.edges) (n := r.right.graph.edges.length) (by omega) (by omega) hk).2, Option.bind_some, la, l9, and_self]
theorem mF {k n : Nat} {t : ad} {r : aC} (ht : BT t) (hr : rS n r) (hk : 20000 + n < k) : fc k t r = some (fU n t r, ()) ∧ bp k t r = some (fU n t r, ()) := by
 have hnm := hr.name
 have hm1 := hr.into.n
 have hm2 := hr.into.e
 have h3 := hr.right.g.n
 have h4 := hr.right.g.e
 have hc := tB (k := k) hr (by omega)
 simp only [fc, bp, fU, (gT ht (show 2000 < k by omega)).1, (gT ht (show 2000 < k by omega)).2, Af (s := r.name) (cP hnm (by omega)) (show r.name.size < k by omega), Ao (s := r.name) (cP hnm (by omega)) (show r.name.size < k by omega) (by omega), tb ht hr.left (show 2000 < k by omega), qh ht hr.left (show 2000 < k by omega), Option.bind_some]
 cases h0 : (jr t != 0) with
 | true => (refine ⟨?_, ?_⟩ <;> first | rfl | trivial)
 | false =>
  have t0 : jr t = 0 := by simpa using h0
  simp only [cond_false, (oR (k := k) (r := r) (kG ht t0) t0 hr.right (by omega)).1, (oR (k := k) (r := r) (kG ht t0) t0 hr.right (by omega)).2, Option.bind_some]
  cases jd r.name with
  | false => (refine ⟨?_, ?_⟩ <;> first | rfl | trivial)
  | true =>
   cases ha : (iO t r.left != 0) with
   | true => (refine ⟨?_, ?_⟩ <;> first | rfl | trivial)
   | false =>
    cases hr' : (jz t r != 0) with
    | true => (refine ⟨?_, ?_⟩ <;> first | rfl | trivial)
    | false =>
     have hR := oz ht t0 (show jz t r = 0 by simpa using hr')
     have l1 := eD r.into.nodes r.right.graph.nodes.length
     have l2 := eD r.into.edges r.right.graph.edges.length
     have hmak := zi (k := k) hR (nodes := la r) (edges := l9 r) (fun x hx => bM hx) (fun x hx => bM hx) (by simp only [la]; omega) (by simp only [l9]; omega) (by omega)
     have hcnd := xR (k := k) ht t0 hr.cnd hr.left (by omega)
     simp only [cond_false, Bool.not_true, yk (k := k) (r := r) hr.left.g hr.right.g hr.keep hr.into (by omega), yL (k := k) (r := r) hr.left.g hr.right.g hr.keep (by omega), iS (k := k) (l := r.into.nodes) (by omega) (by omega), iS (k := k) (l := r.into.edges) (by omega) (by omega), hc.1, hc.2, hmak.1, hmak.2, hcnd.1, hcnd.2, Option.bind_some, eY, iM]
     refine ⟨trivial, ?_⟩
     simp only [ov]
     cases h5 : (ks r.left.graph r.keep != 0) with
     | true => simp only [cond_true, h5]
     | false =>
      simp only [cond_false]
      cases h6 : (kD (vp r.left.graph r.keep) r.right.graph r.into != 0) with
      | true => simp only [cond_true, h6]
      | false => cases dst r.into.nodes <;> cases dst r.into.edges <;> rfl
structure Bc (t : ad) (r : aC) : Prop where
 left : jN t r.left.graph
 right : jN t r.right.graph
theorem ns {n : Nat} {t : ad} {r : aC} (ht : BT t) (h : fU n t r = 0) : Bc t r := by
 obtain ⟨h1, h⟩ := vS h
 obtain ⟨h2, h⟩ := Aj h (by decide)
 obtain ⟨h3, h⟩ := vS h
 obtain ⟨h4, h⟩ := vS h
 exact ⟨xH ht h3, oz ht h1 h4⟩
theorem th {k n : Nat} {t : ad} {r : aC} (ht : BT t) (hr : rS n r) (hk : 20000 + n < k) : fm k t r = some (cond (fU n t r != 0) ([], [], fU n t r, ()) (gS r, lV r, 0, ())) ∧ aW k t r = some (cond (fU n t r != 0) ([], [], fU n t r, ()) (gS r, lV r, 0, ())) := by
 simp only [fm, aW, (mF ht hr hk).1, (mF ht hr hk).2, (wz (k := k) hr (by omega)).1, (wz (k := k) hr (by omega)).2, Option.bind_some, wW, and_self]
theorem vU {k n : Nat} {t : ad} {r : aC} (ht : BT t) (hr : rS n r) (hk : 20000 + n < k) : fu k t r = some (cond (fU n t r != 0) ([], [], fU n t r, ()) (la r, l9 r, 0, ())) ∧ bK k t r = some (cond (fU n t r != 0) ([], [], fU n t r, ()) (la r, l9 r, 0, ())) := by
 simp only [fu, bK, (mF ht hr hk).1, (mF ht hr hk).2, (tB (k := k) hr (by omega)).1, (tB (k := k) hr (by omega)).2, Option.bind_some, wW, and_self]
def lE (g : ag) (i : Int) : Int := (aB g.nodes i).getD 0
def pH (t : ad) (g : ag) (i : Int) : Int := match aB g.edges i with | some e => (t.nodes.length : Int) + e.typ | none => 0
def vl (t : ad) (g : ag) (nodes edges : List Int) : List Int := nodes.map (lE g) ++ edges.map (pH t g)
def plS (t : ad) (g : ag) (nodes edges : List Int) : List Int := fE (cG (vl t g nodes edges)) (cG (vl t g nodes edges)).length
def vR (t : ad) (g : ag) (nodes edges : List Int) (p : Nat) : List Int := cond (nodes.any (fun i => lE g i == (p : Int)) || edges.any (fun i => pH t g i == (p : Int))) [(p : Int)] []
theorem nT {f : Nat → List Int} (hf : ∀ i, f i = [(i : Int)] ∨ f i = []) : ∀ n, ((List.range n).flatMap f).Pairwise (· < ·) ∧ ∀ x ∈ (List.range n).flatMap f, x < n
 | 0 => by simp
 | n + 1 => by
  obtain ⟨h1, h2⟩ := nT hf n
  rw [List.range_succ, List.flatMap_append, show List.flatMap f [n] = f n by simp]
  rcases hf n with e | e
  ·rw [e]
   refine ⟨List.pairwise_append.2 ⟨h1, by simp, fun a ha b hb => ?_⟩, fun x hx => ?_⟩
   ·simp at hb; subst hb; exact h2 a ha
   ·rcases List.mem_append.1 hx with h | h
    ·have := h2 x h; omega
    ·simp at h; omega
  ·rw [e, List.append_nil]
   exact ⟨h1, fun x hx => by have := h2 x hx; omega⟩
theorem xW {l m : List Int} (hl : l.Pairwise (· < ·)) (hm : m.Pairwise (· < ·)) (h : ∀ x, x ∈ l ↔ x ∈ m) : l = m := by
 have nl : l.Nodup := hl.imp fun h => Int.ne_of_lt h
 have nm : m.Nodup := hm.imp fun h => Int.ne_of_lt h
 exact List.Perm.eq_of_pairwise (le := (· ≤ ·)) (fun a b _ _ h1 h2 => Int.le_antisymm h1 h2) (hl.imp fun h => Int.le_of_lt h) (hm.imp fun h => Int.le_of_lt h) ((List.perm_ext_iff_of_nodup nl nm).2 h)
theorem qp {t : ad} {g : ag} (h : jN t g) {nodes edges : List Int} (hn : ∀ x ∈ nodes, 0 ≤ x ∧ x < g.nodes.length) (he : ∀ x ∈ edges, 0 ≤ x ∧ x < g.edges.length) :
  (List.range (t.nodes.length + t.edges.length)).flatMap (vR t g nodes edges) = plS t g nodes edges := by
 have hs := gJ (vl t g nodes edges)
 refine xW (nT (fun i => ?_) _).1 (nG (lp _) _ (Nat.le_refl _)) fun x => ?_
 ·unfold vR; cases (nodes.any (fun j => lE g j == (i : Int)) || edges.any (fun j => pH t g j == (i : Int))) <;> simp
 ·have m1 : x ∈ plS t g nodes edges ↔ x ∈ vl t g nodes edges := by
   rw [← hs.mem_iff]
   constructor
   ·intro hx
    have := (lu _ _ (Nat.le_refl _)).subset hx
    rwa [List.take_length] at this
   ·exact wC
  rw [m1]
  have ran : ∀ x ∈ vl t g nodes edges, 0 ≤ x ∧ x < (t.nodes.length + t.edges.length : Nat) := by
   intro x hx
   rcases List.mem_append.1 hx with h1 | h1
   ·obtain ⟨i, hi, rfl⟩ := List.mem_map.1 h1
    obtain ⟨y, y1, _, y3⟩ := bl (hn i hi).1 (hn i hi).2
    have := ma h y3
    simp [kw] at this
    simp only [lE, y1, Option.getD_some]; omega
   ·obtain ⟨i, hi, rfl⟩ := List.mem_map.1 h1
    obtain ⟨y, y1, _, y3⟩ := bl (he i hi).1 (he i hi).2
    have := (qe h.ty).2 y y3
    have := h.gr.edge y y3
    simp only [pH, y1]; omega
  constructor
  ·intro hx
   obtain ⟨p, hp, hx⟩ := List.mem_flatMap.1 hx
   unfold vR at hx
   cases hc : (nodes.any (fun i => lE g i == (p : Int)) || edges.any (fun i => pH t g i == (p : Int))) with
   | false => rw [hc] at hx; simp at hx
   | true =>
    rw [hc] at hx
    simp at hx
    subst hx
    rcases Bool.or_eq_true_iff.1 hc with h1 | h1
    ·obtain ⟨i, hi, e⟩ := List.any_eq_true.1 h1
     exact List.mem_append_left _ (List.mem_map.2 ⟨i, hi, by simpa using e⟩)
    ·obtain ⟨i, hi, e⟩ := List.any_eq_true.1 h1
     exact List.mem_append_right _ (List.mem_map.2 ⟨i, hi, by simpa using e⟩)
  ·intro hx
   obtain ⟨r1, r2⟩ := ran x hx
   refine List.mem_flatMap.2 ⟨x.toNat, by simp; omega, ?_⟩
   have e : ((x.toNat : Nat) : Int) = x := by omega
   have hc : (nodes.any (fun i => lE g i == ((x.toNat : Nat) : Int)) || edges.any (fun i => pH t g i == ((x.toNat : Nat) : Int))) = true := by
    rw [e, Bool.or_eq_true_iff]
    rcases List.mem_append.1 hx with h1 | h1
    ·obtain ⟨i, hi, e⟩ := List.mem_map.1 h1
     exact .inl (List.any_eq_true.2 ⟨i, hi, by simpa using e⟩)
    ·obtain ⟨i, hi, e⟩ := List.mem_map.1 h1
     exact .inr (List.any_eq_true.2 ⟨i, hi, by simpa using e⟩)
   rw [vR, hc, cond_true, e]; simp
theorem yX {k : Nat} {t : ad} {g : ag} (h : jN t g) {nodes edges : List Int} (hn : ∀ x ∈ nodes, 0 ≤ x ∧ x < g.nodes.length) (he : ∀ x ∈ edges, 0 ≤ x ∧ x < g.edges.length) (ln : nodes.length ≤ 200) (le : edges.length ≤ 200) (hk : 20000 < k) :
  layering_places k t g nodes edges = some (plS t g nodes edges, ()) := by
 have hT := h.ok.n
 have hTE := h.ok.e
 have l1 := gY (F := layering_places.l0 edges t g nodes nodes.length) nodes.length (fun i => (nodes[i]?).elim [] fun x => [lE g x]) (fun acc => some (edges, t, g, acc, ())) [] (nodes.length + 1) (fun n acc => by simp only [layering_places.l0, ar, cond_false]) (fun n acc i hi hacc => by
  have hx : nodes[i]? = some nodes[i] := List.getElem?_eq_getElem hi
  obtain ⟨y, y1, _, y3⟩ := bl (hn _ (List.getElem_mem hi)).1 (hn _ (List.getElem_mem hi)).2
  have hb : acc.length ≤ 1 * i := by rw [hacc, List.nil_append]; exact cy (fun j => by cases nodes[j]? <;> simp) i
  simp only [layering_places.l0, aL hi, cond_true, idx_some hx, hx, lE, y1, Option.bind_some, Option.getD_some, Option.elim, List.length_cons, List.length_nil, Nat.zero_add, aR (show acc.length + 1 ≤ 1000000 by omega), wS (show i < 4611686018427387904 by omega)]) (by omega)
 have l2 := gY (F := layering_places.l2 t g edges edges.length) edges.length (fun i => (edges[i]?).elim [] fun x => [pH t g x]) (fun acc => some (acc, ())) (nodes.map (lE g)) (edges.length + 1) (fun n acc => by simp only [layering_places.l2, ar, cond_false]) (fun n acc i hi hacc => by
  have hx : edges[i]? = some edges[i] := List.getElem?_eq_getElem hi
  obtain ⟨y, y1, _, y3⟩ := bl (he _ (List.getElem_mem hi)).1 (he _ (List.getElem_mem hi)).2
  have hr := (qe h.ty).2 y y3
  have hr' := h.gr.edge y y3
  have hb : acc.length ≤ 200 + 1 * i := by
   have := cy (f := fun i => (edges[i]?).elim [] fun x => [pH t g x]) (c := 1) (fun j => by cases edges[j]? <;> simp) i
   rw [hacc, List.length_append, List.length_map]; omega
  have ew : IntKind.i64.wrap ((t.nodes.length : Int) + y.typ) = (t.nodes.length : Int) + y.typ := jE (by omega) (by omega)
  simp only [layering_places.l2, aL hi, cond_true, idx_some hx, hx, pH, y1, ew, Option.bind_some, Option.elim, List.length_cons, List.length_nil, Nat.zero_add, aR (show acc.length + 1 ≤ 1000000 by omega), wS (show i < 4611686018427387904 by omega)]) (by omega)
 rw [gz (lE g), List.nil_append] at l1
 rw [gz (pH t g)] at l2
 have hl : (vl t g nodes edges).length ≤ 400 := by simp [vl]; omega
 have hs := (gJ (vl t g nodes edges)).length_eq
 obtain ⟨r, r1, r2⟩ := n5 (k := k) (s := cG (vl t g nodes edges)) (by omega) (by omega)
 have hm : (fE (cG (vl t g nodes edges)) (cG (vl t g nodes edges)).length).length ≤ r.length := by
  have := congrArg List.length r2
  rw [List.length_take] at this; omega
 have z : Int.toNat 0 = 0 := rfl
 simp only [layering_places, l1, l2, Option.bind_some, slices_Sort_int, show List.map (lE g) nodes ++ List.map (pH t g) edges = vl t g nodes edges from rfl, aR (show (vl t g nodes edges).length ≤ 1000000 by omega), cond_true, r1, z, Int.toNat_natCast, AU, sN hm, Bool.and_self, qS, r2]
 rfl
theorem pU {α : Type} (p : α → Bool) : ∀ (l : List α) (s : Bool), l.foldl (fun s x => cond s true (p x)) s = (s || l.any p)
 | [], s => by simp
 | x :: l, s => by
  rw [List.foldl_cons, pU p l, List.any_cons]
  cases s <;> simp
theorem w8 {k : Nat} {t : ad} {g : ag} (h : jN t g) {nodes edges : List Int} (hn : ∀ x ∈ nodes, 0 ≤ x ∧ x < g.nodes.length) (he : ∀ x ∈ edges, 0 ≤ x ∧ x < g.edges.length) (ln : nodes.length ≤ 200) (le : edges.length ≤ 200) (hk : 20000 < k) :
  scarfjointref40_places k t g nodes edges = some (plS t g nodes edges, ()) := by
 have hT := h.ok.n
 have hTE := h.ok.e
 have l2 : ∀ (acc : List Int) (p : Nat) (s : Bool), _ := fun acc p s => qT (F := scarfjointref40_places.l2 nodes edges t g acc p) nodes (fun s => some (nodes, edges, t, g, acc, (p : Int), s, ())) (fun x s => cond s true (lE g x == (p : Int))) k s (fun n s => by simp only [scarfjointref40_places.l2, ar, cond_false]) (fun n s i x hx => by
  obtain ⟨y, y1, _, y3⟩ := bl (hn _ (cm hx)).1 (hn _ (cm hx)).2
  simp only [scarfjointref40_places.l2, aL (aM hx), cond_true, idx_some hx, y1, lE, Option.getD_some, Option.bind_some, eY, wS (show i < 4611686018427387904 by have := aM hx; omega)]) (by omega)
 have l4 : ∀ (acc : List Int) (p : Nat) (s : Bool), _ := fun acc p s => qT (F := scarfjointref40_places.l4 nodes edges t g acc p) edges (fun s => some (nodes, edges, t, g, acc, (p : Int), s, ())) (fun x s => cond s true (pH t g x == (p : Int))) k s (fun n s => by simp only [scarfjointref40_places.l4, ar, cond_false]) (fun n s i x hx => by
  obtain ⟨y, y1, _, y3⟩ := bl (he _ (cm hx)).1 (he _ (cm hx)).2
  have hr := (qe h.ty).2 y y3
  have hr' := h.gr.edge y y3
  have ew : IntKind.i64.wrap ((t.nodes.length : Int) + y.typ) = (t.nodes.length : Int) + y.typ := jE (by omega) (by omega)
  simp only [scarfjointref40_places.l4, aL (aM hx), cond_true, idx_some hx, y1, pH, ew, Option.bind_some, eY, wS (show i < 4611686018427387904 by have := aM hx; omega)]) (by omega)
 have ew : IntKind.i64.wrap ((t.nodes.length : Int) + (t.edges.length : Int)) = ((t.nodes.length + t.edges.length : Nat) : Int) := nY (by omega)
 have l0 := gY (F := fun n acc i => scarfjointref40_places.l0 k n nodes edges t g acc i) (t.nodes.length + t.edges.length) (vR t g nodes edges) (fun acc => some (acc, ())) [] k (fun n acc => by simp only [scarfjointref40_places.l0, ew, ar, cond_false]) (fun n acc i hi hacc => by
  have hb : acc.length ≤ 1 * i := by
   rw [hacc, List.nil_append]; exact cy (fun j => by unfold vR; cases (nodes.any (fun i => lE g i == (j : Int)) || edges.any (fun i => pH t g i == (j : Int))) <;> simp) i
  simp only [scarfjointref40_places.l0, ew, aL hi, cond_true, l2 acc i false, l4 acc i, pU (fun x => lE g x == (i : Int)), pU (fun x => pH t g x == (i : Int)), Bool.false_or, Option.bind_some, List.length_cons, List.length_nil, Nat.zero_add, aR (show acc.length + 1 ≤ 1000000 by omega), wS (show i < 4611686018427387904 by omega), vR]
  cases (nodes.any (fun j => lE g j == (i : Int)) || edges.any (fun j => pH t g j == (i : Int))) <;> simp) (by omega)
 rw [scarfjointref40_places, l0, List.nil_append, qp h hn he]
 rfl
end Go.Ev.Pl
end
section
set_option linter.unusedVariables false
namespace Go.Ev.Pl
def oh (t : ad) (x : Int) : Bool := t.nodes.any fun n => n.parent == x
theorem uM {t : ad} {x : Int} : ∀ n j, x ∈ qF n t j → j = x ∨ oh t x = true
 | 0, j, h => by simp [qF] at h
 | n + 1, j, h => by
  rw [qF] at h
  cases hd : decide (j < 0) with
  | true => rw [hd] at h; simp at h
  | false =>
   rw [hd, cond_false] at h
   cases hi : aB t.nodes j with
   | none => rw [hi] at h; simp at h
   | some y =>
    rw [hi] at h
    rcases List.mem_cons.1 h with e | h'
    ·exact .inl e.symm
    ·rcases uM n y.parent h' with e | e
     ·exact .inr (List.any_eq_true.2 ⟨y, sC hi, by simpa using e⟩)
     ·exact .inr e
theorem uX {t : ad} (ht : vF t) {x : Int} (hx : kw t x = true) : decide ((((List.range t.nodes.length).flatMap fun (j : Nat) => cond (qv t j x) [(j : Int)] []).length : Int) > 1) = oh t x := by
 have hn := ht.n
 simp [kw] at hx
 generalize hL : (List.range t.nodes.length).flatMap (fun (j : Nat) => cond (qv t j x) [(j : Int)] []) = L
 have mem : ∀ j : Nat, j < t.nodes.length → qv t j x = true → (j : Int) ∈ L := fun j hj h => by
  rw [← hL]; exact List.mem_flatMap.2 ⟨j, by simpa using hj, by rw [h]; simp⟩
 have hd : ∀ n, x ∈ qF (n + 1) t x := fun n => by
  obtain ⟨y, y1, _, _⟩ := bl hx.1 hx.2
  have : ¬ x < 0 := by omega
  simp [qF, this, y1]
 have self : qv t (x.toNat : Nat) x = true := by
  have e : ((x.toNat : Nat) : Int) = x := by omega
  rw [qv, e]; exact List.any_eq_true.2 ⟨x, hd 31, by simp⟩
 have mx := mem x.toNat (by omega) self
 have e : ((x.toNat : Nat) : Int) = x := by omega
 rw [e] at mx
 rw [Bool.eq_iff_iff, decide_eq_true_iff]
 constructor
 ·intro h
  have : ∃ y ∈ L, y ≠ x := by
   apply Classical.byContradiction
   intro hno
   have all : ∀ y ∈ L, y = x := fun y hy => Classical.byContradiction fun h2 => hno ⟨y, hy, h2⟩
   have pw := (nT (f := fun j => cond (qv t j x) [(j : Int)] []) (fun i => by cases qv t i x <;> simp) t.nodes.length).1
   rw [hL] at pw
   match L, pw, h, all with
   | [], _, h, _ => simp at h
   | [a], _, h, _ => simp at h
   | a :: b :: r, pw, _, all =>
    have h1 := all a (by simp)
    have h2 := all b (by simp)
    have := (List.pairwise_cons.1 pw).1 b (by simp)
    omega
  obtain ⟨y, hy, hne⟩ := this
  rw [← hL] at hy
  obtain ⟨j, hj, hy⟩ := List.mem_flatMap.1 hy
  cases hi : qv t j x with
  | false => rw [hi] at hy; simp at hy
  | true =>
   rw [hi] at hy
   simp at hy
   obtain ⟨z, z1, z2⟩ := List.any_eq_true.1 hi
   have z3 : x = z := by simpa using z2
   subst z3
   rcases uM 32 (j : Int) z1 with e | e
   ·exact absurd (by omega) hne
   ·exact e
 ·intro h
  obtain ⟨m, hm, e2⟩ := List.any_eq_true.1 h
  have e2 : m.parent = x := by simpa using e2
  obtain ⟨j, hj, rfl⟩ := List.getElem_of_mem hm
  have hg : t.nodes[j]? = some t.nodes[j] := List.getElem?_eq_getElem hj
  have hp := ht.par j _ hg
  have hjx : qv t j x = true := by
   refine List.any_eq_true.2 ⟨x, ?_, by simp⟩
   have : ¬ ((j : Int) < 0) := by omega
   rw [ow, qF]
   simp only [this, decide_false, cond_false, idx_some hg, e2]
   exact List.mem_cons_of_mem _ (hd 30)
  have mj := mem j hj hjx
  match L, mx, mj with
  | [], mx, _ => simp at mx
  | [a], mx, mj => simp at mx mj; omega
  | a :: b :: r, _, _ => simp; omega
theorem xe {k : Nat} {t : ad} (ht : vF t) (h0 : jr t = 0) {x : Int} (hx : kw t x = true) (hk : 20000 < k) : scarfjointref04_Below k t x = some ((List.range t.nodes.length).flatMap (fun (j : Nat) => cond (qv t j x) [(j : Int)] []), 0, ()) := by
 have hn := ht.n
 have hx' := hx
 simp [kw] at hx'
 have l1 := gY (F := scarfjointref04_Below.l0 k x t) t.nodes.length (fun (j : Nat) => cond (qv t j x) [(j : Int)] []) (fun acc => some (acc, ())) [] k (fun n acc => by simp only [scarfjointref04_Below.l0, ar, cond_false]) (fun n acc i hi hacc => by
  have hb : acc.length ≤ 1 * i := by rw [hacc, List.nil_append]; exact cy (fun j => by cases qv t j x <;> simp) i
  have hin : kw t i = true := by simp [kw]; omega
  simp only [scarfjointref04_Below.l0, aL hi, cond_true, nK ht hk hin hx'.1, Option.bind_some, List.length_cons, List.length_nil, Nat.zero_add, aR (show acc.length + 1 ≤ 1000000 by omega), wS (show i < 4611686018427387904 by omega)]
  cases qv t i x <;> simp) (by omega)
 simp only [scarfjointref04_Below, m3 ht.b (show 2000 < k by omega), h0, hx, bne_self_eq_false, cond_false, Bool.not_true, Bool.or_self, Option.bind_some, l1, List.nil_append]
def gB (n : Nat) (t : ad) (r : aC) : Int := cond (fU n t r != 0) (fU n t r) (cond ((gS r).any fun i => oh t (lE r.left.graph i)) 13 0)
def cg (t : ad) (r : aC) : a8 := ⟨plS t r.left.graph (gS r) (lV r), plS t r.right.graph (la r) (l9 r)⟩
def AS (n : Nat) (t : ad) (r : aC) : a8 := cond (gB n t r != 0) ⟨[], []⟩ (cg t r)
theorem Ay {k n : Nat} {t : ad} {r : aC} (ht : BT t) (hr : rS n r) (hk : 20000 + n < k) : layering_of k t r = some (AS n t r, gB n t r, ()) := by
 simp only [layering_of, (th ht hr hk).1, Option.bind_some, AS, gB]
 cases h1 : (fU n t r != 0) with
 | true => simp only [cond_true, h1]
 | false =>
  have ok := ns (n := n) ht (show fU n t r = 0 by simpa using h1)
  have d1 := eD r.keep.nodes r.left.graph.nodes.length
  have d2 := eD r.keep.edges r.left.graph.edges.length
  have d3 := eD r.into.nodes r.right.graph.nodes.length
  have d4 := eD r.into.edges r.right.graph.edges.length
  have b1 := hr.left.g.n
  have b2 := hr.left.g.e
  have b3 := hr.right.g.n
  have b4 := hr.right.g.e
  have tn := ok.left.ok.n
  have l1 := bP (F := layering_of.l0 t r [] [] (gS r) (lV r) (gS r).length) (gS r) (t, r, ([], [], ()), gS r, lV r, ()) (fun _ x => cond (oh t (lE r.left.graph x)) (some (([], [], ()), 13, ())) none) ((gS r).length + 1) (fun m => by simp only [layering_of.l0, ar, cond_false]) (fun m i x hx _ => by
   have hi := aM hx
   have hm := bM (cm hx)
   obtain ⟨y, y1, _, y3⟩ := bl hm.1 hm.2
   have hil : (gS r).length ≤ 200 := by simp only [gS]; omega
   have c1 := bF (l := t.nodes) (q := fun z6 => eW z6.1 r x) (p := fun m => m.parent == y) (fun z _ => by simp only [eW, y1, Option.bind_some]) (cP (m := 12) tn (by omega))
   simp only [layering_of.l0, aL hi, ig, Bool.and_true, cond_true, Int.toNat_natCast, fg hx, yY, c1, Option.bind_some, lE, y1, Option.getD_some, oh, cY, wS (show i < 4611686018427387904 by omega)]) (by omega)
  rw [bS (fun x => oh t (lE r.left.graph x))] at l1
  simp only [cond_false, Int.toNat_natCast, bne_self_eq_false, l1, Option.bind_some, fD]
  cases h2 : ((gS r).any fun i => oh t (lE r.left.graph i)) with
  | true => rfl
  | false =>
   simp only [cond_false, aJ, (vU ht hr hk).1, h1, Option.bind_some, yX ok.left (nodes := gS r) (edges := lV r) (k := k) (fun x hx => bM hx) (fun x hx => bM hx) (by simp only [gS]; omega) (by simp only [lV]; omega) (by omega),
    yX ok.right (nodes := la r) (edges := l9 r) (k := k) (fun x hx => bM hx) (fun x hx => bM hx) (by simp only [la]; omega) (by simp only [l9]; omega) (by omega)]
   rfl
def j9 (n : Nat) (t : ad) (rs : List aC) : Int := cond (jr t != 0) (jr t) (cond (decide ((rs.length : Int) > 6)) 3 (jv (bO (fun _ r => cond (gB n t r != 0) (some (gB n t r, ())) none) rs)))
theorem ox {α β : Type} (f : α → β) : ∀ (l : List α) (s : List β), l.foldl (fun s x => s ++ [f x]) s = s ++ l.map f
 | [], s => by simp
 | x :: l, s => by rw [List.foldl_cons, ox f l]; simp
theorem vy {α B B' : Type} (h : B → B') (p : α → Bool) (v : α → B) (l : List α) : bO (fun _ x => cond (p x) (some (h (v x))) none) l = (bO (fun _ x => cond (p x) (some (v x)) none) l).map h := by
 unfold bO
 generalize 0 = i
 generalize l.length = c
 induction c generalizing i with
 | zero => rfl
 | succ c ih =>
  rw [ce, ce]
  cases l[i]? with
  | none => exact ih (i + 1)
  | some x =>
   simp only [Option.bind_some]
   cases p x with
   | true => rfl
   | false => exact ih (i + 1)
theorem mH {k n : Nat} {t : ad} {rs : List aC} (ht : BT t) (hr : ∀ r ∈ rs, rS n r) (hl : rs.length ≤ 1000) (hk : 20000 + n < k) :
  layering_given k t rs = some (cond (j9 n t rs != 0) [] (rs.map (cg t)), j9 n t rs, ()) := by
 have L := wo (F := layering_given.l0 k t rs rs.length) rs (fun s => (s, ())) (fun r => cond (gB n t r != 0) (some (([] : List a8), gB n t r, ())) none) (fun r s => s ++ [AS n t r]) (fun i s => s.length = i) (rs.length + 1) [] rfl
  (fun m s _ => by simp only [layering_given.l0, ar, cond_false]) (fun m s i x hx hs => by
   have hi := aM hx
   simp only [layering_given.l0, aL hi, cond_true, idx_some hx, Ay ht (hr x (cm hx)) hk, Option.bind_some, List.length_cons, List.length_nil, Nat.zero_add, aR (show s.length + 1 ≤ 1000000 by omega), cY, wS (show i < 4611686018427387904 by omega)]) (fun s i x _ _ h => by simp [h]) (by omega)
 rw [ox, vy (fun e => (([] : List a8), e)) (fun r => gB n t r != 0) (fun r => (gB n t r, ()))] at L
 simp only [layering_given, (gT ht (show 2000 < k by omega)).1, Option.bind_some, j9, Int.toNat_natCast, L]
 cases h0 : (jr t != 0) with
 | true => simp only [cond_true, h0]
 | false =>
  cases decide ((rs.length : Int) > 6) with
  | true => rfl
  | false =>
   simp only [cond_false]
   cases hf : bO (fun _ r => cond (gB n t r != 0) (some (gB n t r, ())) none) rs with
   | some z =>
    have : (z.1 != 0) = true := by
     obtain ⟨j, _, _, j3, _⟩ := cO hf
     obtain ⟨x, _, j5⟩ := Option.bind_eq_some_iff.1 j3
     dsimp only at j5
     cases hc : (gB n t x != 0) with
     | false => rw [hc] at j5; cases j5
     | true => rw [hc] at j5; cases j5; exact hc
    simp only [Option.map_some, Option.elim, aJ, jv, this, cond_true]
   | none =>
    simp only [Option.map_none, Option.elim, aJ, jv, bne_self_eq_false, cond_false, List.nil_append]
    congr 2
    refine List.map_congr_left fun r hr => ?_
    obtain ⟨i, hi, rfl⟩ := List.getElem_of_mem hr
    have := AC (dU.1 hf i _ (List.getElem?_eq_getElem hi))
    simp only [AS, this, bne_self_eq_false, cond_false]
theorem tJ {k n : Nat} {t : ad} {rs : List aC} (ht : BT t) (hr : ∀ r ∈ rs, rS n r) (hl : rs.length ≤ 1000) (hk : 20000 + n < k) : scarfjointref40_Given k t rs = some (j9 n t rs, ()) := by
 simp only [scarfjointref40_Given, (gT ht (show 2000 < k by omega)).2, Option.bind_some, j9]
 cases h0 : (jr t != 0) with
 | true => rfl
 | false =>
  cases decide ((rs.length : Int) > 6) with
  | true => rfl
  | false =>
   have t0 : jr t = 0 := by simpa using h0
   rw [cond_false, cond_false, bP (F := fun m i => scarfjointref40_Given.l0 k m rs t i) rs () (fun _ r => cond (gB n t r != 0) (some (gB n t r, ())) none) k (fun m => by simp only [scarfjointref40_Given.l0, ar, cond_false]) (fun m i x hx _ => by
    have hi := aM hx
    have hru := hr x (cm hx)
    simp only [scarfjointref40_Given.l0, aL hi, cond_true, idx_some hx, (th ht hru hk).2, Option.bind_some, gB]
    cases h1 : (fU n t x != 0) with
    | true => simp only [cond_true, h1]; rfl
    | false =>
     have ok := ns (n := n) ht (show fU n t x = 0 by simpa using h1)
     have d1 := eD x.keep.nodes x.left.graph.nodes.length
     have b1 := hru.left.g.n
     have l2 := bP (F := scarfjointref40_Given.l2 k rs t i (gS x)) (gS x) (rs, t, (i : Int), ()) (fun _ y => cond (oh t (lE x.left.graph y)) (some (13, ())) none) k (fun m => by simp only [scarfjointref40_Given.l2, ar, cond_false]) (fun m j y hy _ => by
      have hj := aM hy
      have hm := bM (cm hy)
      have hil : (gS x).length ≤ 200 := by simp only [gS]; omega
      obtain ⟨z, z1, _, z3⟩ := bl hm.1 hm.2
      have hz := ma ok.left z3
      simp only [scarfjointref40_Given.l2, aL hj, ig, Bool.and_true, cond_true, idx_some hx, Int.toNat_natCast, fg hy, z1, xe ok.left.ok t0 hz (show 20000 < k by omega), Option.bind_some, uX ok.left.ok hz, lE, Option.getD_some, cY, wS (show j < 4611686018427387904 by omega)]) (by simp only [gS]; omega)
     rw [bS (fun y => oh t (lE x.left.graph y))] at l2
     simp only [cond_false, bne_self_eq_false, l2, Option.bind_some, fD]
     cases ((gS x).any fun y => oh t (lE x.left.graph y)) with
     | true => rfl
     | false => simp only [cond_false, aJ, wS (show i < 4611686018427387904 by omega)]; rfl) (by omega)]
   exact kR _
structure se (n : Nat) (t : ad) (rs : List aC) : Prop where
 t0 : jr t = 0
 l : rs.length ≤ 6
 e : ∀ r ∈ rs, gB n t r = 0
theorem tF {n : Nat} {t : ad} {rs : List aC} (h : j9 n t rs = 0) : se n t rs := by
 obtain ⟨h1, h⟩ := vS h
 obtain ⟨h2, h⟩ := Aj h (by decide)
 refine ⟨h1, by simp at h2; omega, fun r hr => ?_⟩
 cases hf : bO (fun _ r => cond (gB n t r != 0) (some (gB n t r, ())) none) rs with
 | some z =>
  rw [hf] at h
  obtain ⟨j, _, _, j3, _⟩ := cO hf
  obtain ⟨x, _, j5⟩ := Option.bind_eq_some_iff.1 j3
  dsimp only at j5
  cases hc : (gB n t x != 0) with
  | false => rw [hc] at j5; cases j5
  | true => rw [hc] at j5; cases j5; simp only [jv] at h; simp only [bne, h] at hc; cases hc
 | none =>
  obtain ⟨i, hi, rfl⟩ := List.getElem_of_mem hr
  exact AC (dU.1 hf i _ (List.getElem?_eq_getElem hi))
theorem pm {n : Nat} {t : ad} {r : aC} (ht : BT t) (h : gB n t r = 0) : fU n t r = 0 ∧ Bc t r := by
 obtain ⟨h1, _⟩ := vS h
 exact ⟨h1, ns ht h1⟩
theorem jD {k n : Nat} {t : ad} {r : aC} (ht : BT t) (hr : rS n r) (h : gB n t r = 0) (hk : 20000 + n < k) : aI k t r = some ((cg t r).deletes, ()) ∧ bx k t r = some ((cg t r).creates, ()) := by
  obtain ⟨h1, ok⟩ := pm ht h
  have d1 := eD r.keep.nodes r.left.graph.nodes.length
  have d2 := eD r.keep.edges r.left.graph.edges.length
  have d3 := eD r.into.nodes r.right.graph.nodes.length
  have d4 := eD r.into.edges r.right.graph.edges.length
  have b1 := hr.left.g.n
  have b2 := hr.left.g.e
  have b3 := hr.right.g.n
  have b4 := hr.right.g.e
  simp only [aI, bx, (th ht hr hk).2, (vU ht hr hk).2, h1, bne_self_eq_false, cond_false, Option.bind_some, w8 ok.left (nodes := gS r) (edges := lV r) (k := k) (fun x hx => bM hx) (fun x hx => bM hx) (by simp only [gS]; omega) (by simp only [lV]; omega) (by omega),
        w8 ok.right (nodes := la r) (edges := l9 r) (k := k) (fun x hx => bM hx) (fun x hx => bM hx) (by simp only [la]; omega) (by simp only [l9]; omega) (by omega), cg, and_self]
end Go.Ev.Pl
end
section
set_option linter.unusedVariables false
namespace Go.Ev.Pl
def ml : Nat := 140737488355328
theorem n6 {α S A : Type} {F : Nat → S → Int → Option (Sum A (Bool × Unit))} (l : List α) (Q : α → Prop) (fY : Nat → S → Prop) (fin : S → A) (fuel : Nat) (s : S) (hs : fY 0 s)
  (h0 : ∀ n s, fY l.length s → F (n + 1) s (l.length : Int) = some (.inl (fin s)))
  (h1 : ∀ n s (i : Nat) x, l[i]? = some x → fY i s → F (n + 1) s (i : Int) = some (.inr (false, ())) ∨ ∃ s', fY (i + 1) s' ∧ Q x ∧ F (n + 1) s (i : Int) = F n s' ((i + 1 : Nat) : Int))
  (hf : l.length < fuel) : F fuel s 0 = some (.inr (false, ())) ∨ ∃ s', fY l.length s' ∧ F fuel s 0 = some (.inl (fin s')) ∧ ∀ x ∈ l, Q x := by
 suffices H : ∀ c i fuel s, l.length - i = c → i ≤ l.length → l.length - i < fuel → fY i s → (∀ j x, j < i → l[j]? = some x → Q x) → F fuel s (i : Int) = some (.inr (false, ())) ∨ ∃ s', fY l.length s' ∧ F fuel s (i : Int) = some (.inl (fin s')) ∧ ∀ x ∈ l, Q x from
  H _ 0 fuel s rfl (by omega) (by omega) hs (fun j x h => by omega)
 intro c
 induction c with
 | zero =>
  intro i fuel s hc hi hf hs hq
  obtain rfl : i = l.length := by omega
  cases fuel with
  | zero => omega
  | succ n =>
   refine .inr ⟨s, hs, h0 n s hs, fun x hx => ?_⟩
   obtain ⟨j, hj, rfl⟩ := List.getElem_of_mem hx
   exact hq j _ hj (List.getElem?_eq_getElem hj)
 | succ c ih =>
  intro i fuel s hc hi hf hs hq
  cases fuel with
  | zero => omega
  | succ n =>
   have hlt : i < l.length := by omega
   have hx : l[i]? = some l[i] := List.getElem?_eq_getElem hlt
   rcases h1 n s i _ hx hs with e | ⟨s', i', q', e⟩
   ·exact .inl e
   ·rw [e]
    exact ih (i + 1) n s' (by omega) (by omega) (by omega) i' fun j x h h2 => by
     by_cases e : j = i
     ·subst e; rw [hx] at h2; cases h2; exact q'
     ·exact hq j x (by omega) h2
theorem Ap {k : Nat} {t : ad} (hs : ∀ x ∈ t.nodes, x.attrs.length ≤ ml) (hk : 2000 < k) : ∃ b, scarfjointref04_Few k t = some (b, ()) ∧ (b = true → BT t) := by
 simp only [scarfjointref04_Few, eY, iM, Option.bind_some]
 cases h1 : (decide ((t.nodes.length : Int) > 20) || decide ((t.edges.length : Int) > 30)) with
 | true => exact ⟨false, rfl, fun h => by cases h⟩
 | false =>
  have b1 : t.nodes.length ≤ 20 ∧ t.edges.length ≤ 30 := by simp at h1; omega
  have L := n6 (F := fun n s i => scarfjointref04_Few.l0 k n t s i) t.nodes (fun x => x.name.size ≤ 40 ∧ x.attrs.length ≤ 30 ∧ ∀ a ∈ x.attrs, BA a) (fun _ (s : Int) => 0 ≤ s ∧ s ≤ 30) (fun s => (t, ())) k 0 (by omega) (fun n s _ => by simp only [scarfjointref04_Few.l0, ar, cond_false]) (fun n s i x hx hI => by
   have hi := aM hx
   have hax := hs x (cm hx)
   simp only [ml] at hax
   have ew : IntKind.i64.wrap (s + (x.attrs.length : Int)) = s + (x.attrs.length : Int) := jE (by omega) (by omega)
   simp only [scarfjointref04_Few.l0, aL hi, cond_true, idx_some hx, Option.bind_some, eY, iM, ew]
   cases h2 : (decide (s + (x.attrs.length : Int) > 30) || decide ((x.name.size : Int) > 40)) with
   | true => exact .inl rfl
   | false =>
    have b2 : s + (x.attrs.length : Int) ≤ 30 ∧ x.name.size ≤ 40 := by simp at h2; omega
    have L2 := n6 (F := fun n (_ : Unit) j => scarfjointref04_Few.l2 k n t (s + (x.attrs.length : Int)) i j) x.attrs BA (fun _ _ => True) (fun _ => (t, s + (x.attrs.length : Int), (i : Int), ())) k () trivial (fun n _ _ => by simp only [scarfjointref04_Few.l2, idx_some hx, Option.bind_some, ar, cond_false]) (fun n _ j a ha _ => by
     have hj := aM ha
     simp only [scarfjointref04_Few.l2, idx_some hx, idx_some ha, Option.bind_some, aL hj, cond_true, eY, iM]
     cases h3 : (decide ((a.name.size : Int) > 40) || decide ((a.names.length : Int) > 25)) with
     | true => exact .inl rfl
     | false =>
      have b3 : a.name.size ≤ 40 ∧ a.names.length ≤ 25 := by simp at h3; omega
      have L4 := n6 (F := fun n (_ : Unit) q => scarfjointref04_Few.l4 t (s + (x.attrs.length : Int)) i j a n q) a.names (fun z => z.size ≤ 40) (fun _ _ => True) (fun _ => (t, s + (x.attrs.length : Int), (i : Int), (j : Int), ())) k () trivial (fun n _ _ => by simp only [scarfjointref04_Few.l4, ar, cond_false]) (fun n _ q z hz _ => by
       simp only [scarfjointref04_Few.l4, idx_some hz, Option.bind_some, aL (aM hz), cond_true, wS (show q < 4611686018427387904 by have := aM hz; omega)]
       by_cases h4 : (z.size : Int) > 40
       ·simp [h4]
       ·refine .inr ⟨(), trivial, by omega, ?_⟩; simp [h4]) (by omega)
      simp only [cond_false]
      rcases L4 with e | ⟨_, _, e, q4⟩
      ·rw [e]; exact .inl rfl
      ·rw [e]
       refine .inr ⟨(), trivial, ⟨b3.1, b3.2, q4⟩, ?_⟩
       simp only [Option.bind_some, aJ, wS (show j < 4611686018427387904 by omega)]) (by omega)
    simp only [cond_false]
    rcases L2 with e | ⟨_, _, e, q2⟩
    ·rw [e]; exact .inl rfl
    ·rw [e]
     refine .inr ⟨s + (x.attrs.length : Int), by omega, ⟨b2.2, by omega, q2⟩, ?_⟩
     simp only [Option.bind_some, aJ, wS (show i < 4611686018427387904 by omega)]) (by omega)
  simp only [cond_false]
  rcases L with e | ⟨_, _, e, q⟩
  ·rw [e]; exact ⟨false, rfl, fun h => by cases h⟩
  ·have L6 := n6 (F := fun n (_ : Unit) j => scarfjointref04_Few.l6 t n j) t.edges (fun z => z.name.size ≤ 40) (fun _ _ => True) (fun _ => ()) k () trivial (fun n _ _ => by simp only [scarfjointref04_Few.l6, ar, cond_false]) (fun n _ j z hz _ => by
    simp only [scarfjointref04_Few.l6, idx_some hz, Option.bind_some, aL (aM hz), cond_true, wS (show j < 4611686018427387904 by have := aM hz; omega)]
    by_cases h4 : (z.name.size : Int) > 40
    ·simp [h4]
    ·refine .inr ⟨(), trivial, by omega, ?_⟩; simp [h4]) (by omega)
   rw [e]
   simp only [Option.bind_some, aJ]
   rcases L6 with e6 | ⟨_, _, e6, q6⟩
   ·rw [e6]; exact ⟨false, rfl, fun h => by cases h⟩
   ·rw [e6]
    exact ⟨true, rfl, fun _ => ⟨b1.1, b1.2, fun x hx => (q x hx).1, fun x hx => (q x hx).2.1, fun x hx => (q x hx).2.2, q6⟩⟩
theorem xa (p : ai) : ∃ b, bu p = some (b, ()) ∧ (b = true → BP p) := by
 simp only [bu, dc, eY, jO, Option.bind_some]
 refine ⟨_, rfl, fun h => ?_⟩
 simp at h
 exact ⟨⟨by omega, by omega⟩, by omega, by omega⟩
theorem yT {m : aO} (h1 : m.nodes.length ≤ ml) (h2 : m.edges.length ≤ ml) : ∃ b, bV m 140 = some (b, ()) ∧ (b = true → BM m) := by
 simp only [ml] at h1 h2
 refine ⟨_, rfl, fun h => ?_⟩
 rw [jE (by omega) (by omega)] at h
 simp at h
 exact ⟨by omega, by omega⟩
theorem AA {m : dT} (h1 : m.nodes.length ≤ ml) (h2 : m.edges.length ≤ ml) : ∃ b, db m 140 = some (b, ()) ∧ (b = true → mh m) := by
 simp only [ml] at h1 h2
 refine ⟨_, rfl, fun h => ?_⟩
 rw [jE (by omega) (by omega)] at h
 simp at h
 exact ⟨by omega, by omega⟩
inductive AG : af → Prop where
 | mk (c : af) (h1 : c.map.nodes.length ≤ ml) (h2 : c.map.edges.length ≤ ml) (h3 : c.kids.length ≤ ml) (h : ∀ d ∈ c.kids, AG d) : AG c
theorem uQ : ∀ {n n' : Nat} {c : af}, BC n c → n ≤ n' → BC n' c
 | 0, _, c, h, _ => h.elim
 | n + 1, 0, c, _, h => by omega
 | n + 1, n' + 1, c, h, hn => ⟨h.1, h.2.1, h.2.2.1, fun d hd => uQ (h.2.2.2 d hd) (by omega)⟩
theorem tU {m : Nat} {c : af} {rec_ : af → Int → Option (Int × Unit)} (hk : c.kids.length ≤ ml)
  (hr : ∀ d ∈ c.kids, ∀ q : Nat, q < m → ∃ r, rec_ d q = some (r, ()) ∧ -1 ≤ r ∧ r ≤ (q : Int) - 1 ∧ (0 ≤ r → BC m d)) :
  ∀ (fuel : Nat) (q : Int) (i : Nat), -1 ≤ q → q < m → q + 1 < fuel → i ≤ c.kids.length → (0 ≤ q → ∀ j d, j < i → c.kids[j]? = some d → BC m d) →
   ∃ r, scarfjointref22_left.l0 rec_ c fuel q i = some (r, ()) ∧ -1 ≤ r ∧ r ≤ q ∧ (0 ≤ r → (∀ d ∈ c.kids, BC m d) ∧ (c.kids.length : Int) + r ≤ i + q)
 | 0, q, i, h, _, h2, _, _ => by omega
 | fuel + 1, q, i, h, h1, h2, hi, hp => by
  simp only [ml] at hk
  by_cases hc : (i : Int) < c.kids.length ∧ q ≥ 0
  ·have hlt : i < c.kids.length := by omega
   have hx : c.kids[i]? = some c.kids[i] := List.getElem?_eq_getElem hlt
   obtain ⟨Q, rfl⟩ : ∃ Q : Nat, q = Q := ⟨q.toNat, by omega⟩
   obtain ⟨r, r1, r2, r3, r4⟩ := hr _ (List.getElem_mem hlt) Q (by omega)
   obtain ⟨z, z1, z2, z3, z4⟩ := tU (by simp only [ml]; omega) hr fuel r (i + 1) r2 (by omega) (by omega) (by omega) (fun h0 j d hj hd => by
    by_cases e : j = i
    ·subst e; rw [hx] at hd; cases hd; exact r4 h0
    ·exact hp hc.2 j d (by omega) hd)
   refine ⟨z, ?_, z2, by omega, fun h0 => ?_⟩
   ·have d1 : decide ((Q : Int) ≥ 0) = true := decide_eq_true hc.2
    simp only [scarfjointref22_left.l0, aL hlt, d1, cond_true, Option.bind_some, idx_some hx, r1, wS (show i < 4611686018427387904 by omega)]
    exact z1
   ·have := (z4 h0).2; exact ⟨(z4 h0).1, by omega⟩
  ·refine ⟨q, ?_, h, Int.le_refl _, fun h0 => ⟨fun d hd => ?_, by omega⟩⟩
   ·simp only [scarfjointref22_left.l0, eY, jO]
    have : (decide ((i : Int) < (c.kids.length : Int)) && decide (q ≥ 0)) = false := by simp; omega
    rw [this]; rfl
   ·obtain ⟨j, hj, rfl⟩ := List.getElem_of_mem hd
    exact hp h0 j _ (by omega) (List.getElem?_eq_getElem hj)
theorem ut : ∀ (m k : Nat) (c : af), m ≤ 40 → AG c → 200 + m < k → ∃ r, scarfjointref22_left k c m = some (r, ()) ∧ -1 ≤ r ∧ r ≤ (m : Int) - 1 ∧ (0 ≤ r → BC (m + 1) c)
 | m, 0, c, _, _, h => by omega
 | m, k + 1, c, hm, hs, hk => by
  cases hs with
  | mk c h1 h2 h3 h4 =>
   obtain ⟨b1, e1, p1⟩ := xa c.pattern
   obtain ⟨b2, e2, p2⟩ := yT h1 h2
   simp only [scarfjointref22_left, e1, e2, Option.bind_some, eY, iM]
   cases hb : (!b1 || !b2) with
   | true => exact ⟨-1, rfl, by omega, by omega, fun h => by omega⟩
   | false =>
    have hb' : b1 = true ∧ b2 = true := by simpa using hb
    have ew : IntKind.i64.wrap ((m : Int) - 1) = (m : Int) - 1 := jE (by omega) (by omega)
    obtain ⟨r, r1, r2, r3, r4⟩ := tU (m := m) (c := c) (rec_ := scarfjointref22_left k) h3 (fun d hd q hq => by
     obtain ⟨r, r1, r2, r3, r4⟩ := ut q k d (by omega) (h4 d hd) (by omega)
     exact ⟨r, r1, r2, r3, fun h => uQ (r4 h) (by omega)⟩) k ((m : Int) - 1) 0 (by omega) (by omega) (by omega) (by omega) (fun _ j d h => by omega)
    rw [show ((0 : Nat) : Int) = 0 from rfl] at r1
    simp only [cond_false, ew, r1, Option.bind_some]
    refine ⟨r, rfl, r2, r3, fun h => ?_⟩
    obtain ⟨z1, z2⟩ := r4 h
    exact ⟨p1 hb'.1, p2 hb'.2, by omega, z1⟩
structure AD (r : aC) : Prop where
 k1 : r.keep.nodes.length ≤ ml
 k2 : r.keep.edges.length ≤ ml
 i1 : r.into.nodes.length ≤ ml
 i2 : r.into.edges.length ≤ ml
 c : AG r.condition
theorem AJ {k : Nat} {r : aC} (hs : AD r) (hk : 20000 < k) : ∃ b, cJ k r = some (b, ()) ∧ (b = true → rS 41 r) := by
 obtain ⟨b1, e1, p1⟩ := xa r.left
 obtain ⟨b2, e2, p2⟩ := xa r.right
 obtain ⟨b3, e3, p3⟩ := AA hs.k1 hs.k2
 obtain ⟨b4, e4, p4⟩ := yT hs.i1 hs.i2
 obtain ⟨z, e5, z1, z2, p5⟩ := ut 40 k r.condition (by omega) hs.c (by omega)
 rw [show ((40 : Nat) : Int) = 40 from rfl] at e5
 simp only [cJ, dh, e1, e2, e3, e4, e5, Option.bind_some, eY, jO]
 refine ⟨_, rfl, fun h => ?_⟩
 simp at h
 exact ⟨by omega, p1 h.2.1, p2 h.2.2.1, p3 h.2.2.2.1, p4 h.2.2.2.2.1, p5 (by omega)⟩
theorem AI {k : Nat} {t : ad} {rs : List aC} (ht : ∀ x ∈ t.nodes, x.attrs.length ≤ ml) (hr : ∀ r ∈ rs, AD r) (hk : 20000 < k) : ∃ b, scarfjointref40_Few k t rs = some (b, ()) ∧ (b = true → BT t ∧ rs.length ≤ 8 ∧ ∀ r ∈ rs, rS 41 r) := by
 obtain ⟨b1, e1, p1⟩ := Ap (k := k) ht (by omega)
 simp only [scarfjointref40_Few, e1, Option.bind_some, eY, iM]
 cases hb : (!b1 || decide ((rs.length : Int) > 8)) with
 | true => exact ⟨false, rfl, fun h => by cases h⟩
 | false =>
  have hb' : b1 = true ∧ rs.length ≤ 8 := by simp at hb; exact ⟨hb.1, by omega⟩
  have L := n6 (F := fun n (_ : Unit) i => scarfjointref40_Few.l0 k rs n i) rs (rS 41) (fun _ _ => True) (fun _ => ()) k () trivial (fun n _ _ => by simp only [scarfjointref40_Few.l0, ar, cond_false]) (fun n _ i x hx _ => by
   obtain ⟨b, e, p⟩ := AJ (k := k) (hr x (cm hx)) hk
   simp only [scarfjointref40_Few.l0, aL (aM hx), cond_true, idx_some hx, e, Option.bind_some, wS (show i < 4611686018427387904 by have := aM hx; omega)]
   cases b with
   | false => exact .inl rfl
   | true => exact .inr ⟨(), trivial, p rfl, rfl⟩) (by omega)
  simp only [cond_false]
  rcases L with e | ⟨_, _, e, q⟩
  ·rw [e]; exact ⟨false, rfl, fun h => by cases h⟩
  ·rw [e]; exact ⟨true, rfl, fun _ => ⟨p1 hb'.1, hb'.2, q⟩⟩
theorem Au : bH 40000 = some (true, ()) := by kernel_rfl
end Go.Ev.Pl
end
section
namespace Go.Ev.Pl
theorem lJ {E : dD} {n : Nat} {x : ap E.C (.nm n)} (h : iT E (.nm n) x) : iT E (E.fld n) (E.proj n x) := by
 cases h; assumption
theorem bi {E : dD} {a b : Ty} {p : ap E.C a × ap E.C b} (h : iT E (.pair a b) p) : iT E a p.1 ∧ iT E b p.2 := by
 cases h; exact ⟨by assumption, by assumption⟩
theorem fP {E : dD} {e : Ty} {l : List (ap E.C e)} (h : iT E (.slice e) l) : l.length ≤ ml ∧ ∀ x ∈ l, iT E e x := by
 cases h with
 | slice _ _ hl h =>
  refine ⟨Nat.le_trans hl (by decide), fun x hx => ?_⟩
  obtain ⟨i, hi, rfl⟩ := List.getElem_of_mem hx
  exact h i _ (List.getElem?_eq_getElem hi)
theorem szT {t : ad} (h : iT env (.nm 3) t) : ∀ x ∈ t.nodes, x.attrs.length ≤ ml := by
 have h1 : iT env (.pair (.slice (.nm 1)) (.pair (.slice (.nm 2)) .unit)) (t.nodes, t.edges, ()) := lJ h
 have h2 := (fP (bi h1).1).2
 intro x hx
 have h3 : iT env (.pair .str (.pair (.int .i64) (.pair .bool (.pair (.slice (.nm 0)) .unit)))) (x.name, x.parent, x.abstract, x.attrs, ()) := lJ (h2 x hx)
 exact (fP (bi (bi (bi (bi h3).2).2).2).1).1
theorem Ba {m : aO} (h : iT env (.nm 11) m) : m.nodes.length ≤ ml ∧ m.edges.length ≤ ml := by
 have h1 : iT env (.pair (.slice (.int .i64)) (.pair (.slice (.int .i64)) .unit)) (m.nodes, m.edges, ()) := lJ h
 exact ⟨(fP (bi h1).1).1, (fP (bi (bi h1).2).1).1⟩
theorem Bj {m : dT} (h : iT env (.nm 10) m) : m.nodes.length ≤ ml ∧ m.edges.length ≤ ml := by
 have h1 : iT env (.pair (.slice (.int .i64)) (.pair (.slice (.int .i64)) .unit)) (m.nodes, m.edges, ()) := lJ h
 exact ⟨(fP (bi h1).1).1, (fP (bi (bi h1).2).1).1⟩
theorem Bb : ∀ c : af, iT env (.nm 12) c → AG c
 | ⟨kind, kids, map, pattern⟩, h => by
  have h1 : iT env (.pair (.int .i64) (.pair (.slice (.nm 12)) (.pair (.nm 11) (.pair (.nm 9) .unit)))) (kind, kids, map, pattern, ()) := lJ h
  obtain ⟨k1, k2⟩ := fP (bi (bi h1).2).1
  obtain ⟨m1, m2⟩ := Ba (bi (bi (bi h1).2).2).1
  exact .mk _ m1 m2 k1 fun d hd => Bb d (k2 d hd)
termination_by c => SizeOf.sizeOf c
decreasing_by
 have hd : d ∈ kids := hd
 have := List.sizeOf_lt_of_mem hd
 simp
 omega
theorem Bi {r : aC} (h : iT env (.nm 13) r) : AD r := by
 have h1 : iT env (.pair .str (.pair (.nm 9) (.pair (.nm 9) (.pair (.nm 10) (.pair (.nm 11) (.pair .bool (.pair (.nm 12) .unit))))))) (r.name, r.left, r.right, r.keep, r.into, r.injective, r.condition, ()) := lJ h
 have h2 := (bi (bi (bi h1).2).2).2
 obtain ⟨p1, p2⟩ := Bj (bi h2).1
 obtain ⟨m1, m2⟩ := Ba (bi (bi h2).2).1
 exact ⟨p1, p2, m1, m2, Bb _ (bi (bi (bi (bi h2).2).2).2).1⟩
theorem B1 {rs : List aC} (h : iT env (.slice (.nm 13)) rs) : ∀ r ∈ rs, AD r := fun r hr => Bi ((fP h).2 r hr)
end Go.Ev.Pl
end
section
set_option linter.unusedVariables false
namespace Go.Ev.Pl
theorem sB {α β : Type} (g : α → List β) (l : List α) : (List.range l.length).flatMap (fun i => (l[i]?).elim [] g) = l.flatMap g := by
 have h := congrArg (List.flatMap g) (m5 l)
 rw [← h, List.flatMap_assoc]
 congr 1
 funext i
 cases l[i]? <;> simp
def qP (i : Nat) (e : a8) (x : Int) : List ae := e.creates.map fun y => ⟨(i : Int), x, y, 1⟩
def xm (i : Nat) (e : a8) : List ae := e.deletes.flatMap (qP i e)
def nW (es : List a8) (i : Nat) : List ae := (es[i]?).elim [] (xm i)
def dq (es : List a8) : List ae := (List.range es.length).flatMap (nW es)
def BE (e : a8) : Prop := e.deletes.length ≤ 32 ∧ e.creates.length ≤ 32
theorem uT {t : ad} {g : ag} (h : jN t g) {nodes edges : List Int} (hn : ∀ x ∈ nodes, 0 ≤ x ∧ x < g.nodes.length) (he : ∀ x ∈ edges, 0 ≤ x ∧ x < g.edges.length) : (plS t g nodes edges).length ≤ 32 := by
 rw [← qp h hn he]
 have h1 := h.ok.n
 have h2 := h.ok.e
 have := cy (f := vR t g nodes edges) (c := 1) (fun j => by unfold vR; cases (nodes.any (fun i => lE g i == (j : Int)) || edges.any (fun i => pH t g i == (j : Int))) <;> simp) (t.nodes.length + t.edges.length)
 omega
theorem yZ {n : Nat} {t : ad} {r : aC} (ht : BT t) (h : gB n t r = 0) : BE (cg t r) := by
 obtain ⟨_, ok⟩ := pm ht h
 exact ⟨uT ok.left (fun x hx => bM hx) (fun x hx => bM hx), uT ok.right (fun x hx => bM hx) (fun x hx => bM hx)⟩
theorem mV {e : a8} (h : BE e) (i : Nat) (x : Int) : (qP i e x).length ≤ 32 := by simp only [qP, List.length_map]; exact h.2
theorem wP {e : a8} (h : BE e) (i : Nat) : (xm i e).length ≤ 1024 := by
 have h1 := h.1
 have := cy (f := fun j => (e.deletes[j]?).elim [] (qP i e)) (c := 32) (fun j => by cases e.deletes[j]? with
  | none => simp
  | some x => exact mV h i x) e.deletes.length
 rw [sB] at this
 simp only [xm]; omega
theorem mO {es : List a8} (h : ∀ e ∈ es, BE e) (i : Nat) : (nW es i).length ≤ 1024 := by
 unfold nW
 cases he : es[i]? with
 | none => simp
 | some e => exact wP (h e (cm he)) i
theorem rV {es : List a8} (h : ∀ e ∈ es, BE e) (hl : es.length ≤ 6) : (dq es).length ≤ 6144 := by
 have := cy (mO h) es.length
 simp only [dq]; omega
theorem yU {k : Nat} {es : List a8} (h : ∀ e ∈ es, BE e) (hl : es.length ≤ 6) (hk : 20000 < k) : layering_demands k es = some (dq es, ()) := by
 have l0 := gY (F := fun n acc i => layering_demands.l0 k n acc es es.length i) es.length (nW es) (fun acc => some (acc, ())) [] k (fun n acc => by simp only [layering_demands.l0, ar, cond_false]) (fun n acc i hi hacc => by
  have hx : es[i]? = some es[i] := List.getElem?_eq_getElem hi
  have hb := h _ (List.getElem_mem hi)
  have ha : acc.length ≤ 1024 * i := by rw [hacc, List.nil_append]; exact cy (mO h) i
  have hb1 := hb.1
  have hb2 := hb.2
  have l2 := gY (F := fun n acc j => layering_demands.l2 n acc i es[i] es es.length i es[i].deletes es[i].deletes.length j) es[i].deletes.length (fun j => (es[i].deletes[j]?).elim [] (qP i es[i])) (fun acc => some (acc, es, (es.length : Int), (i : Int), ())) acc k (fun n acc => by simp only [layering_demands.l2, ar, cond_false]) (fun n acc' j hj hacc' => by
   have hy : es[i].deletes[j]? = some es[i].deletes[j] := List.getElem?_eq_getElem hj
   have ha' : acc'.length ≤ 1024 * i + 32 * j := by
    have := cy (f := fun j => (es[i].deletes[j]?).elim [] (qP i es[i])) (c := 32) (fun j => by cases es[i].deletes[j]? with
     | none => simp
     | some x => exact mV hb i x) j
    rw [hacc', List.length_append]; omega
   have l4 := gY (F := layering_demands.l4 i es[i] es[i].deletes[j] es es.length i es[i].deletes es[i].deletes.length j es[i].creates es[i].creates.length) es[i].creates.length (fun q => (es[i].creates[q]?).elim [] fun y => [(⟨(i : Int), es[i].deletes[j], y, 1⟩ : ae)]) (fun acc => some (acc, (i : Int), es[i], es, (es.length : Int), (i : Int), es[i].deletes, (es[i].deletes.length : Int), (j : Int), ())) acc' (Int.toNat (es[i].creates.length : Int) + 1) (fun n acc => by simp only [layering_demands.l4, ar, cond_false]) (fun n a q hq hqa => by
    have hz : es[i].creates[q]? = some es[i].creates[q] := List.getElem?_eq_getElem hq
    have haa : a.length ≤ 1024 * i + 32 * j + 1 * q := by
     have := cy (f := fun q => (es[i].creates[q]?).elim [] fun y => [(⟨(i : Int), es[i].deletes[j], y, 1⟩ : ae)]) (c := 1) (fun q => by cases es[i].creates[q]? <;> simp) q
     rw [hqa, List.length_append]; omega
    simp only [layering_demands.l4, aL hq, cond_true, idx_some hz, hz, Option.bind_some, Option.elim, List.length_cons, List.length_nil, Nat.zero_add, aR (show a.length + 1 ≤ 1000000 by omega), wS (show q < 4611686018427387904 by omega)]) (by omega)
   rw [gz (fun y => (⟨(i : Int), es[i].deletes[j], y, 1⟩ : ae))] at l4
   simp only [layering_demands.l2, aL hj, cond_true, idx_some hy, hy, l4, Option.bind_some, Option.elim, wS (show j < 4611686018427387904 by omega)]
   rfl) (by omega)
  rw [sB] at l2
  simp only [layering_demands.l0, aL hi, cond_true, idx_some hx, l2, Option.bind_some, nW, hx, Option.elim, xm, wS (show i < 4611686018427387904 by omega)]) (by omega)
 rw [layering_demands, l0]
 rfl
theorem Ac {k n : Nat} {t : ad} {rs : List aC} (ht : BT t) (hr : ∀ r ∈ rs, rS n r) (ok : se n t rs) (hk : 20000 + n < k) : scarfjointref40_demands k t rs = some (dq (rs.map (cg t)), ()) := by
 have hl := ok.l
 have h : ∀ e ∈ rs.map (cg t), BE e := fun e he => by
  obtain ⟨r, hr, rfl⟩ := List.mem_map.1 he
  exact yZ ht (ok.e r hr)
 have l0 := gY (F := fun n acc i => scarfjointref40_demands.l0 k n rs t acc i) rs.length (nW (rs.map (cg t))) (fun acc => some (acc, ())) [] k (fun n acc => by simp only [scarfjointref40_demands.l0, ar, cond_false]) (fun n' acc i hi hacc => by
  have hx : rs[i]? = some rs[i] := List.getElem?_eq_getElem hi
  have hmem := List.getElem_mem hi
  have hb := yZ ht (ok.e _ hmem)
  have ha : acc.length ≤ 1024 * i := by rw [hacc, List.nil_append]; exact cy (mO h) i
  have hD := jD (k := k) ht (hr _ hmem) (ok.e _ hmem) hk
  have hm : (rs.map (cg t))[i]? = some (cg t rs[i]) := by simp [hx]
  generalize hE : cg t rs[i] = E at *
  have hb1 := hb.1
  have hb2 := hb.2
  have l2 := gY (F := fun n acc j => scarfjointref40_demands.l2 k n rs t acc i E.deletes E.creates j) E.deletes.length (fun j => (E.deletes[j]?).elim [] (qP i E)) (fun acc => some (rs, t, acc, (i : Int), ())) acc k (fun n acc => by simp only [scarfjointref40_demands.l2, ar, cond_false]) (fun n acc' j hj hacc' => by
   have hy : E.deletes[j]? = some E.deletes[j] := List.getElem?_eq_getElem hj
   have ha' : acc'.length ≤ 1024 * i + 32 * j := by
    have := cy (f := fun j => (E.deletes[j]?).elim [] (qP i E)) (c := 32) (fun j => by cases E.deletes[j]? with
     | none => simp
     | some x => exact mV hb i x) j
    rw [hacc', List.length_append]; omega
   have l4 := gY (F := scarfjointref40_demands.l4 rs t i E.deletes E.creates j) E.creates.length (fun q => (E.creates[q]?).elim [] fun y => [(⟨(i : Int), E.deletes[j], y, 1⟩ : ae)]) (fun acc => some (rs, t, acc, (i : Int), E.deletes, E.creates, (j : Int), ())) acc' k (fun n acc => by simp only [scarfjointref40_demands.l4, ar, cond_false]) (fun n a q hq hqa => by
    have hz : E.creates[q]? = some E.creates[q] := List.getElem?_eq_getElem hq
    have haa : a.length ≤ 1024 * i + 32 * j + 1 * q := by
     have := cy (f := fun q => (E.creates[q]?).elim [] fun y => [(⟨(i : Int), E.deletes[j], y, 1⟩ : ae)]) (c := 1) (fun q => by cases E.creates[q]? <;> simp) q
     rw [hqa, List.length_append]; omega
    simp only [scarfjointref40_demands.l4, aL hq, aL hj, ig, Bool.and_true, cond_true, Int.toNat_natCast, fg hz, fg hy, hz, Option.bind_some, Option.elim, List.length_cons, List.length_nil, Nat.zero_add, aR (show a.length + 1 ≤ 1000000 by omega), wS (show q < 4611686018427387904 by omega)]) (by omega)
   rw [gz (fun y => (⟨(i : Int), E.deletes[j], y, 1⟩ : ae))] at l4
   simp only [scarfjointref40_demands.l2, aL hj, cond_true, hy, l4, Option.bind_some, Option.elim, wS (show j < 4611686018427387904 by omega)]
   rfl) (by omega)
  rw [sB] at l2
  simp only [scarfjointref40_demands.l0, aL hi, cond_true, idx_some hx, hD.1, hD.2, l2, Option.bind_some, nW, hm, Option.elim, xm, wS (show i < 4611686018427387904 by omega)]) (by omega)
 rw [scarfjointref40_demands, l0, dq, List.length_map]
 rfl
def A5 (x y : ae) : Bool := (x.rule == y.rule) && ((x.frm == y.frm) && ((x.to == y.to) && ((x.strict == y.strict) && true)))
theorem zM (l : List ae) (x : ae) : fH l x = gl l (fun y => some (A5 x y.1)) := by kernel_rfl
def nB (l : List ae) (last : ae) : Nat → ae
 | 0 => last
 | j + 1 => (l[j]?).getD last
def xl (all l : List ae) (last : ae) (i : Nat) (x : ae) : Option (Bool × Unit) := cond (!(all.any (A5 x)) || x.frm != (nB l last i).to) (some (false, ())) none
theorem AF {all l : List ae} (last : ae) (ha : all.length ≤ 10000) (hl : l.length ≤ 1000) : layering_CheckReason.l0 all l l.length (Int.toNat (l.length : Int) + 1) last.to 0 = some ((bO (xl all l last) l).elim (.inl ()) .inr) := by
 have := bP (F := fun n q => layering_CheckReason.l0 all l l.length n (nB l last q.toNat).to q) l () (xl all l last) (Int.toNat (l.length : Int) + 1) (fun n => by simp only [layering_CheckReason.l0, ar, cond_false]) (fun n i x hx _ => by
  have hi := aM hx
  have e : (nB l last (i + 1)) = x := by simp [nB, hx]
  simp only [layering_CheckReason.l0, xl, aL hi, cond_true, idx_some hx, Option.bind_some, zM, bF (l := all) (q := fun y => some (A5 x y.1)) (p := A5 x) (fun _ _ => rfl) (cP ha (by omega)), eY, iM, cY, Int.toNat_natCast, e, wS (show i < 4611686018427387904 by omega)]) (by omega)
 exact this
theorem nH {es : List a8} {y : ae} (h : y ∈ dq es) : y.strict = 1 := by
 obtain ⟨i, _, hy⟩ := List.mem_flatMap.1 h
 unfold nW at hy
 cases he : es[i]? with
 | none => rw [he] at hy; simp at hy
 | some e =>
  rw [he] at hy
  obtain ⟨x, _, hy⟩ := List.mem_flatMap.1 hy
  obtain ⟨z, _, rfl⟩ := List.mem_map.1 hy
  rfl
end Go.Ev.Pl
end
section
set_option linter.unusedVariables false
namespace Go.Ev.Pl
structure vu (P : Nat) (e : a8) : Prop where
 d : ∀ x ∈ e.deletes, 0 ≤ x ∧ x < P
 c : ∀ x ∈ e.creates, 0 ≤ x ∧ x < P
 dl : e.deletes.length ≤ 32
 cl : e.creates.length ≤ 32
theorem wQ {t : ad} {g : ag} (h : jN t g) {nodes edges : List Int} (hn : ∀ x ∈ nodes, 0 ≤ x ∧ x < g.nodes.length) (he : ∀ x ∈ edges, 0 ≤ x ∧ x < g.edges.length) : (∀ x ∈ plS t g nodes edges, 0 ≤ x ∧ x < (t.nodes.length + t.edges.length : Nat)) ∧ (plS t g nodes edges).length ≤ 32 := by
 rw [← qp h hn he]
 have h1 := h.ok.n
 have h2 := h.ok.e
 refine ⟨fun x hx => ?_, ?_⟩
 ·obtain ⟨i, hi, hx⟩ := List.mem_flatMap.1 hx
  have hi : i < t.nodes.length + t.edges.length := by simpa using hi
  unfold vR at hx
  cases hc : (nodes.any (fun j => lE g j == (i : Int)) || edges.any (fun j => pH t g j == (i : Int))) with
  | false => rw [hc] at hx; simp at hx
  | true => rw [hc] at hx; simp at hx; omega
 ·have := cy (f := vR t g nodes edges) (c := 1) (fun j => by unfold vR; cases (nodes.any (fun i => lE g i == (j : Int)) || edges.any (fun i => pH t g i == (j : Int))) <;> simp) (t.nodes.length + t.edges.length)
  omega
theorem xc {n : Nat} {t : ad} {r : aC} (ht : BT t) (h : gB n t r = 0) : vu (t.nodes.length + t.edges.length) (cg t r) := by
 obtain ⟨_, ok⟩ := pm ht h
 have h1 := wQ ok.left (nodes := gS r) (edges := lV r) (fun x hx => bM hx) (fun x hx => bM hx)
 have h2 := wQ ok.right (nodes := la r) (edges := l9 r) (fun x hx => bM hx) (fun x hx => bM hx)
 exact ⟨h1.1, h2.1, h1.2, h2.2⟩
theorem uD {n : Nat} {t : ad} {rs : List aC} (ht : BT t) (ok : se n t rs) : t.nodes.length ≤ 12 ∧ t.edges.length ≤ 20 := by
 have := kG ht ok.t0
 exact ⟨this.n, this.e⟩
theorem qi {n : Nat} {t : ad} {rs : List aC} (ht : BT t) (ok : se n t rs) : (∀ e ∈ rs.map (cg t), vu (t.nodes.length + t.edges.length) e) ∧ (rs.map (cg t)).length ≤ 6 := by
 refine ⟨fun e he => ?_, by rw [List.length_map]; exact ok.l⟩
 obtain ⟨r, hr, rfl⟩ := List.mem_map.1 he
 exact xc ht (ok.e r hr)
def aA (L : List Int) (k : Int) : Int := (aB L k).getD 0
theorem mM {L : List Int} {k : Int} (h : 0 ≤ k ∧ k < L.length) : aB L k = some (aA L k) := by
 obtain ⟨x, x1, _, _⟩ := bl h.1 h.2
 rw [aA, x1]; rfl
end Go.Ev.Pl
end
section
set_option linter.unusedVariables false
namespace Go.Ev.Pl
theorem nF {S R : Type} {F : Nat → S → Int → Option R} (N : Nat) (fY : Nat → S → Prop) (Post : R → Prop) (fuel : Nat) (s : S) (hs : fY 0 s)
  (h0 : ∀ n s, fY N s → ∃ r, F (n + 1) s (N : Int) = some r ∧ Post r)
  (h1 : ∀ n s (i : Nat), i < N → fY i s → (∃ r, F (n + 1) s (i : Int) = some r ∧ Post r) ∨ ∃ s', fY (i + 1) s' ∧ F (n + 1) s (i : Int) = F n s' ((i + 1 : Nat) : Int))
  (hf : N < fuel) : ∃ r, F fuel s 0 = some r ∧ Post r := by
 suffices H : ∀ c i fuel s, N - i = c → i ≤ N → N - i < fuel → fY i s → ∃ r, F fuel s (i : Int) = some r ∧ Post r from H _ 0 fuel s rfl (by omega) (by omega) hs
 intro c
 induction c with
 | zero =>
  intro i fuel s hc hi hf hs
  obtain rfl : i = N := by omega
  cases fuel with
  | zero => omega
  | succ n => exact h0 n s hs
 | succ c ih =>
  intro i fuel s hc hi hf hs
  cases fuel with
  | zero => omega
  | succ n =>
   rcases h1 n s i (by omega) hs with h | ⟨s', i', e⟩
   ·exact h
   ·rw [e]; exact ih (i + 1) n s' (by omega) (by omega) (by omega) i'
theorem pZ (a b : Int) : a ≤ fF a b ∧ b ≤ fF a b := by
 unfold fF; by_cases h : b > a <;> simp [h] <;> omega
theorem uC (a b : Int) : fF a b = a ∨ fF a b = b := by
 unfold fF; by_cases h : b > a <;> simp [h]
def mx (f : Int → Int) (m : Int) (l : List Int) : Int := l.foldl (fun m x => fF m (f x)) m
theorem mi (f : Int → Int) : ∀ (l : List Int) (m : Int), m ≤ mx f m l ∧ ∀ x ∈ l, f x ≤ mx f m l
 | [], m => ⟨Int.le_refl _, fun x h => by simp at h⟩
 | y :: l, m => by
  obtain ⟨h1, h2⟩ := mi f l (fF m (f y))
  have := pZ m (f y)
  show m ≤ mx f (fF m (f y)) l ∧ ∀ x ∈ y :: l, f x ≤ mx f (fF m (f y)) l
  refine ⟨by omega, fun x hx => ?_⟩
  rcases List.mem_cons.1 hx with rfl | hx
  ·omega
  ·exact h2 x hx
theorem oG (f : Int → Int) : ∀ (l : List Int) (m : Int), mx f m l = m ∨ ∃ x ∈ l, mx f m l = f x
 | [], m => .inl rfl
 | y :: l, m => by
  show mx f (fF m (f y)) l = m ∨ ∃ x ∈ y :: l, mx f (fF m (f y)) l = f x
  rcases oG f l (fF m (f y)) with h | ⟨x, hx, h⟩
  ·rcases uC m (f y) with e | e
   ·exact .inl (h.trans e)
   ·exact .inr ⟨y, by simp, h.trans e⟩
  ·exact .inr ⟨x, by simp [hx], h⟩
theorem oC (f : Int → Int) {l : List Int} {m b : Int} (hm : m ≤ b) (h : ∀ x ∈ l, f x ≤ b) : mx f m l ≤ b := by
 rcases oG f l m with e | ⟨x, hx, e⟩
 ·omega
 ·have := h x hx; omega
def put (v : Int) (M : List Int) (x : Int) : List Int := M.set x.toNat (fF (aA M x) (v + 1))
def fX (v : Int) (M : List Int) (l : List Int) : List Int := l.foldl (put v) M
theorem mA (v : Int) (M : List Int) (x : Int) : (put v M x).length = M.length := by simp [put]
theorem iA (v : Int) : ∀ (l : List Int) (M : List Int), (fX v M l).length = M.length
 | [], M => rfl
 | x :: l, M => (iA v l (put v M x)).trans (mA v M x)
theorem uP {v : Int} {M : List Int} {x p : Int} (hx : 0 ≤ x ∧ x < M.length) (hp : 0 ≤ p) : aA (put v M x) p = if p = x then fF (aA M x) (v + 1) else aA M p := by
 by_cases h : p = x
 ·subst h
  have : p.toNat < M.length := by omega
  simp [aA, aB, nth, put, hp, this]
 ·have : x.toNat ≠ p.toNat := by omega
  simp [aA, aB, nth, put, hp, h, List.getElem?_set_ne this]
theorem tO {v : Int} : ∀ {l : List Int} {M : List Int}, (∀ x ∈ l, 0 ≤ x ∧ x < M.length) → ∀ p, 0 ≤ p → aA M p ≤ aA (fX v M l) p ∧ (p ∈ l → v + 1 ≤ aA (fX v M l) p)
 | [], M, h, p, hp => ⟨Int.le_refl _, fun h => by simp at h⟩
 | x :: l, M, h, p, hp => by
  have hx := h x (by simp)
  obtain ⟨h1, h2⟩ := tO (v := v) (l := l) (M := put v M x) (fun y hy => by rw [mA]; exact h y (by simp [hy])) p hp
  have e := uP (v := v) hx hp
  have g := pZ (aA M x) (v + 1)
  show aA M p ≤ aA (fX v (put v M x) l) p ∧ _
  refine ⟨?_, fun hm => ?_⟩
  ·by_cases c : p = x
   ·subst c; rw [if_pos rfl] at e; omega
   ·rw [if_neg c] at e; omega
  ·show v + 1 ≤ aA (fX v (put v M x) l) p
   rcases List.mem_cons.1 hm with c | hm
   ·rw [if_pos c] at e; omega
   ·exact h2 hm
theorem mC {v : Int} : ∀ {l : List Int} {M : List Int}, (∀ x ∈ l, 0 ≤ x ∧ x < M.length) → ∀ p, 0 ≤ p → aA (fX v M l) p = aA M p ∨ (p ∈ l ∧ aA (fX v M l) p = v + 1)
 | [], M, h, p, hp => .inl rfl
 | x :: l, M, h, p, hp => by
  have hx := h x (by simp)
  have e := uP (v := v) hx hp
  show aA (fX v (put v M x) l) p = aA M p ∨ (p ∈ x :: l ∧ aA (fX v (put v M x) l) p = v + 1)
  rcases mC (v := v) (l := l) (M := put v M x) (fun y hy => by rw [mA]; exact h y (by simp [hy])) p hp with h1 | ⟨h1, h2⟩
  ·by_cases c : p = x
   ·rw [if_pos c] at e
    rcases uC (aA M x) (v + 1) with g | g
    ·left; rw [h1, e, g, c]
    ·right; exact ⟨by simp [c], by rw [h1, e, g]⟩
   ·rw [if_neg c] at e; left; omega
  ·exact .inr ⟨by simp [h1], h2⟩
theorem mJ {a b : List Int} (hl : a.length = b.length) (h : ∀ p : Int, 0 ≤ p → p < a.length → aA a p = aA b p) : a = b := by
 refine List.ext_getElem hl fun i h1 h2 => ?_
 have := h i (by omega) (by omega)
 have e1 : aB a (i : Int) = some a[i] := pd h1
 have e2 : aB b (i : Int) = some b[i] := pd h2
 simpa [aA, e1, e2] using this
def sL (L : List Int) (es : List a8) (M : List Int) : List Int := es.foldl (fun M e => fX (mx (aA L) 0 e.deletes) M e.creates) M
theorem tQ (L : List Int) : ∀ (es : List a8) (M : List Int), (sL L es M).length = M.length
 | [], M => rfl
 | e :: es, M => (tQ L es _).trans (iA _ _ _)
theorem qm {P : Nat} {L : List Int} : ∀ {es : List a8} {M : List Int}, (∀ e ∈ es, vu P e) → M.length = P → ∀ p, 0 ≤ p → aA M p ≤ aA (sL L es M) p ∧ ∀ e ∈ es, p ∈ e.creates → mx (aA L) 0 e.deletes + 1 ≤ aA (sL L es M) p
 | [], M, _, _, p, _ => ⟨Int.le_refl _, fun e h => by simp at h⟩
 | e :: es, M, ho, hM, p, hp => by
  obtain ⟨a1, a2⟩ := tO (v := mx (aA L) 0 e.deletes) (l := e.creates) (M := M) (by rw [hM]; exact (ho e (by simp)).c) p hp
  obtain ⟨b1, b2⟩ := qm (L := L) (es := es) (M := fX (mx (aA L) 0 e.deletes) M e.creates) (fun e h => ho e (by simp [h])) (by rw [iA, hM]) p hp
  refine ⟨Int.le_trans a1 b1, fun e' he hp' => ?_⟩
  rcases List.mem_cons.1 he with c | he
  ·subst c; exact Int.le_trans (a2 hp') b1
  ·exact b2 e' he hp'
theorem pQ {P : Nat} {L : List Int} : ∀ {es : List a8} {M : List Int}, (∀ e ∈ es, vu P e) → M.length = P → ∀ p, 0 ≤ p → aA (sL L es M) p = aA M p ∨ ∃ e ∈ es, p ∈ e.creates ∧ aA (sL L es M) p = mx (aA L) 0 e.deletes + 1
 | [], M, _, _, p, _ => .inl rfl
 | e :: es, M, ho, hM, p, hp => by
  have hM' : (fX (mx (aA L) 0 e.deletes) M e.creates).length = P := by rw [iA, hM]
  show aA (sL L es (fX (mx (aA L) 0 e.deletes) M e.creates)) p = aA M p ∨ ∃ e' ∈ e :: es, p ∈ e'.creates ∧ aA (sL L es (fX (mx (aA L) 0 e.deletes) M e.creates)) p = mx (aA L) 0 e'.deletes + 1
  rcases pQ (L := L) (es := es) (fun e h => ho e (by simp [h])) hM' p hp with h | ⟨e', he, h1, h2⟩
  ·rcases mC (v := mx (aA L) 0 e.deletes) (l := e.creates) (M := M) (by rw [hM]; exact (ho e (by simp)).c) p hp with g | ⟨g1, g2⟩
   ·exact .inl (h.trans g)
   ·exact .inr ⟨e, by simp, g1, h.trans g2⟩
  ·exact .inr ⟨e', by simp [he], h1, h2⟩
def Dm (es : List a8) (x y : Int) : Prop := ∃ e ∈ es, x ∈ e.deletes ∧ y ∈ e.creates
structure p9 (es : List a8) (f : Int → Int) : Prop where
 z : ∀ x, 0 ≤ f x
 s : ∀ x y, Dm es x y → f x + 1 ≤ f y
def J (es : List a8) (P : Nat) : Nat → List Int
 | 0 => List.replicate P 0
 | r + 1 => sL (J es P r) es (J es P r)
theorem gw (es : List a8) (P : Nat) : ∀ r, (J es P r).length = P
 | 0 => by simp [J]
 | r + 1 => by rw [J, tQ, gw es P r]
theorem Al (es : List a8) (P : Nat) (p : Int) : aA (J es P 0) p = 0 := by
 simp only [aA, aB, nth, J, List.getElem?_replicate]
 by_cases h : 0 ≤ p <;> by_cases h2 : p.toNat < P <;> simp [h, h2]
theorem eM {L : List Int} {p : Int} (h : ¬ (0 ≤ p ∧ p < L.length)) : aA L p = 0 := by
 by_cases h0 : 0 ≤ p
 ·have : L.length ≤ p.toNat := by omega
  simp [aA, aB, nth, h0, List.getElem?_eq_none this]
 ·simp [aA, aB, h0]
section
variable {es : List a8} {P : Nat} (ho : ∀ e ∈ es, vu P e)
include ho
theorem wT (r : Nat) (p : Int) : aA (J es P r) p ≤ aA (J es P (r + 1)) p := by
 by_cases h : 0 ≤ p
 ·exact (qm (L := J es P r) (M := J es P r) ho (gw es P r) p h).1
 ·rw [eM (by omega), eM (by omega)]; exact Int.le_refl _
theorem Ae (r : Nat) (p : Int) : 0 ≤ aA (J es P r) p := by
 induction r with
 | zero => rw [Al]; exact Int.le_refl _
 | succ r ih => exact Int.le_trans ih (wT ho r p)
theorem zT (hne : ∀ e ∈ es, e.deletes ≠ []) {f : Int → Int} (hf : p9 es f) : ∀ r p, aA (J es P r) p ≤ f p
 | 0, p => by rw [Al]; exact hf.z p
 | r + 1, p => by
  by_cases h : 0 ≤ p
  ·rcases pQ (L := J es P r) (M := J es P r) ho (gw es P r) p h with e | ⟨e, he, h1, h2⟩
   ·have := zT hne hf r p; rw [J, e]; exact this
   ·rw [J, h2]
    have key : mx (aA (J es P r)) 0 e.deletes + 1 ≤ f p := by
     rcases oG (aA (J es P r)) e.deletes 0 with g | ⟨x, hx, g⟩
     ·cases hd : e.deletes with
      | nil => exact absurd hd (hne e he)
      | cons x l =>
       have hx : x ∈ e.deletes := by rw [hd]; simp
       have := hf.s x p ⟨e, he, hx, h1⟩
       have := hf.z x
       rw [← hd, g]; omega
     ·have := hf.s x p ⟨e, he, hx, h1⟩
      have := zT hne hf r x
      rw [g]; omega
    exact key
  ·rw [eM (by rw [gw]; omega)]; exact hf.z p
theorem sU : ∀ r p, aA (J es P r) p < aA (J es P (r + 1)) p → aA (J es P (r + 1)) p = r + 1 ∧ (r = 0 ∨ ∃ x, Dm es x p ∧ aA (J es P (r - 1)) x < aA (J es P r) x)
 | 0, p, h => by
  have hp : 0 ≤ p := Classical.byContradiction fun c => by rw [eM (by omega), eM (by omega)] at h; omega
  rcases pQ (L := J es P 0) (M := J es P 0) ho (gw es P 0) p hp with e | ⟨e, he, h1, h2⟩
  ·rw [show aA (J es P (0 + 1)) p = aA (sL (J es P 0) es (J es P 0)) p from rfl, e] at h; omega
  ·refine ⟨?_, .inl rfl⟩
   rw [J, h2]
   rcases oG (aA (J es P 0)) e.deletes 0 with g | ⟨x, hx, g⟩
   ·rw [g]; rfl
   ·rw [g, Al]; rfl
 | r + 1, p, h => by
  have hp : 0 ≤ p := Classical.byContradiction fun c => by rw [eM (by rw [gw]; omega), eM (by rw [gw]; omega)] at h; omega
  rcases pQ (L := J es P (r + 1)) (M := J es P (r + 1)) ho (gw es P (r + 1)) p hp with e | ⟨e, he, h1, h2⟩
  ·rw [show aA (J es P (r + 1 + 1)) p = aA (sL (J es P (r + 1)) es (J es P (r + 1))) p from rfl, e] at h; omega
  ·have h3 : aA (J es P (r + 1 + 1)) p = mx (aA (J es P (r + 1))) 0 e.deletes + 1 := h2
   have h4 : mx (aA (J es P r)) 0 e.deletes + 1 ≤ aA (J es P (r + 1)) p := (qm (L := J es P r) (M := J es P r) ho (gw es P r) p hp).2 e he h1
   have h5 := mi (aA (J es P r)) e.deletes 0
   rcases oG (aA (J es P (r + 1))) e.deletes 0 with g | ⟨x, hx, g⟩
   ·omega
   ·have h6 := h5.2 x hx
    have hlt : aA (J es P r) x < aA (J es P (r + 1)) x := by omega
    have := (sU r x hlt).1
    refine ⟨by rw [h3, g, this]; push_cast; rfl, .inr ⟨x, ⟨e, he, hx, h1⟩, hlt⟩⟩
theorem zV : ∀ r p, aA (J es P r) p ≤ r
 | 0, p => by rw [Al]; exact Int.le_refl _
 | r + 1, p => by
  by_cases h : aA (J es P r) p < aA (J es P (r + 1)) p
  ·rw [(sU ho r p h).1]; push_cast; exact Int.le_refl _
  ·have := zV r p; push_cast; omega
theorem iu {r : Nat} (h : J es P (r + 1) = J es P r) : p9 es (aA (J es P r)) := by
 refine ⟨Ae ho r, fun x y hd => ?_⟩
 obtain ⟨e, he, h1, h2⟩ := hd
 have hy := (ho e he).c y h2
 have h3 : mx (aA (J es P r)) 0 e.deletes + 1 ≤ aA (J es P (r + 1)) y := (qm (L := J es P r) (M := J es P r) ho (gw es P r) y hy.1).2 e he h2
 have h4 := (mi (aA (J es P r)) e.deletes 0).2 x h1
 rw [h] at h3; omega
end
inductive Wk (es : List a8) : Int → Int → Nat → Prop
 | nil (x : Int) : Wk es x x 0
 | step {x y z : Int} {n : Nat} (h : Wk es x y n) (d : Dm es y z) : Wk es x z (n + 1)
theorem Wk.pot {es : List a8} {f : Int → Int} (hf : p9 es f) {x y : Int} {n : Nat} (h : Wk es x y n) : f x + n ≤ f y := by
 induction h with
 | nil => simp
 | step h d ih => have := hf.s _ _ d; push_cast; omega
theorem uB : ∀ (P : Nat) (g : Nat → Nat), (∀ i, i ≤ P → g i < P) → ¬ ∀ i j, i ≤ P → j ≤ P → g i = g j → i = j
 | 0, g, hg, _ => by have := hg 0 (by omega); omega
 | P + 1, g, hg, inj => by
  refine uB P (fun i => if g i = P then g (P + 1) else g i) (fun i hi => ?_) (fun i j hi hj e => ?_)
  ·have h1 := hg i (by omega)
   have h2 := hg (P + 1) (by omega)
   have h3 := inj i (P + 1) (by omega) (by omega)
   split <;> omega
  ·have h1 := inj i j (by omega) (by omega)
   have h2 := inj i (P + 1) (by omega) (by omega)
   have h3 := inj j (P + 1) (by omega) (by omega)
   have h4 := inj (P + 1) i (by omega) (by omega)
   split at e <;> split at e <;> omega
theorem zE {P : Nat} (g : Nat → Int) (hg : ∀ i, i ≤ P → 0 ≤ g i ∧ g i < P) : ∃ i j, i < j ∧ j ≤ P ∧ g i = g j := by
 apply Classical.byContradiction
 intro hno
 refine uB P (fun i => (g i).toNat) (fun i hi => by have := hg i hi; omega) fun i j hi hj e => Classical.byContradiction fun hne => ?_
 have h1 := hg i hi
 have h2 := hg j hj
 rcases Nat.lt_or_gt_of_ne hne with h | h
 ·exact hno ⟨i, j, h, hj, by omega⟩
 ·exact hno ⟨j, i, h, hi, by omega⟩
end Go.Ev.Pl
end
section
set_option linter.unusedVariables false
namespace Go.Ev.Pl
theorem zj {es : List a8} {f : Int → Int} (hf : p9 es f) {e : a8} (he : e ∈ es) (hd : e.deletes ≠ []) {p : Int} (hp : p ∈ e.creates) : mx f 0 e.deletes + 1 ≤ f p := by
 rcases oG f e.deletes 0 with g | ⟨x, hx, g⟩
 ·cases hd' : e.deletes with
  | nil => exact absurd hd' hd
  | cons x l =>
   have hx : x ∈ e.deletes := by rw [hd']; simp
   have := hf.s x p ⟨e, he, hx, hp⟩
   have := hf.z x
   rw [← hd', g]; omega
 ·have := hf.s x p ⟨e, he, hx, hp⟩
  rw [g]; omega
theorem qB {es : List a8} {P : Nat} (ho : ∀ e ∈ es, vu P e) : ∀ r p, aA (J es P r) p < aA (J es P (r + 1)) p → ∃ g : Nat → Int, g r = p ∧ (∀ i, i < r → Dm es (g i) (g (i + 1))) ∧ ∀ i, i ≤ r → 0 ≤ g i ∧ g i < P
 | 0, p, h => by
  have hp : 0 ≤ p ∧ p < P := Classical.byContradiction fun c => by rw [eM (by rw [gw]; omega), eM (by rw [gw]; omega)] at h; omega
  exact ⟨fun _ => p, rfl, fun i hi => by omega, fun i _ => hp⟩
 | r + 1, p, h => by
  have hp : 0 ≤ p ∧ p < P := Classical.byContradiction fun c => by rw [eM (by rw [gw]; omega), eM (by rw [gw]; omega)] at h; omega
  rcases (sU ho (r + 1) p h).2 with c | ⟨x, d, hx⟩
  ·omega
  ·obtain ⟨g, g1, g2, g3⟩ := qB ho r x hx
   refine ⟨fun i => if i = r + 1 then p else g i, by simp, fun i hi => ?_, fun i hi => ?_⟩
   ·by_cases c : i = r
    ·subst c
     have : i ≠ i + 1 := by omega
     simp only [this, if_false, if_true, g1]; exact d
    ·have h1 : i ≠ r + 1 := by omega
     have h2 : i + 1 ≠ r + 1 := by omega
     simp only [h1, h2, if_false]; exact g2 i (by omega)
   ·by_cases c : i = r + 1
    ·simp only [c, if_true]; exact hp
    ·simp only [c, if_false]; exact g3 i (by omega)
theorem sH {es : List a8} {P : Nat} (ho : ∀ e ∈ es, vu P e) : J es P (P + 1) = J es P P ∨ ∃ x n, 0 < n ∧ n ≤ P ∧ Wk es x x n := by
 by_cases h : ∃ p, aA (J es P P) p < aA (J es P (P + 1)) p
 ·obtain ⟨p, h⟩ := h
  obtain ⟨g, _, g2, g3⟩ := qB ho P p h
  obtain ⟨i, j, h1, h2, h3⟩ := zE g g3
  have wk : ∀ n, i + n ≤ P → Wk es (g i) (g (i + n)) n := by
   intro n
   induction n with
   | zero => intro _; exact .nil _
   | succ n ih => intro hn; exact .step (ih (by omega)) (g2 (i + n) (by omega))
  refine .inr ⟨g i, j - i, by omega, by omega, ?_⟩
  have := wk (j - i) (by omega)
  rwa [show i + (j - i) = j by omega, ← h3] at this
 ·refine .inl (mJ (by rw [gw, gw]) fun p _ _ => ?_)
  have h1 := wT ho P p
  have h2 : ¬ aA (J es P P) p < aA (J es P (P + 1)) p := fun c => h ⟨p, c⟩
  omega
theorem n4 {es : List a8} {P : Nat} (ho : ∀ e ∈ es, vu P e) {f : Int → Int} (hf : p9 es f) : J es P (P + 1) = J es P P := by
 rcases sH ho with h | ⟨x, n, h1, _, w⟩
 ·exact h
 ·have := w.pot hf; omega
theorem u7 : ∀ (L : List Int) (i : Nat) (a : Int), i < L.length → (L.set i a).sum = L.sum - (L[i]?).getD 0 + a
 | [], i, a, h => by simp at h
 | x :: L, 0, a, h => by simp; omega
 | x :: L, i + 1, a, h => by
  have := u7 L i a (by simpa using h)
  simp only [List.set_cons_succ, List.sum_cons, this, List.getElem?_cons_succ]
  omega
theorem sW {b : Int} : ∀ (L : List Int), (∀ x ∈ L, x ≤ b) → L.sum ≤ b * L.length
 | [], h => by simp
 | x :: L, h => by
  have := sW L fun y hy => h y (by simp [hy])
  have := h x (by simp)
  simp only [List.sum_cons, List.length_cons]
  push_cast
  rw [Int.mul_add]
  omega
theorem uk {L : List Int} {x : Int} (h : x ∈ L) : ∃ p : Int, 0 ≤ p ∧ p < L.length ∧ x = aA L p := by
 obtain ⟨i, hi, rfl⟩ := List.getElem_of_mem h
 exact ⟨i, by omega, by omega, by simp [aA, pd hi]⟩
theorem pN {L : List Int} {i : Int} (h : 0 ≤ i ∧ i < L.length) : L.set i.toNat (aA L i) = L := by
 obtain ⟨x, x1, x2, _⟩ := bl h.1 h.2
 have h2 : i.toNat < L.length := by omega
 have : aA L i = L[i.toNat] := by
  rw [aA, x1]; rw [List.getElem?_eq_getElem h2] at x2; simpa using x2.symm
 rw [this]; simp
theorem ko {L : List Int} {i p a : Int} (hi : 0 ≤ i ∧ i < L.length) (hp : 0 ≤ p) : aA (L.set i.toNat a) p = if p = i then a else aA L p := by
 by_cases h : p = i
 ·subst h
  have : p.toNat < L.length := by omega
  simp [aA, aB, nth, hp, this]
 ·have : i.toNat ≠ p.toNat := by omega
  simp [aA, aB, nth, hp, h, List.getElem?_set_ne this]
theorem qg {L : List Int} {i a : Int} (hi : 0 ≤ i ∧ i < L.length) : (L.set i.toNat a).sum = L.sum - aA L i + a := by
 rw [u7 L i.toNat a (by omega)]
 obtain ⟨x, x1, x2, _⟩ := bl hi.1 hi.2
 rw [x2, aA, x1]
theorem gQ {L : List Int} {i : Int} (h : 0 ≤ i ∧ i < L.length) : nth L (Int.toNat i) = some (aA L i) := by
 obtain ⟨x, x1, x2, _⟩ := bl h.1 h.2
 rw [nth, x2, aA, x1]; rfl
theorem j8 {i : Int} {n : Nat} (h : 0 ≤ i ∧ i < n) : (decide (0 ≤ i) && decide (i < (n : Int))) = true := by simp; exact h
theorem fN {α : Type} {l : List α} {j : Nat} {x : α} (h : l[j]? = some x) : l.take (j + 1) = l.take j ++ [x] := by
 rw [List.take_add_one, h]; rfl
theorem Ar {es ls : List a8} {A R0 : List Int} {i n8 : Int} {q7 : Int} {e : a8} {c0 : Bool} (hi : 0 ≤ i ∧ i < R0.length) (hd : ∀ x ∈ e.deletes, 0 ≤ x ∧ x < A.length) (hl : e.deletes.length ≤ 32) :
  ∃ r, layering_least.l4 es A i e ls q7 n8 e.deletes e.deletes.length (Int.toNat (e.deletes.length : Int) + 1) R0 c0 0 = some r ∧ ∃ c, r = (es, R0.set i.toNat (mx (aA A) (aA R0 i) e.deletes), A, c, i, e, ls, q7, n8, ()) ∧
   (c = false → c0 = false ∧ mx (aA A) (aA R0 i) e.deletes = aA R0 i) ∧ (c = true → c0 = true ∨ aA R0 i < mx (aA A) (aA R0 i) e.deletes) := by
 refine nF (F := fun n (s : List Int × Bool) j => layering_least.l4 es A i e ls q7 n8 e.deletes e.deletes.length n s.1 s.2 j) e.deletes.length
  (fun j s => s.1 = R0.set i.toNat (mx (aA A) (aA R0 i) (e.deletes.take j)) ∧ (s.2 = false → c0 = false ∧ mx (aA A) (aA R0 i) (e.deletes.take j) = aA R0 i) ∧ (s.2 = true → c0 = true ∨ aA R0 i < mx (aA A) (aA R0 i) (e.deletes.take j)))
  _ (Int.toNat (e.deletes.length : Int) + 1) (R0, c0) ⟨(pN hi).symm, fun h => ⟨h, rfl⟩, fun h => .inl h⟩ (fun n s h => ?_) (fun n s j hj h => .inr ?_) (by omega)
 ·simp only [layering_least.l4, ar, cond_false]
  rw [List.take_length] at h
  exact ⟨_, rfl, s.2, by rw [h.1], h.2⟩
 ·obtain ⟨h1, h2, h3⟩ := h
  obtain ⟨R, c⟩ := s
  dsimp only at h1 h2 h3
  have hx : e.deletes[j]? = some e.deletes[j] := List.getElem?_eq_getElem hj
  have hxm := hd _ (List.getElem_mem hj)
  generalize e.deletes[j] = x at *
  have hR : R.length = R0.length := by rw [h1]; simp
  have hv : aA R i = mx (aA A) (aA R0 i) (e.deletes.take j) := by rw [h1, ko hi hi.1, if_pos rfl]
  have ht : mx (aA A) (aA R0 i) (e.deletes.take (j + 1)) = fF (aA R i) (aA A x) := by rw [fN hx, hv]; unfold mx; rw [List.foldl_append]; rfl
  have hge := (mi (aA A) (e.deletes.take j) (aA R0 i)).1
  have hi' : 0 ≤ i ∧ i < (R.length : Int) := by rw [hR]; exact hi
  simp only [layering_least.l4, aL hj, cond_true, idx_some hx, Option.bind_some, j8 hxm, gQ hxm, j8 hi', gQ hi', wS (show j < 4611686018427387904 by omega)]
  rw [ht]
  by_cases hc : aA A x > aA R i
  ·refine ⟨(R.set i.toNat (aA A x), true), ⟨?_, fun h => (by cases h), fun _ => .inr ?_⟩, by simp only [hc, decide_true, cond_true]⟩
   ·rw [h1, List.set_set, fF, ← h1, decide_eq_true hc]; rfl
   ·have := pZ (aA R i) (aA A x); omega
  ·have e2 : fF (aA R i) (aA A x) = aA R i := by rw [fF, decide_eq_false hc]; rfl
   refine ⟨(R, c), ⟨?_, fun h => ?_, fun h => ?_⟩, by simp only [hc, decide_false, cond_false]⟩
   ·rw [e2, hv]; exact h1
   ·have := h2 h; rw [e2, hv]; exact this
   ·have := h3 h; rw [e2, hv]; exact this
theorem Av {es ls : List a8} {A0 R : List Int} {i v : Int} {q6 q7 : Int} {cr : List Int} {c0 : Bool} (hi : 0 ≤ i ∧ i < R.length) (hv : aA R i = v) (hv' : 0 ≤ v ∧ v ≤ 1000) (hc : ∀ x ∈ cr, 0 ≤ x ∧ x < A0.length) (hl : cr.length ≤ 32) :
  ∃ r, layering_least.l6 es R i ls q6 q7 cr cr.length (Int.toNat (cr.length : Int) + 1) A0 c0 0 = some r ∧ ∃ c, r = (es, R, fX v A0 cr, c, i, ls, q6, q7, ()) ∧
   (c = false → c0 = false ∧ fX v A0 cr = A0 ∧ ∀ y ∈ cr, v < aA A0 y) ∧ (c = true → c0 = true ∨ A0.sum < (fX v A0 cr).sum) ∧ A0.sum ≤ (fX v A0 cr).sum := by
 refine nF (F := fun n (s : List Int × Bool) j => layering_least.l6 es R i ls q6 q7 cr cr.length n s.1 s.2 j) cr.length
  (fun j s => s.1 = fX v A0 (cr.take j) ∧ (s.2 = false → c0 = false ∧ fX v A0 (cr.take j) = A0 ∧ ∀ y ∈ cr.take j, v < aA A0 y) ∧ (s.2 = true → c0 = true ∨ A0.sum < (fX v A0 (cr.take j)).sum) ∧ A0.sum ≤ (fX v A0 (cr.take j)).sum)
  _ (Int.toNat (cr.length : Int) + 1) (A0, c0) ⟨rfl, fun h => ⟨h, rfl, fun y hy => by simp at hy⟩, fun h => .inl h, Int.le_refl _⟩ (fun n s h => ?_) (fun n s j hj h => .inr ?_) (by omega)
 ·simp only [layering_least.l6, ar, cond_false]
  rw [List.take_length] at h
  exact ⟨_, rfl, s.2, by rw [h.1], h.2⟩
 ·obtain ⟨h1, h2, h3, h4⟩ := h
  obtain ⟨A, c⟩ := s
  dsimp only at h1 h2 h3
  have hx : cr[j]? = some cr[j] := List.getElem?_eq_getElem hj
  have hxm0 := hc _ (List.getElem_mem hj)
  generalize cr[j] = x at *
  have hA : A.length = A0.length := by rw [h1, iA]
  have hxm : 0 ≤ x ∧ x < (A.length : Int) := by rw [hA]; exact hxm0
  have ht : fX v A0 (cr.take (j + 1)) = put v A x := by rw [fN hx, h1]; unfold fX; rw [List.foldl_append]; rfl
  have w : IntKind.i64.wrap (v + 1) = v + 1 := jE (by omega) (by omega)
  simp only [layering_least.l6, aL hj, cond_true, idx_some hx, Option.bind_some, j8 hxm, gQ hxm, j8 hi, gQ hi, hv, w, wS (show j < 4611686018427387904 by omega)]
  rw [ht]
  by_cases hcc : aA A x ≤ v
  ·have e1 : put v A x = A.set x.toNat (v + 1) := by rw [put, fF, decide_eq_true (show v + 1 > aA A x by omega)]; rfl
   have e2 := qg (a := v + 1) hxm
   rw [h1] at e1 e2 hcc
   rw [h1]
   refine ⟨((fX v A0 (cr.take j)).set x.toNat (v + 1), true), ⟨e1.symm, fun h => (by cases h), fun _ => .inr (by rw [e1]; omega), by rw [e1]; omega⟩, by simp only [hcc, decide_true, cond_true]⟩
  ·have e1 : put v A x = A := by rw [put, fF, decide_eq_false (show ¬ (v + 1 > aA A x) by omega)]; exact pN hxm
   rw [e1, h1]
   rw [h1] at hcc
   refine ⟨(fX v A0 (cr.take j), c), ⟨rfl, fun h => ?_, h3, h4⟩, by simp only [hcc, decide_false, cond_false]⟩
   obtain ⟨a1, a2, a3⟩ := h2 h
   refine ⟨a1, a2, fun y hy => ?_⟩
   rw [fN hx] at hy
   rcases List.mem_append.1 hy with hy | hy
   ·exact a3 y hy
   ·simp at hy; subst hy; rw [a2] at hcc; omega
structure PI (es : List a8) (P : Nat) (R A : List Int) : Prop where
 rl : R.length = es.length
 al : A.length = P
 rb : ∀ j, 0 ≤ aA R j ∧ aA R j ≤ 100
 ab : ∀ p, 0 ≤ aA A p ∧ aA A p ≤ 101
 pa : ∀ f, p9 es f → ∀ p, aA A p ≤ f p
 pr : ∀ f, p9 es f → ∀ (j : Nat) e, es[j]? = some e → aA R j ≤ mx f 0 e.deletes
def yV (R A : List Int) (j : Nat) (e : a8) : Prop := (∀ x ∈ e.deletes, aA A x ≤ aA R j) ∧ ∀ y ∈ e.creates, aA R j < aA A y
def AP (es : List a8) (R A : List Int) : Prop := ∀ (j : Nat) e, es[j]? = some e → yV R A j e
theorem oL {es : List a8} {P : Nat} (ho : ∀ e ∈ es, vu P e) (hP : P ≤ 50) (h : ∃ f, p9 es f) : ∃ f, p9 es f ∧ ∀ p, f p ≤ 50 := by
 obtain ⟨f, hf⟩ := h
 refine ⟨_, iu ho (n4 ho hf), fun p => ?_⟩
 have := zV ho P p
 omega
theorem xO {es : List a8} {P : Nat} (ho : ∀ e ∈ es, vu P e) (hl : es.length ≤ 6) (hP : P ≤ 50) (hne : ∀ e ∈ es, e.deletes ≠ []) {R0 A0 : List Int} (h : PI es P R0 A0) {k : Nat} (hk : 20000 < k) :
  ∃ r, layering_least.l2 k es R0 A0 false es es.length 0 = some r ∧ ((r = .inr ([], [], false, ()) ∧ ¬ ∃ f, p9 es f) ∨ ∃ R A c, r = .inl (es, R, A, c, ()) ∧ PI es P R A ∧ (c = false → AP es R A) ∧ (c = true → R0.sum + A0.sum < R.sum + A.sum)) := by
 refine nF (F := fun n (s : List Int × List Int × Bool) j => layering_least.l2 n es s.1 s.2.1 s.2.2 es es.length j) es.length
  (fun i s => PI es P s.1 s.2.1 ∧ (s.2.2 = false → s.1 = R0 ∧ s.2.1 = A0 ∧ ∀ (j : Nat) e, j < i → es[j]? = some e → yV R0 A0 j e) ∧ (s.2.2 = true → R0.sum + A0.sum < s.1.sum + s.2.1.sum) ∧ R0.sum + A0.sum ≤ s.1.sum + s.2.1.sum)
  _ k (R0, A0, false) ⟨h, fun _ => ⟨rfl, rfl, fun j e hj => by omega⟩, fun h => (by cases h), Int.le_refl _⟩ (fun n s h => ?_) (fun n s i hi h => ?_) (by omega)
 ·obtain ⟨R, A, c⟩ := s
  dsimp only at h
  obtain ⟨h1, h2, h3, _⟩ := h
  simp only [layering_least.l2, ar, cond_false]
  refine ⟨_, rfl, .inr ⟨R, A, c, rfl, h1, fun hc => ?_, h3⟩⟩
  obtain ⟨rfl, rfl, h4⟩ := h2 hc
  exact fun j e he => h4 j e (aM he) he
 ·obtain ⟨R, A, c⟩ := s
  dsimp only at h
  obtain ⟨h1, h2, h3, h5⟩ := h
  have hx : es[i]? = some es[i] := List.getElem?_eq_getElem hi
  have hmem : es[i] ∈ es := List.getElem_mem hi
  generalize es[i] = e at *
  have o := ho e hmem
  have hir : 0 ≤ (i : Int) ∧ (i : Int) < R.length := by have := h1.rl; omega
  obtain ⟨_, e4, c1, rfl, f1, f2⟩ := Ar (es := es) (ls := es) (A := A) (R0 := R) (i := (i : Int)) (n8 := (i : Int)) (q7 := (es.length : Int)) (e := e) (c0 := c) hir (by rw [h1.al]; exact o.d) o.dl
  generalize hv : mx (aA A) (aA R i) e.deletes = v at *
  have hvge := mi (aA A) e.deletes (aA R i)
  rw [hv] at hvge
  have hvle : v ≤ 101 := by rw [← hv]; exact oC _ (by have := (h1.rb i).2; omega) fun x _ => (h1.ab x).2
  have hv0 : 0 ≤ v := by have := (h1.rb i).1; omega
  have hir' : 0 ≤ (i : Int) ∧ (i : Int) < ((R.set (Int.toNat (i : Int)) v).length : Int) := by simpa using hir
  have hlv : aA (R.set (Int.toNat (i : Int)) v) i = v := by rw [ko hir hir.1, if_pos rfl]
  obtain ⟨_, e6, c2, rfl, g1, g2, g3⟩ := Av (es := es) (ls := es) (A0 := A) (R := R.set (Int.toNat (i : Int)) v) (i := (i : Int)) (v := v) (q6 := (es.length : Int)) (q7 := (i : Int)) (cr := e.creates) (c0 := c1) hir' hlv ⟨hv0, by omega⟩ (by rw [h1.al]; exact o.c) o.cl
  have cA : ∀ x ∈ e.creates, 0 ≤ x ∧ x < (A.length : Int) := by rw [h1.al]; exact o.c
  have pf : ∀ f, p9 es f → v ≤ mx f 0 e.deletes := fun f hf => by
   rw [← hv]
   exact oC _ (h1.pr f hf i e hx) fun x hxd => Int.le_trans (h1.pa f hf x) ((mi f e.deletes 0).2 x hxd)
  simp only [layering_least.l2, aL hi, cond_true, idx_some hx, Option.bind_some, e4, e6, j8 hir', gQ hir', hlv, wS (show i < 4611686018427387904 by omega)]
  by_cases hb : v > 100
  ·simp only [hb, decide_true, cond_true]
   refine .inl ⟨_, rfl, .inl ⟨rfl, fun hp => ?_⟩⟩
   obtain ⟨f, hf, fb⟩ := oL ho hP hp
   have := pf f hf
   have : mx f 0 e.deletes ≤ 50 := oC f (by omega) fun x _ => fb x
   omega
  ·simp only [hb, decide_false, cond_false]
   refine .inr ⟨(R.set (Int.toNat (i : Int)) v, fX v A e.creates, c2), ⟨⟨by simpa using h1.rl, by rw [iA]; exact h1.al, fun j => ?_, fun p => ?_, fun f hf p => ?_, fun f hf j e' he' => ?_⟩, fun hc => ?_, fun hc => ?_, ?_⟩, rfl⟩
   ·by_cases c : 0 ≤ j
    ·rw [ko hir c]
     split
     ·exact ⟨hv0, by omega⟩
     ·exact h1.rb j
    ·rw [eM (by omega)]; exact ⟨by omega, by omega⟩
   ·by_cases c : 0 ≤ p
    ·rcases mC (v := v) cA p c with q | ⟨_, q⟩
     ·rw [q]; exact h1.ab p
     ·rw [q]; exact ⟨by omega, by omega⟩
    ·rw [eM (by omega)]; exact ⟨by omega, by omega⟩
   ·by_cases c : 0 ≤ p
    ·rcases mC (v := v) cA p c with q | ⟨q1, q⟩
     ·rw [q]; exact h1.pa f hf p
     ·rw [q]
      have := zj hf hmem (hne e hmem) q1
      have := pf f hf
      omega
    ·rw [eM (by omega)]; exact hf.z p
   ·rw [ko hir (by omega)]
    split
    ·rename_i c
     have c : j = i := by omega
     subst c
     rw [hx] at he'; cases he'
     exact pf f hf
    ·exact h1.pr f hf j e' he'
   ·obtain ⟨a1, a2, a3⟩ := g1 hc
    obtain ⟨b1, b2⟩ := f1 a1
    obtain ⟨rfl, rfl, b3⟩ := h2 b1
    have hRe : R.set (Int.toNat (i : Int)) v = R := by rw [b2]; exact pN hir
    refine ⟨hRe, a2, fun j e' hj he' => ?_⟩
    by_cases c : j = i
    ·subst c
     rw [hx] at he'; cases he'
     refine ⟨fun x hxd => ?_, fun y hy => ?_⟩
     ·rw [← b2]; exact hvge.2 x hxd
     ·rw [← b2]; exact a3 y hy
    ·exact b3 j e' (by omega) he'
   ·have s1 := qg (a := v) hir
    have hvR := hvge.1
    dsimp only
    rcases g2 hc with q | q
    ·rcases f2 q with q' | q'
     ·have := h3 q'; omega
     ·omega
    ·omega
   ·have s1 := qg (a := v) hir
    have hvR := hvge.1
    dsimp only
    omega
theorem AM {es : List a8} {P : Nat} (hl : es.length ≤ 6) (hP : P ≤ 50) {R A : List Int} (h : PI es P R A) : R.sum + A.sum ≤ 5650 := by
 have h1 := sW (b := 100) R fun x hx => by obtain ⟨p, _, _, rfl⟩ := uk hx; exact (h.rb p).2
 have h2 := sW (b := 101) A fun x hx => by obtain ⟨p, _, _, rfl⟩ := uk hx; exact (h.ab p).2
 have := h.rl
 have := h.al
 omega
theorem qY {es : List a8} {P : Nat} (ho : ∀ e ∈ es, vu P e) (hl : es.length ≤ 6) (hP : P ≤ 50) (hne : ∀ e ∈ es, e.deletes ≠ []) {k : Nat} (hk : 20000 < k) :
  ∀ (m fuel : Nat) (R A : List Int), PI es P R A → 5700 - (R.sum + A.sum) ≤ m → m + 2 ≤ fuel → (layering_least.l0 k fuel es R A true = some (.inr ([], [], false, ())) ∧ ¬ ∃ f, p9 es f) ∨ ∃ R' A', layering_least.l0 k fuel es R A true = some (.inl (R', A', ())) ∧ PI es P R' A' ∧ AP es R' A'
 | m, 0, R, A, h, hm, hf => by omega
 | 0, fuel + 1, R, A, h, hm, hf => by have := AM hl hP h; omega
 | m + 1, fuel + 1, R, A, h, hm, hf => by
  obtain ⟨r, e, p⟩ := xO ho hl hP hne h hk
  simp only [layering_least.l0, cond_true, e, Option.bind_some]
  rcases p with ⟨rfl, p⟩ | ⟨R', A', c, rfl, p1, p2, p3⟩
  ·exact .inl ⟨rfl, p⟩
  ·cases c with
   | false =>
    cases fuel with
    | zero => omega
    | succ fuel => exact .inr ⟨R', A', rfl, p1, p2 rfl⟩
   | true =>
    have := p3 rfl
    exact qY ho hl hP hne hk m fuel R' A' p1 (by omega) (by omega)
theorem zO : @dz = @gl a8 := by kernel_rfl
theorem B3 {es : List a8} {P : Nat} : PI es P (List.replicate es.length 0) (List.replicate P 0) := by
 have z : ∀ n p, aA (List.replicate n (0 : Int)) p = 0 := fun n p => Al [] n p
 refine ⟨by simp, by simp, fun j => ?_, fun p => ?_, fun f hf p => ?_, fun f hf j e _ => ?_⟩
 ·rw [z]; omega
 ·rw [z]; omega
 ·rw [z]; exact hf.z p
 ·rw [z]; exact (mi f e.deletes 0).1
theorem yg {es : List a8} {P : Nat} (ho : ∀ e ∈ es, vu P e) (hl : es.length ≤ 6) (hP : P ≤ 50) {k : Nat} (hk : 20000 < k) :
  (layering_least k es P = some ([], [], false, ()) ∧ ¬ ((∀ e ∈ es, e.deletes ≠ []) ∧ ∃ f, p9 es f)) ∨ ∃ R A, layering_least k es P = some (R, A, true, ()) ∧ (∀ e ∈ es, e.deletes ≠ []) ∧ PI es P R A ∧ AP es R A := by
 have h1 := bF (l := es) (q := fun z1 => eC z1.1) (p := fun e => (e.deletes.length : Int) == 0) (fun _ _ => rfl) (cP hl (by omega))
 have f1 : bX es.length = true := aR (by omega)
 have f2 : bX P = true := aR (by omega)
 simp only [layering_least, zO, h1, f1, f2, ig, lI (Nat.le_refl _), Bool.and_self, cond_true, Option.bind_some, Int.toNat_natCast]
 cases ha : es.any (fun e => (e.deletes.length : Int) == 0) with
 | true =>
  refine .inl ⟨rfl, fun h => ?_⟩
  obtain ⟨e, he, h2⟩ := List.any_eq_true.1 ha
  have : e.deletes = [] := by simpa using h2
  exact h.1 e he this
 | false =>
  have hne : ∀ e ∈ es, e.deletes ≠ [] := fun e he c => by
   have := List.any_eq_false.1 ha e he
   rw [c] at this; exact this rfl
  simp only [cond_false]
  have h0 := B3 (es := es) (P := P)
  have hz : (List.replicate es.length (0 : Int)).sum + (List.replicate P (0 : Int)).sum = 0 := by simp
  rcases qY ho hl hP hne hk 5700 k _ _ h0 (by omega) (by omega) with ⟨e, p⟩ | ⟨R, A, e, p1, p2⟩
  ·rw [e]; exact .inl ⟨rfl, fun h => p h.2⟩
  ·rw [e]; exact .inr ⟨R, A, rfl, hne, p1, p2⟩
end Go.Ev.Pl
end
section
set_option linter.unusedVariables false
namespace Go.Ev.Pl
theorem qN {k : Nat} {a b : List Int} (ha : a.length ≤ 1000) (hk : 20000 < k) : scarfjointref05_SameInts k a b = some (decide (a = b), ()) := by
 rw [scarfjointref05_SameInts]
 cases hl : ((a.length : Int) != (b.length : Int)) with
 | true =>
  have : a ≠ b := fun c => by rw [c] at hl; simp at hl
  simp [this]
 | false =>
  have hl : a.length = b.length := by simp at hl; omega
  have h := bP (F := scarfjointref05_SameInts.l0 a b) a () (fun i x => cond (x != aA b i) (some (false, ())) none) k (fun n => by simp only [scarfjointref05_SameInts.l0, ar, cond_false]) (fun n i x hx _ => by
   have hi := aM hx
   have e2 : aB b (i : Int) = some (aA b i) := mM (by omega)
   simp only [scarfjointref05_SameInts.l0, aL hi, cond_true, idx_some hx, e2, Option.bind_some, cY, wS (show i < 4611686018427387904 by omega)]) (by omega)
  simp only [cond_false, h, Option.bind_some]
  cases hf : bO (fun i x => cond (x != aA b i) (some (false, ())) none) a with
  | none =>
   have : a = b := mJ hl fun p h0 h1 => by
    obtain ⟨x, x1, x2, _⟩ := bl h0 h1
    have h2 := dU.1 hf p.toNat x x2
    have e3 : ((p.toNat : Nat) : Int) = p := by omega
    rw [e3] at h2
    have h2 : x = aA b p := Classical.byContradiction fun c => by
     have : (x != aA b p) = true := by simpa using c
     rw [this] at h2; cases h2
    rw [aA, x1]; exact h2
   rw [decide_eq_true this]; rfl
  | some z =>
   obtain ⟨j, _, _, j3, _⟩ := cO hf
   obtain ⟨x, j4, j5⟩ := Option.bind_eq_some_iff.1 j3
   dsimp only at j5
   cases hc : (x != aA b j) with
   | false => rw [hc] at j5; cases j5
   | true =>
    rw [hc] at j5; cases j5
    have : a ≠ b := fun c => by
     subst c
     rw [aA, idx_some j4] at hc
     simp at hc
    rw [decide_eq_false this]; rfl
theorem sa {α S R : Type} {F : Nat → S → Int → Option R} (l : List α) (fY : Nat → S → Prop) (out : S → Option R) (st : α → S → S) (fuel : Nat) (s : S) (hs : fY 0 s)
  (h0 : ∀ n s, fY l.length s → F (n + 1) s (l.length : Int) = out s)
  (h1 : ∀ n s (i : Nat) x, l[i]? = some x → fY i s → F (n + 1) s (i : Int) = F n (st x s) ((i + 1 : Nat) : Int))
  (hI : ∀ s (i : Nat) x, l[i]? = some x → fY i s → fY (i + 1) (st x s)) (hf : l.length < fuel) : F fuel s 0 = out (l.foldl (fun s x => st x s) s) := by
 suffices H : ∀ c i fuel s, l.length - i = c → i ≤ l.length → l.length - i < fuel → fY i s → F fuel s (i : Int) = out ((l.drop i).foldl (fun s x => st x s) s) by
  have := H _ 0 fuel s rfl (by omega) (by omega) hs
  simpa using this
 intro c
 induction c with
 | zero =>
  intro i fuel s hc hi hf hs
  obtain rfl : i = l.length := by omega
  cases fuel with
  | zero => omega
  | succ n => rw [h0 n s hs]; simp
 | succ c ih =>
  intro i fuel s hc hi hf hs
  cases fuel with
  | zero => omega
  | succ n =>
   have hlt : i < l.length := by omega
   have hx := List.getElem?_eq_getElem hlt
   rw [h1 n s i _ hx hs, ih (i + 1) n _ (by omega) (by omega) (by omega) (hI s i _ hx hs), List.drop_eq_getElem_cons hlt]
   rfl
theorem p7 {n : Nat} {t : ad} {rs : List aC} (ok : se n t rs) : j9 n t rs = 0 := by
 have h1 : (jr t != 0) = false := by simpa using ok.t0
 have h2 : decide ((rs.length : Int) > 6) = false := by have := ok.l; simp; omega
 have h3 : bO (fun _ r => cond (gB n t r != 0) (some (gB n t r, ())) none) rs = none := dU.2 fun j r hr => by
  have : (gB n t r != 0) = false := by simpa using ok.e r (cm hr)
  rw [this]; rfl
 simp only [j9, h1, h2, h3, cond_false, jv]
section
variable {k n : Nat} {t : ad} {rs : List aC} (ht : BT t) (hr : ∀ r ∈ rs, rS n r) (ok : se n t rs) (hk : 20000 + n < k)
include ht hr ok hk
theorem xf {L : List Int} (hL : L.length = t.nodes.length + t.edges.length) (hb : ∀ p, 0 ≤ aA L p ∧ aA L p ≤ 1000) : scarfjointref40_raise k t rs L = some ((rs.map (cg t)).map (fun e => mx (aA L) 0 e.deletes), sL L (rs.map (cg t)) L, ()) := by
 have tl := uD ht ok
 have rl := ok.l
 have h0 := sa (F := fun m (s : List Int × List Int) i => scarfjointref40_raise.l0 k m rs L t s.1 s.2 i) rs (fun i s => s.1.length = i ∧ s.2.length = L.length) (fun s => some (s.1, s.2, ())) (fun r s => (s.1 ++ [mx (aA L) 0 (cg t r).deletes], fX (mx (aA L) 0 (cg t r).deletes) s.2 (cg t r).creates)) k ([], L) ⟨rfl, rfl⟩ (fun m s _ => by simp only [scarfjointref40_raise.l0, ar, cond_false]) (fun m s i r hx hs => by
  have hi := aM hx
  have hmem := cm hx
  have o := xc ht (ok.e r hmem)
  have hD := jD (k := k) ht (hr r hmem) (ok.e r hmem) hk
  generalize cg t r = E at *
  have l2 := fun s0 s1 : List Int => qT (F := fun m s j => scarfjointref40_raise.l2 rs L t s0 s1 i E.deletes E.creates m s j) E.deletes (fun s => some (rs, L, t, s0, s1, (i : Int), E.creates, s, ())) (fun x s => fF s (aA L x)) k 0 (fun m s => by simp only [scarfjointref40_raise.l2, ar, cond_false]) (fun m s j x hx => by
   have hj := aM hx
   have hxm := o.d x (cm hx)
   have := o.dl
   simp only [scarfjointref40_raise.l2, aL hj, ig, Bool.and_true, cond_true, Int.toNat_natCast, fg hx, mM (L := L) (k := x) (by omega), Option.bind_some, wS (show j < 4611686018427387904 by omega)]) (by have := o.dl; omega)
  have hv : 0 ≤ mx (aA L) 0 E.deletes ∧ mx (aA L) 0 E.deletes ≤ 1000 := ⟨(mi _ _ _).1, oC _ (by omega) fun x _ => (hb x).2⟩
  have l2' : ∀ s0 s1 : List Int, scarfjointref40_raise.l2 rs L t s0 s1 i E.deletes E.creates k 0 0 = some (rs, L, t, s0, s1, (i : Int), E.creates, mx (aA L) 0 E.deletes, ()) := l2
  generalize mx (aA L) 0 E.deletes = v at *
  have w : IntKind.i64.wrap (v + 1) = v + 1 := jE (by omega) (by omega)
  have l4 : ∀ s0 s1 : List Int, s1.length = L.length → scarfjointref40_raise.l4 rs L t s0 i E.creates v k s1 0 = some (rs, L, t, s0, fX v s1 E.creates, (i : Int), ()) := fun s0 s1 hs1 =>
   sa (F := fun m s j => scarfjointref40_raise.l4 rs L t s0 i E.creates v m s j) E.creates (fun _ s => s.length = L.length) (fun s => some (rs, L, t, s0, s, (i : Int), ())) (fun x s => put v s x) k s1 hs1 (fun m s _ => by simp only [scarfjointref40_raise.l4, ar, cond_false]) (fun m s j x hx hs => by
    have hj := aM hx
    have hxm := o.c x (cm hx)
    have hxs : 0 ≤ x ∧ x < (s.length : Int) := by omega
    have := o.cl
    simp only [scarfjointref40_raise.l4, aL hj, ig, Bool.and_true, cond_true, Int.toNat_natCast, fg hx, j8 hxs, gQ hxs, Option.bind_some, w, put, wS (show j < 4611686018427387904 by omega)]) (fun s j x hx hs => by rw [mA]; exact hs) (by have := o.cl; omega)
  have f1 : bX (s.1.length + 1) = true := aR (by omega)
  simp only [scarfjointref40_raise.l0, aL hi, cond_true, idx_some hx, hD.1, hD.2, Option.bind_some, l2', l4 _ _ hs.2, List.length_cons, List.length_nil, Nat.zero_add, f1, wS (show i < 4611686018427387904 by omega)]) (fun s i r hx hs => ⟨by simp [hs.1], by rw [iA]; exact hs.2⟩) (by omega)
 have key : ∀ (l : List aC) (a M : List Int), l.foldl (fun (s : List Int × List Int) r => (s.1 ++ [mx (aA L) 0 (cg t r).deletes], fX (mx (aA L) 0 (cg t r).deletes) s.2 (cg t r).creates)) (a, M) = (a ++ (l.map (cg t)).map (fun e => mx (aA L) 0 e.deletes), sL L (l.map (cg t)) M) := by
  intro l
  induction l with
  | nil => intro a M; simp [sL]
  | cons r l ih => intro a M; rw [List.foldl_cons, ih]; simp [sL]
 have f2 : bX (0 + L.length) = true := aR (by omega)
 rw [key] at h0
 simp only [scarfjointref40_raise, List.length_nil, f2, cond_true, List.nil_append, h0, Option.bind_some]
theorem tN : (scarfjointref40_least k t rs = some (([], [], [], ()), false, ()) ∧ ¬ ((∀ e ∈ rs.map (cg t), e.deletes ≠ []) ∧ ∃ f, p9 (rs.map (cg t)) f)) ∨
  ∃ r, r ≤ t.nodes.length + t.edges.length + 1 ∧ J (rs.map (cg t)) (t.nodes.length + t.edges.length) (r + 1) = J (rs.map (cg t)) (t.nodes.length + t.edges.length) r ∧ (∀ e ∈ rs.map (cg t), e.deletes ≠ []) ∧
   scarfjointref40_least k t rs = some (((rs.map (cg t)).map (fun e => mx (aA (J (rs.map (cg t)) (t.nodes.length + t.edges.length) r)) 0 e.deletes), (J (rs.map (cg t)) (t.nodes.length + t.edges.length) r).take t.nodes.length, (J (rs.map (cg t)) (t.nodes.length + t.edges.length) r).drop t.nodes.length, ()), true, ()) := by
 have tl := uD ht ok
 have rl := ok.l
 obtain ⟨oe, ol⟩ := qi ht ok
 have l0 := bP (F := scarfjointref40_least.l0 k rs t [] [] []) rs (rs, t, ([], [], [], ()), ()) (fun _ r => cond (((cg t r).deletes.length : Int) == 0) (some (([], [], [], ()), false, ())) none) k (fun m => by simp only [scarfjointref40_least.l0, ar, cond_false]) (fun m i r hx _ => by
  have hi := aM hx
  have hmem := cm hx
  have hD := jD (k := k) ht (hr r hmem) (ok.e r hmem) hk
  simp only [scarfjointref40_least.l0, aL hi, cond_true, idx_some hx, hD.1, Option.bind_some, cY, wS (show i < 4611686018427387904 by omega)]) (by omega)
 rw [bS (fun r => ((cg t r).deletes.length : Int) == 0)] at l0
 simp only [scarfjointref40_least, l0, Option.bind_some, fD]
 have w1 : IntKind.i64.wrap ((t.nodes.length : Int) + (t.edges.length : Int)) = ((t.nodes.length + t.edges.length : Nat) : Int) := nY (by omega)
 have w2 : IntKind.i64.wrap (((t.nodes.length + t.edges.length : Nat) : Int) + 1) = ((t.nodes.length + t.edges.length + 1 : Nat) : Int) := wS (by omega)
 cases ha : rs.any (fun r => ((cg t r).deletes.length : Int) == 0) with
 | true =>
  refine .inl ⟨rfl, fun h => ?_⟩
  obtain ⟨r, hr, h2⟩ := List.any_eq_true.1 ha
  exact h.1 _ (List.mem_map.2 ⟨r, hr, rfl⟩) (by simpa using h2)
 | false =>
  have hne : ∀ e ∈ rs.map (cg t), e.deletes ≠ [] := fun e he c => by
   obtain ⟨r, hr, rfl⟩ := List.mem_map.1 he
   have := List.any_eq_false.1 ha r hr
   rw [c] at this; exact this rfl
  have f1 : bX (t.nodes.length + t.edges.length) = true := aR (by omega)
  simp only [cond_false, aJ, w1, ig, lI (Nat.le_refl _), Bool.and_self, Int.toNat_natCast, f1, cond_true]
  generalize hP : t.nodes.length + t.edges.length = P at *
  obtain ⟨r, e, p⟩ := nF (F := fun m (s : List Int) i => scarfjointref40_least.l2 k rs t [] [] [] P m s i) (P + 2) (fun i s => s = J (rs.map (cg t)) P i ∧ ∀ j, j < i → J (rs.map (cg t)) P (j + 1) ≠ J (rs.map (cg t)) P j)
   (fun o => (o = .inl (([], [], [], ()), ()) ∧ ∀ j, j < P + 2 → J (rs.map (cg t)) P (j + 1) ≠ J (rs.map (cg t)) P j) ∨ ∃ r, r ≤ P + 1 ∧ J (rs.map (cg t)) P (r + 1) = J (rs.map (cg t)) P r ∧ o = .inr (((rs.map (cg t)).map (fun e => mx (aA (J (rs.map (cg t)) P r)) 0 e.deletes), (J (rs.map (cg t)) P r).take t.nodes.length, (J (rs.map (cg t)) P r).drop t.nodes.length, ()), true, ()))
   k (List.replicate P 0) ⟨rfl, fun j hj => by omega⟩ (fun m s h => by
    have : decide (((P + 2 : Nat) : Int) ≤ ((P + 1 : Nat) : Int)) = false := decide_eq_false (by omega)
    simp only [scarfjointref40_least.l2, w2, this, cond_false]
    exact ⟨_, rfl, .inl ⟨rfl, h.2⟩⟩) (fun m s i hi h => by
    obtain ⟨rfl, h2⟩ := h
    have hb : ∀ p, 0 ≤ aA (J (rs.map (cg t)) P i) p ∧ aA (J (rs.map (cg t)) P i) p ≤ 1000 := fun p => ⟨Ae oe i p, by have := zV oe i p; omega⟩
    have hlen := gw (rs.map (cg t)) P i
    have re := xf ht hr ok hk (L := J (rs.map (cg t)) P i) (by omega) hb
    have hnl : t.nodes.length ≤ (J (rs.map (cg t)) P i).length := by omega
    have : decide ((i : Int) ≤ ((P + 1 : Nat) : Int)) = true := decide_eq_true (by omega)
    simp only [scarfjointref40_least.l2, w2, this, cond_true, re, qN (k := k) (a := J (rs.map (cg t)) P i) (show _ ≤ 1000 by omega) (by omega), Option.bind_some, wS (show i < 4611686018427387904 by omega)]
    by_cases hc : J (rs.map (cg t)) P i = sL (J (rs.map (cg t)) P i) (rs.map (cg t)) (J (rs.map (cg t)) P i)
    ·refine .inl ⟨_, ?_, .inr ⟨i, by omega, hc.symm, rfl⟩⟩
     rw [decide_eq_true hc, cond_true]
     simp only [Int.toNat_natCast, ig, lI hnl, lI (Nat.le_refl _), sN hnl, AU, Nat.le_refl, decide_true, Bool.and_self, cond_true, qS, zZ]
     simp only [slc, List.take_length]
    ·refine .inr ⟨J (rs.map (cg t)) P (i + 1), ⟨rfl, fun j hj => ?_⟩, by rw [decide_eq_false hc, cond_false]; rfl⟩
     by_cases e : j = i
     ·subst e; exact fun c => hc c.symm
     ·exact h2 j (by omega)) (by omega)
  rw [e]
  rcases p with ⟨rfl, p⟩ | ⟨r', p1, p2, rfl⟩
  ·refine .inl ⟨rfl, fun h => ?_⟩
   obtain ⟨_, f, hf⟩ := h
   exact p P (by omega) (n4 oe hf)
  ·exact .inr ⟨r', p1, p2, hne, rfl⟩
end
theorem yp {es : List a8} {g : a8 → Int} {j : Nat} {e : a8} (h : es[j]? = some e) : aA (es.map g) j = g e := by
 have : (es.map g)[j]? = some (g e) := by rw [List.getElem?_map, h]; rfl
 rw [aA, idx_some this]; rfl
theorem yq {k n : Nat} {t : ad} {rs : List aC} (ht : BT t) (hr : ∀ r ∈ rs, rS n r) (hrl : rs.length ≤ 1000) (hk : 20000 + n < k) :
  ∃ a e, cQ k t rs = some (a, e, ()) ∧ gZ k t rs = some (a, e, ()) ∧
   ((e = j9 n t rs ∧ e ≠ 0 ∧ a = ([], [], [], ())) ∨ (j9 n t rs = 0 ∧ e = 10 ∧ a = ([], [], [], ()) ∧ ¬ ((∀ e ∈ rs.map (cg t), e.deletes ≠ []) ∧ ∃ f, p9 (rs.map (cg t)) f)) ∨
    (j9 n t rs = 0 ∧ e = 0 ∧ (∀ e ∈ rs.map (cg t), e.deletes ≠ []) ∧ (∃ f, p9 (rs.map (cg t)) f) ∧ ∃ R A : List Int, a = (R, A.take t.nodes.length, A.drop t.nodes.length, ()) ∧ R.length = rs.length ∧ A.length = t.nodes.length + t.edges.length ∧ (∀ j, 0 ≤ aA R j ∧ aA R j ≤ 50) ∧ (∀ p, 0 ≤ aA A p ∧ aA A p ≤ 50) ∧ AP (rs.map (cg t)) R A)) := by
 simp only [cQ, gZ, mH ht hr hrl hk, tJ ht hr hrl hk, Option.bind_some]
 cases h0 : (j9 n t rs != 0) with
 | true => exact ⟨_, _, rfl, rfl, .inl ⟨rfl, by simpa using h0, rfl⟩⟩
 | false =>
  have g0 : j9 n t rs = 0 := by simpa using h0
  have ok := tF g0
  obtain ⟨oe, ol⟩ := qi ht ok
  have tl := uD ht ok
  have w1 : IntKind.i64.wrap ((t.nodes.length : Int) + (t.edges.length : Int)) = ((t.nodes.length + t.edges.length : Nat) : Int) := nY (by omega)
  simp only [cond_false, w1]
  have P50 : t.nodes.length + t.edges.length ≤ 50 := by omega
  rcases yg oe ol P50 (show 20000 < k by omega) with ⟨e1, p1⟩ | ⟨R, A, e1, hne, pi, sol⟩
  ·rcases tN ht hr ok hk with ⟨e2, p2⟩ | ⟨r, r1, r2, r3, e2⟩
   ·rw [e1, e2]
    exact ⟨([], [], [], ()), 10, rfl, rfl, .inr (.inl ⟨g0, rfl, rfl, p1⟩)⟩
   ·exact absurd ⟨r3, _, iu oe r2⟩ p1
  ·have potA : p9 (rs.map (cg t)) (aA A) := ⟨fun x => (pi.ab x).1, fun x y ⟨e, he, hx, hy⟩ => by
    obtain ⟨j, hj, rfl⟩ := List.getElem_of_mem he
    obtain ⟨s1, s2⟩ := sol j _ (List.getElem?_eq_getElem hj)
    have := s1 x hx
    have := s2 y hy
    omega⟩
   rcases tN ht hr ok hk with ⟨e2, p2⟩ | ⟨r, r1, r2, r3, e2⟩
   ·exact absurd ⟨hne, _, potA⟩ p2
   ·have potJ := iu oe r2
    have lA : ∀ p, aA A p = aA (J (rs.map (cg t)) (t.nodes.length + t.edges.length) r) p := fun p => by
     have := pi.pa _ potJ p
     have := zT oe hne potA r p
     omega
    have eA : A = J (rs.map (cg t)) (t.nodes.length + t.edges.length) r := mJ (by rw [pi.al, gw]) fun p _ _ => lA p
    have eR : R = (rs.map (cg t)).map (fun e => mx (aA (J (rs.map (cg t)) (t.nodes.length + t.edges.length) r)) 0 e.deletes) := by
     refine mJ (by rw [pi.rl, List.length_map, List.length_map, List.length_map]) fun p h1 h2 => ?_
     have hp : p.toNat < (rs.map (cg t)).length := by have := pi.rl; omega
     have hx := List.getElem?_eq_getElem hp
     have ep : ((p.toNat : Nat) : Int) = p := by omega
     have hm := yp (g := fun e => mx (aA (J (rs.map (cg t)) (t.nodes.length + t.edges.length) r)) 0 e.deletes) hx
     rw [ep] at hm
     rw [hm]
     have u := pi.pr _ potJ p.toNat _ hx
     have l := (sol p.toNat _ hx).1
     rw [ep] at u l
     have := oC (aA (J (rs.map (cg t)) (t.nodes.length + t.edges.length) r)) (l := ((rs.map (cg t))[p.toNat]).deletes) (m := 0) (b := aA R p) (pi.rb p).1 fun x hx => by rw [← lA]; exact l x hx
     omega
    have hnl : t.nodes.length ≤ A.length := by have := pi.al; omega
    have b50 : ∀ p, aA A p ≤ 50 := fun p => by
     obtain ⟨f, f1, f2⟩ := oL oe P50 ⟨_, potA⟩
     have := pi.pa f f1 p
     have := f2 p
     omega
    refine ⟨(R, A.take t.nodes.length, A.drop t.nodes.length, ()), 0, ?_, ?_, .inr (.inr ⟨g0, rfl, hne, ⟨_, potA⟩, R, A, rfl, by have := pi.rl; simpa using this, pi.al, fun j => ⟨(pi.rb j).1, ?_⟩, fun p => ⟨(pi.ab p).1, b50 p⟩, sol⟩)⟩
    ·rw [e1]
     simp only [Option.bind_some, Bool.not_true, cond_false, Int.toNat_natCast, ig, lI hnl, lI (Nat.le_refl _), sN hnl, AU, Nat.le_refl, decide_true, Bool.and_self, cond_true, qS, zZ]
     simp only [slc, List.take_length]
    ·rw [e2, ← eR, ← eA]; rfl
    ·by_cases c : 0 ≤ j ∧ j < R.length
     ·have hp : j.toNat < (rs.map (cg t)).length := by have := pi.rl; omega
      have u := pi.pr _ potA j.toNat _ (List.getElem?_eq_getElem hp)
      rw [show ((j.toNat : Nat) : Int) = j by omega] at u
      exact Int.le_trans u (oC _ (by omega) fun x _ => b50 x)
     ·rw [eM c]; omega
end Go.Ev.Pl
end
section
set_option linter.unusedVariables false
namespace Go.Ev.Pl
def fT (all : List ae) : Nat → Int → Int → Bool
 | 0, x, z => x == z
 | n + 1, x, z => all.any fun d => d.frm == x && fT all n d.to z
theorem mL {all : List ae} : ∀ n x y, fT all (n + 1) x y = all.any fun d => fT all n x d.frm && d.to == y
 | 0, x, y => by
  show (all.any fun d => d.frm == x && d.to == y) = all.any fun d => (x == d.frm) && d.to == y
  refine kj fun d _ => ?_
  rw [show (x == d.frm) = (d.frm == x) from Bool.eq_iff_iff.2 (by simp; exact eq_comm)]
 | n + 1, x, y => by
  rw [fT]
  rw [Bool.eq_iff_iff, List.any_eq_true, List.any_eq_true]
  constructor
  ·rintro ⟨d, hd, h⟩
   rw [Bool.and_eq_true, mL n d.to y, List.any_eq_true] at h
   obtain ⟨h1, e, he, h2⟩ := h
   rw [Bool.and_eq_true] at h2
   refine ⟨e, he, ?_⟩
   rw [Bool.and_eq_true, fT, List.any_eq_true]
   exact ⟨⟨d, hd, by rw [Bool.and_eq_true]; exact ⟨h1, h2.1⟩⟩, h2.2⟩
  ·rintro ⟨e, he, h⟩
   rw [Bool.and_eq_true, fT, List.any_eq_true] at h
   obtain ⟨⟨d, hd, h1⟩, h2⟩ := h
   rw [Bool.and_eq_true] at h1
   refine ⟨d, hd, ?_⟩
   rw [Bool.and_eq_true, mL n d.to y, List.any_eq_true]
   exact ⟨h1.1, e, he, by rw [Bool.and_eq_true]; exact ⟨h1.2, h2⟩⟩
def chn (all : List ae) : Nat → Int → Int → List ae
 | 0, _, _ => []
 | n + 1, x, z => match all.find? (fun d => d.frm == x && fT all n d.to z) with | some d => d :: chn all n d.to z | none => []
theorem lB {all : List ae} : ∀ n x z, fT all n x z = true → (chn all n x z).length = n
 | 0, x, z, _ => rfl
 | n + 1, x, z, h => by
  rw [chn]
  cases hf : all.find? (fun d => d.frm == x && fT all n d.to z) with
  | none =>
   obtain ⟨d, hd, h2⟩ := List.any_eq_true.1 h
   have := List.find?_eq_none.1 hf d hd
   exact absurd h2 this
  | some d =>
   have h2 := List.find?_some hf
   rw [Bool.and_eq_true] at h2
   simp [lB n d.to z h2.2]
structure yF (P : Nat) (all : List ae) : Prop where
 l : all.length ≤ 10000
 r : ∀ d ∈ all, (0 ≤ d.frm ∧ d.frm < P) ∧ (0 ≤ d.to ∧ d.to < P)
theorem xb {k : Nat} {l : List Int} {x : Int} (hl : l.length ≤ 20000) (hk : 20000 < k) : scarfjointref40_has k l x = some (l.any (· == x), ()) := by
 have h := bP (F := scarfjointref40_has.l0 l x) l () (fun _ y => cond (y == x) (some (true, ())) none) k (fun n => by simp only [scarfjointref40_has.l0, ar, cond_false]) (fun n i y hy _ => by
  simp only [scarfjointref40_has.l0, aL (aM hy), cond_true, idx_some hy, Option.bind_some, cY, wS (show i < 4611686018427387904 by have := aM hy; omega)]) (by omega)
 rw [bS (fun y => y == x)] at h
 simp only [scarfjointref40_has, h, Option.bind_some, fD]
 cases l.any (· == x) <;> rfl
def xB (now : List Int) (d : ae) (nx : List Int) : List Int := cond (now.any (· == d.frm) && !(nx.any (· == d.to))) (nx ++ [d.to]) nx
theorem uw (now : List Int) : ∀ (l : List ae) (nx : List Int), (l.foldl (fun s d => xB now d s) nx).length ≤ nx.length + l.length
 | [], nx => by simp
 | d :: l, nx => by
  rw [List.foldl_cons]
  have := uw now l (xB now d nx)
  have h2 : (xB now d nx).length ≤ nx.length + 1 := by unfold xB; cases (now.any (· == d.frm) && !(nx.any (· == d.to))) <;> simp
  simp only [List.length_cons]; omega
theorem uG (now : List Int) (y : Int) : ∀ (l : List ae) (nx : List Int), y ∈ l.foldl (fun s d => xB now d s) nx ↔ y ∈ nx ∨ ∃ d ∈ l, d.frm ∈ now ∧ d.to = y
 | [], nx => by simp
 | d :: l, nx => by
  rw [List.foldl_cons, uG now y l]
  have h2 : y ∈ xB now d nx ↔ y ∈ nx ∨ (d.frm ∈ now ∧ d.to = y) := by
   unfold xB
   cases hc : (now.any (· == d.frm) && !(nx.any (· == d.to))) with
   | true =>
    simp at hc
    simp only [cond_true, List.mem_append, List.mem_singleton]
    constructor
    ·rintro (h | h)
     ·exact .inl h
     ·exact .inr ⟨hc.1, h.symm⟩
    ·rintro (h | h)
     ·exact .inl h
     ·exact .inr h.2.symm
   | false =>
    simp only [cond_false]
    constructor
    ·exact .inl
    ·rintro (h | ⟨h1, h2⟩)
     ·exact h
     ·subst h2
      apply Classical.byContradiction
      intro hno
      simp at hc
      exact hno (hc h1)
  rw [h2]
  constructor
  ·rintro ((h | h) | ⟨e, he, h⟩)
   ·exact .inl h
   ·exact .inr ⟨d, by simp, h⟩
   ·exact .inr ⟨e, by simp [he], h⟩
  ·rintro (h | ⟨e, he, h⟩)
   ·exact .inl (.inl h)
   ·rcases List.mem_cons.1 he with rfl | he
    ·exact .inl (.inr h)
    ·exact .inr ⟨e, he, h⟩
theorem nd {k P : Nat} {all : List ae} (ha : yF P all) (n : Nat) (hn : n ≤ 100) (x z : Int) (hk : 20000 < k) : scarfjointref40_reaches k all x z n = some (fT all n x z, ()) := by
 have hl := ha.l
 obtain ⟨r, e, p⟩ := nF (F := fun m (s : List Int) i => scarfjointref40_reaches.l0 k m all z n s i) n (fun i s => s.length ≤ 10001 ∧ ∀ y, y ∈ s ↔ fT all i x y = true) (fun o => ∃ s : List Int, o = (z, s, ()) ∧ s.length ≤ 10001 ∧ ∀ y, y ∈ s ↔ fT all n x y = true) k [x] ⟨by simp, fun y => by simp [fT]; exact eq_comm⟩
  (fun m s h => ⟨_, by simp only [scarfjointref40_reaches.l0, ar, cond_false], s, rfl, h⟩) (fun m s i hi h => .inr (by
   have l2 := sa (F := fun m (q : List Int) j => scarfjointref40_reaches.l2 k all z n s i m q j) all (fun j q => q.length ≤ j) (fun q => some (all, z, (n : Int), (i : Int), q, ())) (fun d q => xB s d q) k [] (by simp) (fun m q _ => by simp only [scarfjointref40_reaches.l2, ar, cond_false]) (fun m q j d hd hq => by
    have hj := aM hd
    have f1 : bX (q.length + 1) = true := aR (by omega)
    simp only [scarfjointref40_reaches.l2, aL hj, cond_true, idx_some hd, Option.bind_some, xb (k := k) (l := s) (x := d.frm) (by omega) hk, xb (k := k) (l := q) (x := d.to) (by omega) hk, eY, jO, List.length_cons, List.length_nil, Nat.zero_add, f1, xB, wS (show j < 4611686018427387904 by omega)]
    cases (s.any (· == d.frm) && !(q.any (· == d.to))) <;> rfl) (fun q j d hd hq => by
    unfold xB
    cases (s.any (· == d.frm) && !(q.any (· == d.to))) <;> simp <;> omega) (by omega)
   refine ⟨all.foldl (fun s' d => xB s d s') [], ⟨by have := uw s all []; simp at this; omega, fun y => ?_⟩, ?_⟩
   ·rw [uG, mL, List.any_eq_true]
    simp only [List.not_mem_nil, false_or]
    constructor
    ·rintro ⟨d, hd, h1, h2⟩
     exact ⟨d, hd, by rw [Bool.and_eq_true]; exact ⟨(h.2 _).1 h1, by simpa using h2⟩⟩
    ·rintro ⟨d, hd, h1⟩
     rw [Bool.and_eq_true] at h1
     exact ⟨d, hd, (h.2 _).2 h1.1, by simpa using h1.2⟩
   ·simp only [scarfjointref40_reaches.l0, aL hi, cond_true, l2, Option.bind_some, wS (show i < 4611686018427387904 by omega)])) (by omega)
 obtain ⟨s, rfl, p1, p2⟩ := p
 simp only [scarfjointref40_reaches, e, Option.bind_some, xb (k := k) (l := s) (x := z) (by omega) hk]
 have : s.any (· == z) = fT all n x z := by
  rw [Bool.eq_iff_iff, List.any_eq_true]
  constructor
  ·rintro ⟨y, hy, h⟩
   have : y = z := by simpa using h
   subst this; exact (p2 _).1 hy
  ·intro h; exact ⟨z, (p2 _).2 h, by simp⟩
 rw [this]
theorem nj {α B : Type} {p : α → Bool} {v : α → B} : ∀ (l : List α), bO (fun _ x => cond (p x) (some (v x)) none) l = (l.find? p).map v
 | l => by
  suffices H : ∀ (l : List α) (i : Nat) (g : Nat → Option B), (∀ j x, l[j]? = some x → g (i + j) = cond (p x) (some (v x)) none) → ce g i l.length = (l.find? p).map v from
   H l 0 _ (fun j x hx => by rw [Nat.zero_add, hx]; rfl)
  intro l
  induction l with
  | nil => intro i g h; rfl
  | cons x l ih =>
   intro i g h
   rw [List.length_cons, ce, show g i = _ from h 0 x rfl, List.find?_cons]
   cases hp : p x with
   | true => rfl
   | false =>
    simp only [cond_false]
    exact ih (i + 1) g fun j y hy => by rw [show i + 1 + j = i + (j + 1) by omega]; exact h (j + 1) y (by simpa using hy)
theorem qR {P : Nat} {all : List ae} (ha : yF P all) : ∀ (n k : Nat) (x z : Int), n ≤ 100 → 20000 + n + 1 < k → fT all (n + 1) x z = true → scarfjointref40_chain k all x z ((n + 1 : Nat) : Int) = some (chn all (n + 1) x z, ())
 | n, 0, x, z, _, h, _ => by omega
 | n, k + 1, x, z, hn, hk, hw => by
  have hl := ha.l
  have e1 : IntKind.i64.wrap (((n + 1 : Nat) : Int) - 1) = (n : Int) := by rw [jE (by omega) (by omega)]; omega
  have h := bP (F := scarfjointref40_chain.l0 k (scarfjointref40_chain k) all x z ((n + 1 : Nat) : Int)) all () (fun _ d => cond (d.frm == x && fT all n d.to z) (some (d :: chn all n d.to z, ())) none) k (fun m => by simp only [scarfjointref40_chain.l0, ar, cond_false]) (fun m i d hd _ => by
   have hi := aM hd
   have re := nd ha n (by omega) d.to z (show 20000 < k by omega)
   simp only [scarfjointref40_chain.l0, aL hi, cond_true, idx_some hd, Option.bind_some, e1, re, wS (show i < 4611686018427387904 by omega)]
   rw [show (d.frm != x) = !(d.frm == x) from rfl]
   cases (d.frm == x) with
   | false => rfl
   | true =>
    simp only [Bool.not_true, cond_false, Bool.true_and]
    cases n with
    | zero =>
     simp only [Nat.zero_add, Int.natCast_one, beq_self_eq_true, cond_true, fT]
     cases (d.to == z) <;> rfl
    | succ n =>
     have h1 : (((n + 1 + 1 : Nat) : Int) == 1) = false := by simp; omega
     rw [h1, cond_false]
     cases hw2 : fT all (n + 1) d.to z with
     | false => rfl
     | true =>
      have hc := qR ha n k d.to z (by omega) (by omega) hw2
      have f1 : bX (1 + (chn all (n + 1) d.to z).length) = true := aR (by rw [lB _ _ _ hw2]; omega)
      simp only [hc, cond_true, Option.bind_some, List.length_cons, List.length_nil, Nat.zero_add, f1]
      rfl) (by omega)
  rw [nj] at h
  simp only [scarfjointref40_chain, h, Option.bind_some, chn]
  cases all.find? (fun d => d.frm == x && fT all n d.to z) <;> rfl
end Go.Ev.Pl
end
