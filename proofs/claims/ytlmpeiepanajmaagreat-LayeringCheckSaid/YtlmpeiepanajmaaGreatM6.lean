import Derived.Test.YtlmpeiepanajmaaGreatM5
set_option linter.all false
section
set_option linter.unusedVariables false
namespace Go.Ev.Pl
def gz (t : a8) (p : aj) (i : Nat) (s : dM) : Int :=
 cond (d9 t p s) 6 (cond ((p.slots.take i).any fun y => y.node == s.node && y.attr == s.attr) 5 0)
def jp (t : a8) (r : aM) : Int :=
 cond (kI r.right.graph != 0) (kI r.right.graph) (cond (!qs t r.right.graph) 13 (cond (r.right.vars != r.left.vars || decide ((r.right.tests.length : Int) > 0)) 1
  (cond (decide ((r.right.slots.length : Int) > 10)) 3 (lm (ca (fun i x => cond (gz t r.right i x != 0) (some (gz t r.right i x, ())) none) r.right.slots)))))
theorem ui {t : a8} {p : aj} {s : dM} (h : jo t p.graph) (h1 : 0 ≤ s.node ∧ s.node < p.graph.nodes.length) {x : Int} (x1 : aB p.graph.nodes s.node = some x) :
  (decide (s.attr < 0) || (decide (s.attr ≥ ((be t x).length : Int)) || (decide (s.term.var < -1) || (decide (s.term.var ≥ p.vars) || (decide (s.term.add < -1000000) || decide (s.term.add > 1000000)))))) = d9 t p s := by
 have d1 : decide (s.node ≥ 0) = true := decide_eq_true h1.1
 have d3 : decide (s.node < (p.graph.nodes.length : Int)) = true := decide_eq_true h1.2
 simp only [d9, iW, gJ, d1, d3, x1, Bool.true_and]
 rw [Bool.eq_iff_iff]; simp <;> omega
theorem sN {t : a8} {p : aj} {s : dM} (h1 : (decide (s.node < 0) || decide (s.node ≥ (p.graph.nodes.length : Int))) = true) : d9 t p s = true := by
 have d2 : ∀ b, (decide (s.node ≥ 0) && (decide (s.node < (p.graph.nodes.length : Int)) && b)) = false := fun b => by
  rw [← Bool.and_assoc]; simp at *; intros; omega
 simp only [d9, iW, d2]; rfl
theorem sj {k : Nat} {t : a8} {r : aM} (h : jo t r.right.graph) (hs : r.right.slots.length ≤ 15) (hk : 2000 < k) {i : Nat} {x : dM} (hx : r.right.slots[i]? = some x) :
  gY k t r i = some (gz t r.right i x, ()) ∧ scarfjointref24_slot k t r.right i = some (gz t r.right i x, ()) := by
 have hi := aN hx
 have hn := h.gr.n
 have c1 := bu (l := r.right.slots.take i) (q := fun z6 => fE z6.1 x) (p := fun y => y.node == x.node && y.attr == x.attr) (fun y _ => by simp only [fE, eE, jP, Option.bind_some]) (cI (m := 20) (by simp; omega) (by omega))
 have c2 := nf (F := scarfjointref24_slot.l0 i r.right x) r.right.slots i () (5, ()) (fun y => y.node == x.node && y.attr == x.attr) k (by omega) (fun n => by simp only [scarfjointref24_slot.l0, aE, cond_false]) (fun n j y hj hy => by
  simp only [scarfjointref24_slot.l0, bf hj, cond_true, idx_some hy, Option.bind_some, eE, jP, wS (show j < 4611686018427387904 by omega)]) (by omega)
 simp only [gY, scarfjointref24_slot, idx_some hx, Option.bind_some, eE, gT, sg, c1, c2, jv, sQ (Nat.le_of_lt hi), xL, Bool.and_true, cond_true, Int.toNat_natCast, sV]
 cases h1 : (decide (x.node < 0) || decide (x.node ≥ (r.right.graph.nodes.length : Int))) with
 | true => simp only [gz, sN h1, cond_true, and_self]
 | false =>
  have h2 : 0 ≤ x.node ∧ x.node < r.right.graph.nodes.length := by simp at h1; omega
  obtain ⟨y, y1, y2, y3⟩ := bB h2.1 h2.2
  simp only [cond_false, y1, Option.bind_some, pf h.ok hk h.e, nL h.ok hk h.e, ld h y3, cond_true, ui h h2 y1, gz]
  cases d9 t r.right x with
  | true => (refine ⟨?_, ?_⟩ <;> first | rfl | trivial)
  | false => cases ((r.right.slots.take i).any fun y => y.node == x.node && y.attr == x.attr) <;> (refine ⟨?_, ?_⟩ <;> first | rfl | trivial)
theorem nR {k : Nat} {t : a8} {r : aM} (ht : t6 t) (h0 : ji t = 0) (hp : BP r.right) (hk : 2000 < k) : rule_right k t r = some (jp t r, ()) ∧ scarfjointref24_right k t r = some (jp t r, ()) := by
 have hs := hp.s
 have hg := hp.g
 simp only [rule_right, scarfjointref24_right, jp, (jS hg (show 200 < k by omega)).1, (jS hg (show 200 < k by omega)).2, Option.bind_some, eE, gT, uC hg]
 cases h4 : (kI r.right.graph != 0) with
 | true => (refine ⟨?_, ?_⟩ <;> first | rfl | trivial)
 | false =>
  have hgr := jl (show kI r.right.graph = 0 by simpa using h4)
  simp only [cond_false, nz hgr (show 200 < k by omega), Option.bind_some]
  cases h5 : qs t r.right.graph with
  | false => (refine ⟨?_, ?_⟩ <;> first | rfl | trivial)
  | true =>
   have hgt : jo t r.right.graph := ⟨ht, h0, hgr, h5⟩
   have l1 := bZ (F := rule_right.l1 k t r r.right.slots.length) r.right.slots () (fun i x => cond (gz t r.right i x != 0) (some (gz t r.right i x, ())) none) (Int.toNat (r.right.slots.length : Int) + 1) (fun n => by simp only [rule_right.l1, aE, cond_false]) (fun n i x hx _ => by
    simp only [rule_right.l1, bf (aN hx), cond_true, (sj hgt hs hk hx).1, Option.bind_some, cX, wS (show i < 4611686018427387904 by have := aN hx; omega)]) (by omega)
   have l2 := bZ (F := scarfjointref24_right.l0 k t r) r.right.slots () (fun i x => cond (gz t r.right i x != 0) (some (gz t r.right i x, ())) none) k (fun n => by simp only [scarfjointref24_right.l0, aE, cond_false]) (fun n i x hx _ => by
    simp only [scarfjointref24_right.l0, bf (aN hx), cond_true, (sj hgt hs hk hx).2, Option.bind_some, cX, wS (show i < 4611686018427387904 by have := aN hx; omega)]) (by omega)
   simp only [Bool.not_true, cond_false, l1, l2]
   cases (r.right.vars != r.left.vars || decide ((r.right.tests.length : Int) > 0)) <;> cases decide ((r.right.slots.length : Int) > 10) <;> first | (refine ⟨?_, ?_⟩ <;> first | rfl | trivial) | exact ⟨kj _, kj _⟩
def oC (l : List Int) (n : Int) (i : Nat) (x : Int) : Option (Int × Unit) :=
 cond (decide (x < 0) || decide (x ≥ n)) (some (6, ())) (cond (decide ((i : Int) > 0) && decide (x ≤ (l[i - 1]?).getD 0)) (some (12, ())) none)
def m0 (l : List Int) (n : Int) : Int := lm (ca (oC l n) l)
theorem oD {k : Nat} {l : List Int} (n : Int) (hl : l.length ≤ 1000) (hk : 2000 < k) : subgraph_list l n = some (m0 l n, ()) ∧ scarfjointref07_ascending k l n = some (m0 l n, ()) := by
 have step : ∀ (i : Nat) x, l[i]? = some x → (cond (decide ((i : Int) > 0)) ((aB l (IntKind.i64.wrap ((i : Int) - 1))).bind fun x7 => some (decide (x ≤ x7), ())) (some (false, ()))) = some (decide ((i : Int) > 0) && decide (x ≤ (l[i - 1]?).getD 0), ()) := fun i x hx => by
  have := aN hx
  by_cases h : (i : Int) > 0
  ·have e : IntKind.i64.wrap ((i : Int) - 1) = ((i - 1 : Nat) : Int) := by rw [jh (by omega) (by omega)]; omega
   have hg : l[i - 1]? = some l[i - 1] := List.getElem?_eq_getElem (by omega)
   simp only [h, decide_true, cond_true, e, idx_some hg, Option.bind_some, hg, Option.getD_some, Bool.true_and]
  ·simp only [h, decide_false, cond_false, Bool.false_and]
 have l1 := bZ (F := subgraph_list.l0 l n l l.length) l () (oC l n) (Int.toNat (l.length : Int) + 1) (fun m => by simp only [subgraph_list.l0, aE, cond_false]) (fun m i x hx _ => by
  simp only [subgraph_list.l0, oC, bf (aN hx), cond_true, idx_some hx, Option.bind_some, eE, gT, step i x hx, gv, j9, wS (show i < 4611686018427387904 by have := aN hx; omega)]) (by omega)
 have l2 := bZ (F := scarfjointref07_ascending.l0 l n) l () (oC l n) k (fun m => by simp only [scarfjointref07_ascending.l0, aE, cond_false]) (fun m i x hx _ => by
  simp only [scarfjointref07_ascending.l0, oC, bf (aN hx), cond_true, idx_some hx, Option.bind_some, eE, gT, step i x hx, gv, j9, wS (show i < 4611686018427387904 by have := aN hx; omega)]) (by omega)
 exact ⟨by rw [subgraph_list, l1]; exact kj _, by rw [scarfjointref07_ascending, l2]; exact kj _⟩
structure xD (l : List Int) (n : Nat) : Prop where
 ran : ∀ x ∈ l, 0 ≤ x ∧ x < n
 lt : ∀ (i j : Nat) x y, i < j → l[i]? = some x → l[j]? = some y → x < y
theorem oN {l : List Int} {n : Nat} (h : m0 l n = 0) : xD l n := by
 have h0 : ca (oC l n) l = none := by
  cases hf : ca (oC l n) l with
  | none => rfl
  | some z =>
   rw [m0, hf] at h
   obtain ⟨j, _, _, j3, _⟩ := dN hf
   obtain ⟨x, _, j5⟩ := Option.bind_eq_some_iff.1 j3
   simp only [oC] at j5
   cases h1 : (decide (x < 0) || decide (x ≥ (n : Int))) with
   | true => rw [h1] at j5; cases j5; cases h
   | false =>
    rw [h1] at j5
    cases h2 : (decide ((j : Int) > 0) && decide (x ≤ (l[j - 1]?).getD 0)) with
    | true => rw [h2] at j5; cases j5; cases h
    | false => rw [h2] at j5; cases j5
 rw [gp] at h0
 have key : ∀ (i : Nat) x, l[i]? = some x → (0 ≤ x ∧ x < n) ∧ (0 < i → (l[i - 1]?).getD 0 < x) := fun i x hx => by
  have := h0 i x hx
  simp only [oC] at this
  cases h1 : (decide (x < 0) || decide (x ≥ (n : Int))) with
  | true => rw [h1] at this; cases this
  | false =>
   rw [h1] at this
   cases h2 : (decide ((i : Int) > 0) && decide (x ≤ (l[i - 1]?).getD 0)) with
   | true => rw [h2] at this; cases this
   | false => simp at h1 h2; exact ⟨by omega, fun hi => by omega⟩
 refine ⟨fun x hx => ?_, fun i j x y hij hx hy => ?_⟩
 ·obtain ⟨i, hi, rfl⟩ := List.getElem_of_mem hx
  exact (key i _ (List.getElem?_eq_getElem hi)).1
 ·induction j generalizing y with
  | zero => omega
  | succ j ih =>
   have h1 := (key (j + 1) y hy).2 (by omega)
   have hjl : j < l.length := by have := aN hy; omega
   have hj : l[j]? = some l[j] := List.getElem?_eq_getElem hjl
   simp only [Nat.add_sub_cancel, hj, Option.getD_some] at h1
   by_cases e : i = j
   ·subst e; rw [hj] at hx; cases hx; exact h1
   ·have := ih _ (by omega) hj; omega
theorem yd {i j : Nat} (h : i + j ≤ 1000000) : IntKind.i64.wrap (Int.fdiv (IntKind.u64.wrap (IntKind.i64.wrap ((i : Int) + (j : Int)))) (2 ^ (min (Int.toNat (1 : Int)) (IntKind.bits .u64)))) = (((i + j) / 2 : Nat) : Int) := by
 have e1 : IntKind.i64.wrap ((i : Int) + (j : Int)) = ((i + j : Nat) : Int) := by rw [jh (by omega) (by omega)]; omega
 have e2 : IntKind.u64.wrap ((i + j : Nat) : Int) = ((i + j : Nat) : Int) := by
  simp only [IntKind.wrap, IntKind.bits, IntKind.signed, Bool.false_and]
  rw [if_neg (by decide)]; omega
 have e3 : (2 : Int) ^ (min (Int.toNat (1 : Int)) (IntKind.bits .u64)) = 2 := rfl
 rw [e1, e2, e3]
 have e4 : Int.fdiv ((i + j : Nat) : Int) 2 = (((i + j) / 2 : Nat) : Int) := by rw [Int.fdiv_eq_ediv_of_nonneg _ (by omega)]; omega
 rw [e4, jh (by omega) (by omega)]
theorem rD {l : List Int} {n : Nat} (x : Int) (N : Int) (ha : xD l n) (hl : l.length ≤ 1000) : ∀ (fuel i j : Nat), j - i < fuel → i ≤ j → j ≤ l.length → (∀ m y, m < i → l[m]? = some y → y < x) → (∀ m y, j ≤ m → l[m]? = some y → x ≤ y) →
  ∃ p : Nat, slices_BinarySearch_lint.l0 l x N fuel i j = some (l, x, N, (p : Int), ()) ∧ p ≤ l.length ∧ (∀ m y, m < p → l[m]? = some y → y < x) ∧ (∀ m y, p ≤ m → l[m]? = some y → x ≤ y)
 | 0, i, j, h, _, _, _, _ => by omega
 | fuel + 1, i, j, h, hij, hj, h1, h2 => by
  by_cases e : i = j
  ·subst e
   refine ⟨i, ?_, hj, h1, h2⟩
   simp only [slices_BinarySearch_lint.l0, aE, cond_false]
  ·have hlt : i < j := by omega
   have hm : (i + j) / 2 < l.length := by omega
   have hg : l[(i + j) / 2]? = some l[(i + j) / 2] := List.getElem?_eq_getElem hm
   have e1 : decide (0 ≤ (1 : Int)) = true := rfl
   have e2 : ∀ y : Int, (y != y) = false := fun y => by simp
   simp only [slices_BinarySearch_lint.l0, bf hlt, cond_true, e1, yd (show i + j ≤ 1000000 by omega), idx_some hg, Option.bind_some, fP, eI, e2, cond_false, wS (show (i + j) / 2 < 4611686018427387904 by omega)]
   by_cases hc : l[(i + j) / 2] < x
   ·simp only [hc, decide_true, cond_true]
    refine rD x N ha hl fuel _ j (by omega) (by omega) hj (fun m y hm' hy => ?_) h2
    by_cases e3 : m = (i + j) / 2
    ·subst e3; rw [hg] at hy; cases hy; exact hc
    ·have := ha.lt m _ y _ (show m < (i + j) / 2 by omega) hy hg; omega
   ·simp only [hc, decide_false, cond_false]
    refine rD x N ha hl fuel i _ (by omega) (by omega) (by omega) h1 (fun m y hm' hy => ?_)
    by_cases e3 : m = (i + j) / 2
    ·subst e3; rw [hg] at hy; cases hy; omega
    ·have := ha.lt _ m _ y (show (i + j) / 2 < m by omega) hg hy; omega
def nh (l : List Int) (x : Int) : Int := vz (l.findIdx? (· == x))
theorem om {k : Nat} {l : List Int} {n : Nat} (x : Int) (ha : xD l n) (hl : l.length ≤ 1000) (hk : 2000 < k) : ∃ p, slices_BinarySearch_lint k l x = some (p, l.any (x == ·), ()) ∧ (l.any (x == ·) = true → p = nh l x) := by
 obtain ⟨p, h1, h2, h3, h4⟩ := rD x (l.length : Int) ha hl k 0 l.length (by omega) (by omega) (Nat.le_refl _) (fun m y h => by omega) (fun m y h hy => by have := aN hy; omega)
 rw [slices_BinarySearch_lint, show (0 : Int) = ((0 : Nat) : Int) from rfl, h1]
 have e2 : ∀ y : Int, (y != y) = false := fun y => by simp
 simp only [Option.bind_some]
 by_cases hp : p < l.length
 ·have hg : l[p]? = some l[p] := List.getElem?_eq_getElem hp
  simp only [bf hp, cond_true, idx_some hg, Option.bind_some, dm, e2, cond_false]
  by_cases hx : l[p] = x
  ·have e3 : (l[p] == x) = true := by simpa using hx
   have e4 : l.any (x == ·) = true := List.any_eq_true.2 ⟨l[p], List.getElem_mem hp, by simp [hx]⟩
   simp only [e3, e4, cond_true, Option.bind_some]
   refine ⟨_, rfl, fun _ => ?_⟩
   have : l.findIdx? (· == x) = some p := by
    rw [List.findIdx?_eq_some_iff_getElem]
    refine ⟨hp, e3, fun m hm => ?_⟩
    have := h3 m _ hm (List.getElem?_eq_getElem (by omega))
    simp; omega
   rw [nh, this]; rfl
  ·have e3 : (l[p] == x) = false := by simpa using hx
   have e4 : l.any (x == ·) = false := by
    rw [List.any_eq_false]
    intro y hy
    obtain ⟨m, hm, rfl⟩ := List.getElem_of_mem hy
    have hgm := List.getElem?_eq_getElem hm
    by_cases h5 : m < p
    ·have := h3 m _ h5 hgm; simp; omega
    ·by_cases h6 : m = p
     ·subst h6; simp; omega
     ·have := ha.lt p m _ _ (by omega) hg hgm
      have := h4 p _ (Nat.le_refl _) hg
      simp; omega
   simp only [e3, e4, cond_false, Option.bind_some]
   exact ⟨_, rfl, fun h => by cases h⟩
 ·have e4 : l.any (x == ·) = false := by
   rw [List.any_eq_false]
   intro y hy
   obtain ⟨m, hm, rfl⟩ := List.getElem_of_mem hy
   have := h3 m _ (by omega) (List.getElem?_eq_getElem hm)
   simp; omega
  have e5 : ¬ ((p : Int) < (l.length : Int)) := by omega
  simp only [e4, e5, decide_false, cond_false, Option.bind_some]
  exact ⟨_, rfl, fun h => by cases h⟩
theorem pt {k : Nat} {l : List Int} (x : Int) (hl : l.length ≤ 1000) (hk : 2000 < k) : scarfjointref07_index k l x = some (nh l x, ()) := by
 have := bZ (F := scarfjointref07_index.l0 l x) l () (fun i y => cond (y == x) (some ((i : Int), ())) none) k (fun m => by simp only [scarfjointref07_index.l0, aE, cond_false]) (fun m i y hx _ => by
  simp only [scarfjointref07_index.l0, bf (aN hx), cond_true, idx_some hx, Option.bind_some, cX, wS (show i < 4611686018427387904 by have := aN hx; omega)]) (by omega)
 rw [scarfjointref07_index, this]
 have h2 := lF (l := l) (q := fun z => some (z.1 == x)) (p := (· == x)) (fun _ _ => rfl) (cI hl (by omega))
 rw [kK, nB (p := (· == x)) (fun _ _ => rfl) (cI hl (by omega))] at h2
 rw [nh, ← h2]
 have e : ca (fun (i : Nat) (y : Int) => cond (y == x) (some ((i : Int), ())) none) l = db (fun i => l[i]?.bind fun y => cond (y == x) (some ((i : Int), ())) none) 0 l.length := rfl
 rw [e]
theorem qC {k : Nat} {l : List Int} (x : Int) (hl : l.length ≤ 20000) (hk : 20000 < k) : scarfjointref07_has k l x = some (l.any (x == ·), ()) ∧ scarfjointref24_has k l x = some (l.any (x == ·), ()) := by
 have e : l.any (x == ·) = l.any (· == x) := l7 fun y _ => by rw [Bool.eq_iff_iff]; simp; exact eq_comm
 rw [e]
 constructor
 ·have := bZ (F := scarfjointref07_has.l0 l x) l () (fun i y => cond (y == x) (some (true, ())) none) k (fun m => by simp only [scarfjointref07_has.l0, aE, cond_false]) (fun m i y hx _ => by
   simp only [scarfjointref07_has.l0, bf (aN hx), cond_true, idx_some hx, Option.bind_some, cX, wS (show i < 4611686018427387904 by have := aN hx; omega)]) (by omega)
  rw [scarfjointref07_has, this, bH (· == x)]
  cases l.any (· == x) <;> rfl
 ·have := bZ (F := scarfjointref24_has.l0 l x) l () (fun i y => cond (y == x) (some (true, ())) none) k (fun m => by simp only [scarfjointref24_has.l0, aE, cond_false]) (fun m i y hx _ => by
   simp only [scarfjointref24_has.l0, bf (aN hx), cond_true, idx_some hx, Option.bind_some, cX, wS (show i < 4611686018427387904 by have := aN hx; omega)]) (by omega)
  rw [scarfjointref24_has, this, bH (· == x)]
  cases l.any (· == x) <;> rfl
end Go.Ev.Pl
end
section
set_option linter.unusedVariables false
namespace Go.Ev.Pl
theorem j6 {α β : Type} (f : α → β) (l : List α) : (List.range l.length).flatMap (fun i => (l[i]?).elim [] fun x => [f x]) = l.map f := by
 have h := congrArg (List.map f) (nE l)
 rw [List.map_flatMap] at h
 rw [← h]
 congr 1
 funext i
 cases l[i]? <;> rfl
def pO (g : ah) (p : ef) (x : Int) : Bool := match aB g.edges x with | some e => !(p.nodes.any (e.frm == ·)) || !(p.nodes.any (e.to == ·)) | none => false
def rK (g : ah) (p : ef) : Int :=
 cond (m0 p.nodes g.nodes.length != 0) (m0 p.nodes g.nodes.length) (cond (m0 p.edges g.edges.length != 0) (m0 p.edges g.edges.length) (cond (p.edges.any (pO g p)) 14 0))
def jX (g : ah) (p : ef) : Int := cond (kI g != 0) (kI g) (rK g p)
structure lW (p : ef) : Prop where
 n : p.nodes.length ≤ 140
 e : p.edges.length ≤ 140
theorem qn {k : Nat} {g : ah} {p : ef} (hp : lW p) (hk : 20000 < k) : subgraph_part k g p = some (rK g p, ()) ∧ scarfjointref07_Right k g p = some (rK g p, ()) := by
 have h1 := hp.n
 have h2 := hp.e
 simp only [subgraph_part, scarfjointref07_Right, rK, (oD (k := k) (l := p.nodes) g.nodes.length (by omega) (by omega)).1, (oD (k := k) (l := p.nodes) g.nodes.length (by omega) (by omega)).2, (oD (k := k) (l := p.edges) g.edges.length (by omega) (by omega)).1, (oD (k := k) (l := p.edges) g.edges.length (by omega) (by omega)).2, Option.bind_some]
 cases h3 : (m0 p.nodes g.nodes.length != 0) with
 | true => (refine ⟨?_, ?_⟩ <;> first | rfl | trivial)
 | false =>
  cases h4 : (m0 p.edges g.edges.length != 0) with
  | true => (refine ⟨?_, ?_⟩ <;> first | rfl | trivial)
  | false =>
   have a1 := oN (show m0 p.nodes g.nodes.length = 0 by simpa using h3)
   have a2 := oN (show m0 p.edges g.edges.length = 0 by simpa using h4)
   have l1 := bZ (F := subgraph_part.l0 k g p p.edges p.edges.length) p.edges () (fun _ x => cond (pO g p x) (some (14, ())) none) (Int.toNat (p.edges.length : Int) + 1) (fun n => by simp only [subgraph_part.l0, aE, cond_false]) (fun n i x hx _ => by
    have hr := a2.ran x (dn hx)
    obtain ⟨e, e1, _, _⟩ := bB hr.1 hr.2
    obtain ⟨q1, q2, _⟩ := om (k := k) e.frm a1 (by omega) (by omega)
    obtain ⟨r1, r2, _⟩ := om (k := k) e.to a1 (by omega) (by omega)
    simp only [subgraph_part.l0, fc, bf (aN hx), cond_true, idx_some hx, e1, q2, r2, Option.bind_some, eE, gT, pO, cX, wS (show i < 4611686018427387904 by have := aN hx; omega)]) (by omega)
   have l2 := bZ (F := scarfjointref07_Right.l0 k g p) p.edges () (fun _ x => cond (pO g p x) (some (14, ())) none) k (fun n => by simp only [scarfjointref07_Right.l0, aE, cond_false]) (fun n i x hx _ => by
    have hr := a2.ran x (dn hx)
    obtain ⟨e, e1, _, _⟩ := bB hr.1 hr.2
    simp only [scarfjointref07_Right.l0, bf (aN hx), cond_true, idx_some hx, e1, (qC (k := k) (l := p.nodes) e.frm (by omega) (by omega)).1, (qC (k := k) (l := p.nodes) e.to (by omega) (by omega)).1, Option.bind_some, eE, gT, pO, cX, wS (show i < 4611686018427387904 by have := aN hx; omega)]) (by omega)
   rw [bH (pO g p)] at l1 l2
   simp only [cond_false, l1, l2, Option.bind_some, fx]
   cases p.edges.any (pO g p) <;> (refine ⟨?_, ?_⟩ <;> first | rfl | trivial)
theorem qL {k : Nat} {g : ah} {p : ef} (hg : BG g) (hp : lW p) (hk : 20000 < k) : ec k g p = some (jX g p, ()) ∧ bh k g p = some (jX g p, ()) := by
 simp only [ec, bh, jX, (jS hg (show 200 < k by omega)).1, (jS hg (show 200 < k by omega)).2, (qn (g := g) hp hk).1, (qn (g := g) hp hk).2, Option.bind_some, eE, and_self]
structure wz (g : ah) (p : ef) : Prop where
 gr : xI g
 n : xD p.nodes g.nodes.length
 e : xD p.edges g.edges.length
 d : ∀ x ∈ p.edges, ∀ e, aB g.edges x = some e → p.nodes.any (e.frm == ·) = true ∧ p.nodes.any (e.to == ·) = true
theorem tp {c y : Int} (h : cond (c != 0) c y = 0) : c = 0 ∧ y = 0 := by
 cases hc : (c != 0) with
 | true => rw [hc, cond_true] at h; rw [h] at hc; cases hc
 | false => rw [hc] at h; exact ⟨by simpa using hc, h⟩
theorem xp {b : Bool} {c y : Int} (h : cond b c y = 0) (hc : c ≠ 0) : b = false ∧ y = 0 := by
 cases b with
 | true => exact absurd h hc
 | false => exact ⟨rfl, h⟩
theorem ve {g : ah} {p : ef} (h : jX g p = 0) : wz g p := by
 obtain ⟨h1, h⟩ := tp h
 obtain ⟨h2, h⟩ := tp h
 obtain ⟨h3, h⟩ := tp h
 obtain ⟨h4, h⟩ := xp h (by decide)
 refine ⟨jl h1, oN h2, oN h3, fun x hx e he => ?_⟩
 have := List.any_eq_false.1 h4 x hx
 simp only [pO, he] at this
 cases h6 : p.nodes.any (e.frm == ·) <;> cases h7 : p.nodes.any (e.to == ·) <;> simp only [h6, h7] at this <;> simp at this ⊢
def wU (g : ah) (p : ef) (x : Int) : Edge := match aB g.edges x with | some e => ⟨e.typ, nh p.nodes e.frm, nh p.nodes e.to⟩ | none => ⟨0, 0, 0⟩
def sO (g : ah) (p : ef) : ah := ⟨p.nodes.map fun i => (aB g.nodes i).getD 0, p.edges.map (wU g p)⟩
abbrev yf := ((List Int) × ((List Edge) × Unit)) × (((List Int) × ((List Int) × Unit)) × (Int × Unit))
def xb (g : ah) (p : ef) : yf := cond (jX g p != 0) (([], [], ()), ([], [], ()), jX g p, ()) (((sO g p).nodes, (sO g p).edges, ()), (p.nodes, p.edges, ()), 0, ())
theorem vY {k : Nat} {g : ah} {p : ef} (hg : BG g) (hp : lW p) (hk : 20000 < k) : subgraph_Extract k g p = some (xb g p) ∧ scarfjointref07_Extract k g p = some (xb g p) := by
 have h1 := hp.n
 have h2 := hp.e
 simp only [subgraph_Extract, scarfjointref07_Extract, (qL hg hp hk).1, (qL hg hp hk).2, Option.bind_some, xb]
 cases h3 : (jX g p != 0) with
 | true => (refine ⟨?_, ?_⟩ <;> first | rfl | trivial)
 | false =>
  have ok := ve (show jX g p = 0 by simpa using h3)
  have bn : ∀ {β : Type} (f : Nat → List β) (acc : List β) (i : Nat), (∀ j, (f j).length ≤ 1) → acc = [] ++ (List.range i).flatMap f → i ≤ 140 → acc.length + 1 ≤ 1000000 := fun f acc i hf hacc hi => by
   have := eR hf i; rw [List.nil_append] at hacc; subst hacc; omega
  have l1 := jF (F := subgraph_Extract.l0 g p [] [] [] [] [] p.nodes p.nodes.length) p.nodes.length (fun i => (p.nodes[i]?).elim [] fun x => [(aB g.nodes x).getD 0]) (fun acc => some (g, p, ([], [], ()), ([], [], ()), (acc, [], ()), ())) [] (Int.toNat (p.nodes.length : Int) + 1) (fun n acc => by simp only [subgraph_Extract.l0, aE, cond_false]) (fun n acc i hi hacc => by
   have hx : p.nodes[i]? = some p.nodes[i] := List.getElem?_eq_getElem hi
   have hr := ok.n.ran _ (List.getElem_mem hi)
   obtain ⟨e, e1, _, _⟩ := bB hr.1 hr.2
   have hb := bn _ acc i (fun j => by cases p.nodes[j]? <;> simp) hacc (by omega)
   simp only [subgraph_Extract.l0, bf hi, cond_true, idx_some hx, e1, hx, Option.bind_some, Option.elim, Option.getD_some, List.length_cons, List.length_nil, Nat.zero_add, bO hb, wS (show i < 4611686018427387904 by omega)]) (by omega)
  have l2 := jF (F := scarfjointref07_Extract.l0 g p [] [] [] [] []) p.nodes.length (fun i => (p.nodes[i]?).elim [] fun x => [(aB g.nodes x).getD 0]) (fun acc => some (g, p, ([], [], ()), ([], [], ()), (acc, [], ()), ())) [] k (fun n acc => by simp only [scarfjointref07_Extract.l0, aE, cond_false]) (fun n acc i hi hacc => by
   have hx : p.nodes[i]? = some p.nodes[i] := List.getElem?_eq_getElem hi
   have hr := ok.n.ran _ (List.getElem_mem hi)
   obtain ⟨e, e1, _, _⟩ := bB hr.1 hr.2
   have hb := bn _ acc i (fun j => by cases p.nodes[j]? <;> simp) hacc (by omega)
   simp only [scarfjointref07_Extract.l0, bf hi, cond_true, idx_some hx, e1, hx, Option.bind_some, Option.elim, Option.getD_some, List.length_cons, List.length_nil, Nat.zero_add, bO hb, wS (show i < 4611686018427387904 by omega)]) (by omega)
  rw [j6 (fun x => (aB g.nodes x).getD 0), List.nil_append] at l1 l2
  have hN : (sO g p).nodes = p.nodes.map (fun x => (aB g.nodes x).getD 0) := rfl
  rw [hN]
  generalize p.nodes.map (fun x => (aB g.nodes x).getD 0) = N at *
  have l3 := jF (F := subgraph_Extract.l2 k g p [] [] [] [] N p.edges p.edges.length) p.edges.length (fun i => (p.edges[i]?).elim [] fun x => [wU g p x]) (fun acc => some (p, ([], [], ()), ([], [], ()), (N, acc, ()), ())) [] (Int.toNat (p.edges.length : Int) + 1) (fun n acc => by simp only [subgraph_Extract.l2, aE, cond_false]) (fun n acc i hi hacc => by
   have hx : p.edges[i]? = some p.edges[i] := List.getElem?_eq_getElem hi
   have hr := ok.e.ran _ (List.getElem_mem hi)
   obtain ⟨e, e1, _, _⟩ := bB hr.1 hr.2
   obtain ⟨d1, d2⟩ := ok.d _ (List.getElem_mem hi) e e1
   obtain ⟨q1, q2, q3⟩ := om (k := k) e.frm ok.n (by omega) (by omega)
   obtain ⟨r1, r2, r3⟩ := om (k := k) e.to ok.n (by omega) (by omega)
   have hb := bn _ acc i (fun j => by cases p.edges[j]? <;> simp) hacc (by omega)
   simp only [subgraph_Extract.l2, bf hi, cond_true, idx_some hx, e1, hx, q2, r2, q3 d1, r3 d2, wU, Option.bind_some, Option.elim, List.length_cons, List.length_nil, Nat.zero_add, bO hb, wS (show i < 4611686018427387904 by omega)]) (by omega)
  have l4 := jF (F := scarfjointref07_Extract.l2 k g p [] [] [] [] N) p.edges.length (fun i => (p.edges[i]?).elim [] fun x => [wU g p x]) (fun acc => some (p, ([], [], ()), ([], [], ()), (N, acc, ()), ())) [] k (fun n acc => by simp only [scarfjointref07_Extract.l2, aE, cond_false]) (fun n acc i hi hacc => by
   have hx : p.edges[i]? = some p.edges[i] := List.getElem?_eq_getElem hi
   have hr := ok.e.ran _ (List.getElem_mem hi)
   obtain ⟨e, e1, _, _⟩ := bB hr.1 hr.2
   have hb := bn _ acc i (fun j => by cases p.edges[j]? <;> simp) hacc (by omega)
   simp only [scarfjointref07_Extract.l2, bf hi, cond_true, idx_some hx, e1, hx, pt (k := k) (l := p.nodes) e.frm (by omega) (by omega), pt (k := k) (l := p.nodes) e.to (by omega) (by omega), wU, Option.bind_some, Option.elim, List.length_cons, List.length_nil, Nat.zero_add, bO hb, wS (show i < 4611686018427387904 by omega)]) (by omega)
  rw [j6 (wU g p), List.nil_append] at l3 l4
  simp only [cond_false, l1, l2, l3, l4, Option.bind_some, i9 (show p.nodes.length ≤ 1000000 by omega), i9 (show p.edges.length ≤ 1000000 by omega), List.length_nil, Nat.zero_add, List.nil_append, bO (show p.nodes.length ≤ 1000000 by omega), bO (show p.edges.length ≤ 1000000 by omega), cond_true, sO, and_self]
theorem tM {g : ah} {p : ef} (hp : lW p) : BG (sO g p) := ⟨by have := hp.n; simp [sO]; omega, by have := hp.e; simp [sO]; omega⟩
def sM (a b : ah) (i : Nat) (x : Int) : Option (Int × Unit) :=
 cond (decide (x < 0) || decide (x ≥ (b.nodes.length : Int))) (some (6, ())) (cond ((aB b.nodes x).getD 0 != (a.nodes[i]?).getD 0) (some (13, ())) none)
def sL (a b : ah) (m : aL) (i : Nat) (x : Int) : Option (Int × Unit) :=
 cond (decide (x < 0) || decide (x ≥ (b.edges.length : Int))) (some (6, ())) (match a.edges[i]?, aB b.edges x with
  | some e, some f => cond (e.typ != f.typ) (some (13, ())) (cond ((aB m.nodes e.frm).getD 0 != f.frm || (aB m.nodes e.to).getD 0 != f.to) (some (11, ())) none)
  | _, _ => none)
def kO (a b : ah) (m : aL) : Int :=
 cond (kI a != 0) (kI a) (cond (kI b != 0) (kI b) (cond (((m.nodes.length : Int) != (a.nodes.length : Int)) || ((m.edges.length : Int) != (a.edges.length : Int))) 20
  (match ca (sM a b) m.nodes with | some z => z.1 | none => lm (ca (sL a b m) m.edges))))
theorem oU {k : Nat} {a b : ah} {m : aL} (ha : BG a) (hb : BG b) (hk : 20000 < k) : morphism_Valid a b m = some (kO a b m, ()) ∧ scarfjointref06_Valid k a b m = some (kO a b m, ()) := by
 have h1 := ha.n
 have h2 := ha.e
 simp only [morphism_Valid, scarfjointref06_Valid, kO, (jS ha (show 200 < k by omega)).1, (jS ha (show 200 < k by omega)).2, (jS hb (show 200 < k by omega)).1, (jS hb (show 200 < k by omega)).2, Option.bind_some, eE, gT]
 cases h3 : (kI a != 0) with
 | true => (refine ⟨?_, ?_⟩ <;> first | rfl | trivial)
 | false =>
  cases h4 : (kI b != 0) with
  | true => (refine ⟨?_, ?_⟩ <;> first | rfl | trivial)
  | false =>
   cases h5 : (((m.nodes.length : Int) != (a.nodes.length : Int)) || ((m.edges.length : Int) != (a.edges.length : Int))) with
   | true => (refine ⟨?_, ?_⟩ <;> first | rfl | trivial)
   | false =>
    have oa := jl (show kI a = 0 by simpa using h3)
    have ob := jl (show kI b = 0 by simpa using h4)
    have hn : m.nodes.length = a.nodes.length := by simp at h5; omega
    have he : m.edges.length = a.edges.length := by simp at h5; omega
    have l1 := bZ (F := morphism_Valid.l0 a b m m.nodes m.nodes.length) m.nodes (a, b, m, ()) (sM a b) (Int.toNat (m.nodes.length : Int) + 1) (fun n => by simp only [morphism_Valid.l0, aE, cond_false]) (fun n i x hx _ => by
     have hi := aN hx
     have hy : a.nodes[i]? = some a.nodes[i] := List.getElem?_eq_getElem (by omega)
     simp only [morphism_Valid.l0, sM, bf hi, cond_true, idx_some hx, idx_some hy, hy, Option.bind_some, Option.getD_some, eE, gT, gv, j9, wS (show i < 4611686018427387904 by omega)]
     cases h6 : (decide (x < 0) || decide (x ≥ (b.nodes.length : Int))) with
     | true => rfl
     | false =>
      have : 0 ≤ x ∧ x < b.nodes.length := by simp at h6; omega
      obtain ⟨z, z1, _, _⟩ := bB this.1 this.2
      simp only [cond_false, z1, Option.bind_some, Option.getD_some]) (by omega)
    have l2 := bZ (F := scarfjointref06_Valid.l0 a b m) m.nodes (a, b, m, ()) (sM a b) k (fun n => by rw [hn]; simp only [scarfjointref06_Valid.l0, aE, cond_false]) (fun n i x hx _ => by
     have hi := aN hx
     have hy : a.nodes[i]? = some a.nodes[i] := List.getElem?_eq_getElem (by omega)
     simp only [scarfjointref06_Valid.l0, sM, bf (show i < a.nodes.length by omega), cond_true, idx_some hx, idx_some hy, hy, Option.bind_some, Option.getD_some, eE, gT, gv, j9, wS (show i < 4611686018427387904 by omega)]
     cases h6 : (decide (x < 0) || decide (x ≥ (b.nodes.length : Int))) with
     | true => rfl
     | false =>
      have : 0 ≤ x ∧ x < b.nodes.length := by simp at h6; omega
      obtain ⟨z, z1, _, _⟩ := bB this.1 this.2
      simp only [cond_false, z1, Option.bind_some, Option.getD_some]) (by omega)
    have l3 := bZ (F := morphism_Valid.l2 a b m m.edges m.edges.length) m.edges () (sL a b m) (Int.toNat (m.edges.length : Int) + 1) (fun n => by simp only [morphism_Valid.l2, aE, cond_false]) (fun n i x hx _ => by
     have hi := aN hx
     have hy : a.edges[i]? = some a.edges[i] := List.getElem?_eq_getElem (by omega)
     have hr := oa.edge _ (dn hy)
     obtain ⟨u, u1, _, _⟩ := bB (l := m.nodes) (i := a.edges[i].frm) (by omega) (by omega)
     obtain ⟨v, v1, _, _⟩ := bB (l := m.nodes) (i := a.edges[i].to) (by omega) (by omega)
     simp only [morphism_Valid.l2, sL, bf hi, cond_true, idx_some hx, idx_some hy, hy, Option.bind_some, Option.getD_some, eE, gT, gv, wS (show i < 4611686018427387904 by omega)]
     cases h6 : (decide (x < 0) || decide (x ≥ (b.edges.length : Int))) with
     | true => rfl
     | false =>
      have : 0 ≤ x ∧ x < b.edges.length := by simp at h6; omega
      obtain ⟨z, z1, _, _⟩ := bB this.1 this.2
      simp only [cond_false, z1, u1, v1, Option.bind_some, Option.getD_some, eE, gT, gv, j9]) (by omega)
    have l4 := bZ (F := scarfjointref06_Valid.l2 a b m) m.edges () (sL a b m) k (fun n => by rw [he]; simp only [scarfjointref06_Valid.l2, aE, cond_false]) (fun n i x hx _ => by
     have hi := aN hx
     have hy : a.edges[i]? = some a.edges[i] := List.getElem?_eq_getElem (by omega)
     have hr := oa.edge _ (dn hy)
     obtain ⟨u, u1, _, _⟩ := bB (l := m.nodes) (i := a.edges[i].frm) (by omega) (by omega)
     obtain ⟨v, v1, _, _⟩ := bB (l := m.nodes) (i := a.edges[i].to) (by omega) (by omega)
     simp only [scarfjointref06_Valid.l2, sL, bf (show i < a.edges.length by omega), cond_true, idx_some hx, idx_some hy, hy, Option.bind_some, Option.getD_some, eE, gT, gv, wS (show i < 4611686018427387904 by omega)]
     cases h6 : (decide (x < 0) || decide (x ≥ (b.edges.length : Int))) with
     | true => rfl
     | false =>
      have : 0 ≤ x ∧ x < b.edges.length := by simp at h6; omega
      obtain ⟨z, z1, _, _⟩ := bB this.1 this.2
      simp only [cond_false, z1, u1, v1, Option.bind_some, Option.getD_some, eE, gT, gv, j9]) (by omega)
    simp only [cond_false, l1, l2, Option.bind_some]
    cases ca (sM a b) m.nodes with
    | some z => (refine ⟨?_, ?_⟩ <;> first | rfl | trivial)
    | none =>
     simp only [Option.elim, aF, l3, l4, Option.bind_some]
     cases ca (sL a b m) m.edges <;> (refine ⟨?_, ?_⟩ <;> first | rfl | trivial)
end Go.Ev.Pl
end
section
set_option linter.unusedVariables false
namespace Go.Ev.Pl
def kp (s : List Int) (i : Nat) : List Int := match s[i]? with | none => [] | some x => if 0 < i ∧ s[i - 1]? = some x then [] else [x]
def fi (s : List Int) (m : Nat) : List Int := (List.range m).flatMap (kp s)
theorem iU (s : List Int) (m : Nat) : fi s (m + 1) = fi s m ++ kp s m := by simp [fi, List.range_succ, List.flatMap_append]
theorem tA (s : List Int) (i : Nat) : (kp s i).length ≤ 1 := by
 unfold kp; cases s[i]? with
 | none => simp
 | some x => dsimp only; split <;> simp
theorem uL (s : List Int) (m : Nat) : (fi s m).length ≤ m := by
 have := eR (tA s) m; simpa [fi] using this
theorem kr {s : List Int} {i0 : Nat} (hN : s.length ≤ 1000000) (hi0 : i0 < s.length) : ∀ (c j fuel : Nat) (q0 : List Int) (kk : Nat), s.length - i0 - j = c → 1 ≤ j → j ≤ s.length - i0 → s.length - i0 - j < fuel → q0.length = s.length →
  (∀ p, i0 + j - 1 ≤ p → q0[p]? = s[p]?) → kk ≤ i0 + j - 1 → q0.take kk = fi s (i0 + j) → kk = (fi s (i0 + j)).length →
  ∃ q, slices_Compact_lint.l2 fuel q0 kk i0 s.length j = some (q, ((fi s s.length).length : Int), ()) ∧ q.length = s.length ∧ q.take (fi s s.length).length = fi s s.length
 | c, j, 0, q0, kk, _, _, _, h, _, _, _, _, _ => by omega
 | c, j, fuel + 1, q0, kk, hc, hj1, hj, hf, hl, hp, hk, ht, hkl => by
  by_cases e : j = s.length - i0
  ·subst e
   have e1 : i0 + (s.length - i0) = s.length := by omega
   rw [e1] at ht hkl
   refine ⟨q0, ?_, hl, by rw [← hkl]; exact ht⟩
   simp only [slices_Compact_lint.l2, Int.toNat_natCast, aE, cond_false, ← hkl]
  ·have hlt : j < s.length - i0 := by omega
   have hx : q0[i0 + j]? = some s[i0 + j] := by rw [hp _ (by omega)]; exact List.getElem?_eq_getElem (by omega)
   have hs1 : s[i0 + j]? = some s[i0 + j] := List.getElem?_eq_getElem (by omega)
   have hy : q0[i0 + (j - 1)]? = some s[i0 + (j - 1)] := by rw [hp _ (by omega)]; exact List.getElem?_eq_getElem (by omega)
   have hs2 : s[i0 + j - 1]? = some s[i0 + (j - 1)] := by rw [show i0 + j - 1 = i0 + (j - 1) by omega]; exact List.getElem?_eq_getElem (by omega)
   have ew : IntKind.i64.wrap ((j : Int) - 1) = ((j - 1 : Nat) : Int) := by rw [jh (by omega) (by omega)]; omega
   have hsu := iU s (i0 + j)
   simp only [slices_Compact_lint.l2, Int.toNat_natCast, bf hlt, bf (show j - 1 < s.length - i0 by omega), jv, ew, tK (show s.length ≤ q0.length by omega), Bool.and_true, cond_true, fH hx, fH hy, Option.bind_some, wS (show j < 4611686018427387904 by omega), wS (show kk < 4611686018427387904 by omega)]
   by_cases hne : s[i0 + j] = s[i0 + (j - 1)]
   ·have e2 : (s[i0 + j] != s[i0 + (j - 1)]) = false := by simp [hne]
    have e3 : kp s (i0 + j) = [] := by simp only [kp, hs1, hs2]; rw [if_pos ⟨by omega, by rw [hne]⟩]
    rw [e3, List.append_nil] at hsu
    rw [e2, cond_false]
    exact kr hN hi0 (c - 1) (j + 1) fuel q0 kk (by omega) (by omega) (by omega) (by omega) hl (fun p h => hp p (by omega)) (by omega) (by rw [show i0 + (j + 1) = i0 + j + 1 by omega, hsu]; exact ht) (by rw [show i0 + (j + 1) = i0 + j + 1 by omega, hsu]; exact hkl)
   ·have e2 : (s[i0 + j] != s[i0 + (j - 1)]) = true := by simp [hne]
    have e3 : kp s (i0 + j) = [s[i0 + j]] := by
     simp only [kp, hs1, hs2]
     rw [if_neg]; rintro ⟨_, h⟩; exact hne (Option.some.inj h).symm
    rw [e3] at hsu
    have hkl' : kk < q0.length := by omega
    have hz : q0[kk]? = some q0[kk] := List.getElem?_eq_getElem hkl'
    rw [e2, cond_true]
    simp only [bf hkl', jv, Bool.and_true, cond_true, fH hz, Option.bind_some]
    refine kr hN hi0 (c - 1) (j + 1) fuel (q0.set kk s[i0 + j]) (kk + 1) (by omega) (by omega) (by omega) (by omega) (by simpa using hl) (fun p h => ?_) (by omega) ?_ (by rw [show i0 + (j + 1) = i0 + j + 1 by omega, hsu]; simp [← hkl])
    ·rw [List.getElem?_set_ne (by omega)]; exact hp p (by omega)
    ·rw [show i0 + (j + 1) = i0 + j + 1 by omega, hsu, ← ht, List.take_add_one]
     rw [List.take_set, List.set_eq_of_length_le (by simp; omega)]
     simp [hkl']
theorem mV {k : Nat} {s : List Int} (hN : s.length ≤ 1000000) (hk : s.length < k) : ∀ (c i fuel : Nat), s.length - i = c → 1 ≤ i → i ≤ s.length → s.length - i < fuel → fi s i = s.take i →
  ∃ o, slices_Compact_lint.l0 k s fuel i = some o ∧ ((o = .inl (s, ()) ∧ fi s s.length = s) ∨ ∃ r, o = .inr (r, (((0 : Nat) : Int), (((fi s s.length).length : Nat) : Int)), ()) ∧ r.take (fi s s.length).length = fi s s.length)
 | c, i, 0, _, _, _, h, _ => by omega
 | c, i, fuel + 1, hc, h1, hi, hf, ht => by
  by_cases e : i = s.length
  ·subst e
   refine ⟨.inl (s, ()), by simp only [slices_Compact_lint.l0, aE, cond_false], .inl ⟨rfl, ?_⟩⟩
   rw [ht]; simp
  ·have hlt : i < s.length := by omega
   have hx : s[i]? = some s[i] := List.getElem?_eq_getElem hlt
   have hy : s[i - 1]? = some s[i - 1] := List.getElem?_eq_getElem (by omega)
   have ew : IntKind.i64.wrap ((i : Int) - 1) = ((i - 1 : Nat) : Int) := by rw [jh (by omega) (by omega)]; omega
   have hsu := iU s i
   simp only [slices_Compact_lint.l0, Int.toNat_natCast, bf hlt, bf (show i - 1 < s.length by omega), jv, ew, sQ hi, sQ (Nat.le_refl s.length), Bool.and_true, cond_true, fH hx, fH hy, Option.bind_some, wS (show i < 4611686018427387904 by omega)]
   by_cases he : s[i] = s[i - 1]
   ·have e2 : (s[i] == s[i - 1]) = true := by simp [he]
    have e3 : kp s i = [] := by simp only [kp, hx, hy]; rw [if_pos ⟨by omega, by rw [he]⟩]
    rw [e3, List.append_nil] at hsu
    obtain ⟨q, q1, q2, q3⟩ := kr hN hlt (s.length - i - 1) 1 k s i (by omega) (by omega) (by omega) (by omega) rfl (fun p _ => rfl) (by omega) (by rw [hsu, ht]) (by rw [hsu, ht]; simp; omega)
    have hm := uL s s.length
    rw [show ((1 : Nat) : Int) = 1 from rfl] at q1
    rw [e2, cond_true, q1]
    generalize (fi s s.length).length = m at *
    have e5 : (n4 q m (List.replicate (s.length - m) (0 : Int))).length = s.length := by simp [n4]; omega
    simp only [Option.bind_some, q2, jv, sQ hm, sQ (Nat.le_refl s.length), tK hm, tK (Nat.le_refl s.length), xL, Bool.and_true, cond_true, Int.toNat_natCast, e5]
    refine ⟨_, rfl, .inr ⟨_, rfl, ?_⟩⟩
    rw [n4, List.append_assoc, List.take_append_of_le_length (by simp; omega), List.take_take, Nat.min_self, q3]
   ·have e2 : (s[i] == s[i - 1]) = false := by simp [he]
    have e3 : kp s i = [s[i]] := by
     simp only [kp, hx, hy]
     rw [if_neg]; rintro ⟨_, h⟩; exact he (Option.some.inj h).symm
    rw [e3] at hsu
    rw [e2, cond_false]
    exact mV hN hk (c - 1) (i + 1) fuel (by omega) (by omega) (by omega) (by omega) (by rw [hsu, ht, List.take_add_one, hx]; rfl)
theorem mD {k : Nat} {s : List Int} (hN : s.length ≤ 1000000) (hk : s.length < k) :
  ∃ r, slices_Compact_lint k s = some (r, (0, ((fi s s.length).length : Int)), ()) ∧ r.take (fi s s.length).length = fi s s.length := by
 rw [slices_Compact_lint]
 by_cases h : s.length < 2
 ·have h' : (s.length : Int) < 2 := by omega
  have : fi s s.length = s := by
   match s, h with
   | [], _ => rfl
   | [x], _ => rfl
  simp only [h', decide_true, cond_true, this]
  exact ⟨_, rfl, by simp⟩
 ·have h' : ¬ ((s.length : Int) < 2) := by omega
  have h1 : fi s 1 = s.take 1 := by
   match s, h with
   | x :: _, _ => rfl
   | [], h => exact absurd (by simp) h
  obtain ⟨o, o1, o2⟩ := mV hN hk (s.length - 1) 1 k rfl (by omega) (by omega) (by omega) h1
  rw [show ((1 : Nat) : Int) = 1 from rfl] at o1
  simp only [h', decide_false, cond_false, o1, Option.bind_some]
  rcases o2 with ⟨rfl, o3⟩ | ⟨r, rfl, o3⟩
  ·simp only [aF, o3]; exact ⟨_, rfl, by simp⟩
  ·exact ⟨r, by simp only [aF, Int.toNat_natCast]; rfl, o3⟩
theorem kV (s : List Int) : ∀ m, m ≤ s.length → (fi s m).Sublist (s.take m)
 | 0, _ => by simp [fi]
 | m + 1, h => by
  have hx : s[m]? = some s[m] := List.getElem?_eq_getElem (by omega)
  rw [iU, List.take_add_one, hx]
  refine (kV s m (by omega)).append ?_
  simp only [kp, hx]
  split <;> simp
theorem tN {s : List Int} {x : Int} (h : x ∈ s) : x ∈ fi s s.length := by
 obtain ⟨i, hi, rfl⟩ := List.getElem_of_mem h
 suffices H : ∀ n, n ≤ i → s[n]? = some s[i] → s[i] ∈ fi s s.length from H i (Nat.le_refl _) (List.getElem?_eq_getElem hi)
 intro n
 induction n with
 | zero =>
  intro _ hx
  refine List.mem_flatMap.2 ⟨0, by simp; omega, ?_⟩
  simp [kp, hx]
 | succ n ih =>
  intro hn hx
  by_cases e : s[n]? = some s[i]
  ·exact ih (by omega) e
  ·refine List.mem_flatMap.2 ⟨n + 1, by simp; omega, ?_⟩
   simp [kp, hx, e]
theorem mw {s : List Int} (hs : s.Pairwise (· ≤ ·)) : ∀ m, m ≤ s.length → (fi s m).Pairwise (· < ·)
 | 0, _ => by simp [fi]
 | m + 1, h => by
  have hx : s[m]? = some s[m] := List.getElem?_eq_getElem (by omega)
  rw [iU, List.pairwise_append]
  refine ⟨mw hs m (by omega), ?_, fun a ha b hb => ?_⟩
  ·have := tA s m
   match hk : kp s m, this with
   | [], _ => simp
   | [y], _ => simp
  ·simp only [kp, hx] at hb
   split at hb
   ·simp at hb
   ·rename_i hn
    simp at hb
    subst hb
    have ha' := (kV s m (by omega)).subset ha
    obtain ⟨j, hj, rfl⟩ := List.getElem_of_mem ha'
    have hjm : j < m := by have := hj; simp at this; omega
    simp only [List.getElem_take]
    have hp := List.pairwise_iff_getElem.1 hs
    have h1 := hp (m - 1) m (by omega) (by omega) (by omega)
    have h2 : s[m - 1] ≠ s[m] := fun e => hn ⟨by omega, by rw [List.getElem?_eq_getElem (by omega), e]⟩
    by_cases e : j = m - 1
    ·subst e; omega
    ·have := hp j (m - 1) (by omega) (by omega) (by omega); omega
theorem qM {s : List Int} (hs : s.Pairwise (· ≤ ·)) : (fi s s.length).length = s.length ↔ s.Nodup := by
 have hsub := kV s s.length (Nat.le_refl _)
 rw [List.take_length] at hsub
 constructor
 ·intro h
  have := hsub.eq_of_length h
  have hp := mw hs s.length (Nat.le_refl _)
  rw [this] at hp
  exact hp.imp fun h => Int.ne_of_lt h
 ·intro h
  have : ∀ m, m ≤ s.length → fi s m = s.take m := by
   intro m
   induction m with
   | zero => intro _; simp [fi]
   | succ m ih =>
    intro hm
    have hx : s[m]? = some s[m] := List.getElem?_eq_getElem (by omega)
    rw [iU, List.take_add_one, hx, ih (by omega)]
    congr 1
    simp only [kp, hx]
    rw [if_neg]
    ·rfl
    ·rintro ⟨h1, h2⟩
     have hy : s[m - 1]? = some s[m - 1] := List.getElem?_eq_getElem (by omega)
     rw [hy] at h2
     have := List.pairwise_iff_getElem.1 h (m - 1) m (by omega) (by omega) (by omega)
     exact this (Option.some.inj h2)
  rw [this _ (Nat.le_refl _)]; simp
def dst (l : List Int) : Bool := decide l.Nodup
theorem nO {k : Nat} {l : List Int} (hl : l.length ≤ 1000) (hk : 20000 < k) : ∃ m : Nat, cO k l = some ((m : Int), ()) ∧ ((m : Int) == (l.length : Int)) = dst l := by
 have hp := gl l
 have hlen := hp.length_eq
 obtain ⟨r, r1, r2⟩ := mD (k := k) (s := cx l) (by omega) (by omega)
 refine ⟨(fi (cx l) (cx l).length).length, ?_, ?_⟩
 ·simp only [cO, i9 (show l.length ≤ 1000000 by omega), slices_Sort_int, bO (show l.length ≤ 1000000 by omega), cond_true, Option.bind_some, r1, Int.toNat_natCast, show Int.toNat 0 = 0 from rfl, Nat.sub_zero]
 ·have h := qM (kR l)
  rw [hp.nodup_iff] at h
  rw [dst, Bool.eq_iff_iff, decide_eq_true_iff, ← h]
  simp; omega
theorem iz {k : Nat} {l : List Int} (hl : l.length ≤ 1000) (hk : 20000 < k) : scarfjointref06_Distinct k l = some (dst l, ()) := by
 have l1 := bZ (F := fun n i => scarfjointref06_Distinct.l0 k n l i) l () (fun i x => cond ((l.take i).any (x == ·)) (some (false, ())) none) k (fun n => by simp only [scarfjointref06_Distinct.l0, aE, cond_false]) (fun n i x hx _ => by
  have hi := aN hx
  have l2 := nf (F := scarfjointref06_Distinct.l2 l i) l i (l, (i : Int), ()) (false, ()) (x == ·) k (by omega) (fun n => by simp only [scarfjointref06_Distinct.l2, aE, cond_false]) (fun n j y hj hy => by
   simp only [scarfjointref06_Distinct.l2, bf hj, cond_true, idx_some hy, idx_some hx, Option.bind_some, wS (show j < 4611686018427387904 by omega)]) (by omega)
  simp only [scarfjointref06_Distinct.l0, bf hi, cond_true, l2, Option.bind_some]
  cases (l.take i).any (x == ·) <;> simp only [cond_true, cond_false, aF, Option.elim, wS (show i < 4611686018427387904 by omega)]) (by omega)
 have key : ca (fun i x => cond ((l.take i).any (x == ·)) (some ((false, ()) : Bool × Unit)) none) l = cond (dst l) none (some (false, ())) := by
  cases hf : ca (fun i x => cond ((l.take i).any (x == ·)) (some ((false, ()) : Bool × Unit)) none) l with
  | none =>
   rw [gp] at hf
   have : l.Nodup := List.pairwise_iff_getElem.2 fun i j hi hj hij e => by
    have := hf j _ (List.getElem?_eq_getElem hj)
    have h2 : (l.take j).any (l[j] == ·) = true := List.any_eq_true.2 ⟨l[i], by rw [List.mem_take_iff_getElem]; exact ⟨i, by omega, rfl⟩, by simp [e]⟩
    rw [h2] at this; cases this
   simp [dst, this]
  | some z =>
   obtain ⟨j, _, _, j3, _⟩ := dN hf
   obtain ⟨x, hx, j5⟩ := Option.bind_eq_some_iff.1 j3
   dsimp only at j5
   cases h2 : (l.take j).any (x == ·) with
   | false => rw [h2] at j5; cases j5
   | true =>
    rw [h2] at j5; cases j5
    have : ¬ l.Nodup := fun hn => by
     obtain ⟨y, hy, hxy⟩ := List.any_eq_true.1 h2
     obtain ⟨i, hi, rfl⟩ := List.mem_take_iff_getElem.1 hy
     obtain ⟨hj, rfl⟩ := List.getElem?_eq_some_iff.1 hx
     exact List.pairwise_iff_getElem.1 hn i j (by omega) hj (by omega) (by simpa using hxy : l[j] = l[i]).symm
    simp [dst, this]
 rw [scarfjointref06_Distinct, l1, key]
 cases dst l <;> rfl
end Go.Ev.Pl
end
section
set_option linter.unusedVariables false
namespace Go.Ev.Pl
def kE (l : List Int) (i : Nat) : List Int := cond (!(l.any ((i : Int) == ·))) [(i : Int)] []
def kz (l : List Int) (n : Nat) : List Int := (List.range n).flatMap (kE l)
theorem nD (l : List Int) (i : Nat) : (kE l i).length ≤ 1 := by unfold kE; cases l.any ((i : Int) == ·) <;> simp
theorem dU (l : List Int) (n : Nat) : (kz l n).length ≤ n := by have := eR (nD l) n; simpa [kz] using this
theorem cC {l : List Int} {n : Nat} {x : Int} (h : x ∈ kz l n) : 0 ≤ x ∧ x < n := by
 obtain ⟨i, hi, hx⟩ := List.mem_flatMap.1 h
 unfold kE at hx
 cases ha : l.any ((i : Int) == ·) <;> simp [ha] at hx
 subst hx; simp at hi; omega
theorem iA {k : Nat} {l : List Int} {n : Nat} (hl : l.length ≤ 1000) (hn : n ≤ 1000) (hk : 20000 < k) : rule_others l n = some (kz l n, ()) ∧ scarfjointref24_rest k n l = some (kz l n, ()) := by
 have bn : ∀ (acc : List Int) (i : Nat), acc = [] ++ (List.range i).flatMap (kE l) → i ≤ 1000 → acc.length + 1 ≤ 1000000 := fun acc i hacc hi => by
  have := eR (nD l) i; rw [List.nil_append] at hacc; subst hacc; omega
 have l1 := jF (F := rule_others.l0 l n) n (kE l) (fun acc => some (acc, ())) [] (Int.toNat (n : Int) + 1) (fun m acc => by simp only [rule_others.l0, aE, cond_false]) (fun m acc i hi hacc => by
  simp only [rule_others.l0, kE, bf hi, cond_true, rJ (l := l) (i : Int) (cI hl (by omega)), Option.bind_some, List.length_cons, List.length_nil, Nat.zero_add, bO (bn acc i hacc (by omega)), wS (show i < 4611686018427387904 by omega)]
  cases l.any ((i : Int) == ·) <;> simp) (by omega)
 have l2 := jF (F := scarfjointref24_rest.l0 k n l) n (kE l) (fun acc => some (acc, ())) [] k (fun m acc => by simp only [scarfjointref24_rest.l0, aE, cond_false]) (fun m acc i hi hacc => by
  simp only [scarfjointref24_rest.l0, kE, bf hi, cond_true, (qC (k := k) (l := l) (i : Int) (by omega) (by omega)).2, Option.bind_some, List.length_cons, List.length_nil, Nat.zero_add, bO (bn acc i hacc (by omega)), wS (show i < 4611686018427387904 by omega)]
  cases l.any ((i : Int) == ·) <;> simp) (by omega)
 exact ⟨by rw [rule_others, l1]; rfl, by rw [scarfjointref24_rest, l2]; rfl⟩
def pj : Nat → a8 → Int → List Int
 | 0, _, _ => []
 | n + 1, t, a => cond (decide (a < 0)) [] (match aB t.nodes a with | some x => a :: pj n t x.parent | none => [])
def nq (t : a8) (a : Int) : List Int := pj 32 t a
theorem su (t : a8) : ∀ n a, (pj n t a).length ≤ n
 | 0, a => by simp [pj]
 | n + 1, a => by
  rw [pj]
  cases decide (a < 0) with
  | true => simp
  | false =>
   rw [cond_false]
   cases h : aB t.nodes a with
   | none => simp
   | some x => have := su t n x.parent; simp; omega
theorem sx {t : a8} (ht : t6 t) : ∀ (m fuel n : Nat) (a : Int) (acc : List Int), -1 ≤ a → a < m → a < t.nodes.length → m < fuel → m < n → acc.length + m ≤ 1000 →
  types_line.l0 t fuel a acc = some (acc ++ pj n t a, ())
 | m, 0, n, a, acc, _, _, _, h, _, _ => by omega
 | m, fuel + 1, 0, a, acc, _, _, _, _, h, _ => by omega
 | m, fuel + 1, n + 1, a, acc, h1, h2, h3, h4, h5, h6 => by
  by_cases h0 : a ≥ 0
  ·obtain ⟨x, x1, x2, x3⟩ := bB h0 h3
   have hn : ¬ a < 0 := by omega
   have hp := ht.par a.toNat x x2
   match m, h2 with
   | 0, h2 => omega
   | m + 1, h2 =>
    simp only [types_line.l0, pj, h0, hn, decide_true, decide_false, cond_true, cond_false, x1, Option.bind_some, List.length_cons, List.length_nil, Nat.zero_add, bO (show acc.length + 1 ≤ 1000000 by omega)]
    rw [sx ht m fuel n x.parent (acc ++ [a]) (by omega) (by omega) (by omega) (by omega) (by omega) (by simp; omega)]
    simp
  ·have hn : a < 0 := by omega
   simp [types_line.l0, pj, h0, hn]
theorem mM : ∀ (fuel : Nat) (q : List Int) (i : Nat) (j : Int), j < q.length → j - i < fuel → j ≤ 1000 → ∃ r, slices_Reverse_lint.l0 (fuel + 1) q i j = some (r, ()) ∧ r.Perm q
 | fuel, q, i, j, hj, hf, hs => by
  by_cases h : (i : Int) < j
  ·obtain ⟨b, rfl⟩ : ∃ b : Nat, j = b := ⟨j.toNat, by omega⟩
   match fuel, hf with
   | 0, hf => omega
   | fuel + 1, hf =>
    have hb : b < q.length := by omega
    have hi : i < q.length := by omega
    have hy : q[b]? = some q[b] := List.getElem?_eq_getElem hb
    have hx : q[i]? = some q[i] := List.getElem?_eq_getElem hi
    have hz : (q.set i q[b])[b]? = some q[b] := by rw [List.getElem?_set_ne (by omega)]; exact hy
    have ew : IntKind.i64.wrap ((b : Int) - 1) = (b : Int) - 1 := jh (by omega) (by omega)
    have hl : (q.set i q[b]).length = q.length := by simp
    have hd : decide ((i : Int) < (b : Int)) = true := decide_eq_true h
    rw [slices_Reverse_lint.l0]
    simp only [hd, bf hi, bf hb, hl, jv, Bool.and_true, cond_true, Int.toNat_natCast, fH hy, fH hx, fH hz, Option.bind_some, ew, wS (show i < 4611686018427387904 by omega)]
    obtain ⟨r, r1, r2⟩ := mM fuel ((q.set i q[b]).set b q[i]) (i + 1) ((b : Int) - 1) (by simp; omega) (by omega) (by omega)
    exact ⟨r, r1, r2.trans (List.set_set_perm hi hb)⟩
  ·exact ⟨q, by simp [slices_Reverse_lint.l0, h], List.Perm.refl _⟩
theorem rk {k : Nat} {q : List Int} (hq : q.length ≤ 1000) (hk : 20000 < k) : ∃ r, slices_Reverse_lint k q = some (r, ()) ∧ r.Perm q := by
 have ew : IntKind.i64.wrap ((q.length : Int) - 1) = (q.length : Int) - 1 := jh (by omega) (by omega)
 obtain ⟨k, rfl⟩ : ∃ k', k = k' + 1 := ⟨k - 1, by omega⟩
 obtain ⟨r, r1, r2⟩ := mM k q 0 ((q.length : Int) - 1) (by omega) (by omega) (by omega)
 rw [show ((0 : Nat) : Int) = 0 from rfl] at r1
 exact ⟨r, by rw [slices_Reverse_lint, ew, r1]; rfl, r2⟩
def oX (t : a8) (a b : Int) : Bool := (nq t a).any (b == ·)
theorem vX {k : Nat} {t : a8} (ht : t6 t) (hk : 20000 < k) {a : Int} (ha : jV t a = true) (b : Int) : hO k t a b = some (oX t a b, ()) := by
 simp [jV] at ha
 have hn := ht.n
 have hl := su t 32 a
 obtain ⟨r, r1, r2⟩ := rk (k := k) (q := nq t a) (by simp only [nq]; omega) hk
 have e := sx ht 31 k 32 a [] (by omega) (by omega) (by omega) (by omega) (by omega) (by simp)
 rw [List.nil_append] at e
 rw [nq] at r1 r2
 have hr := r2.length_eq
 simp only [hO, types_line, e, Option.bind_some, r1, rJ (l := r) b (cI (m := 1000) (by omega) (by omega)), oX, nq]
 congr 2
 rw [Bool.eq_iff_iff, List.any_eq_true, List.any_eq_true]
 constructor
 ·rintro ⟨x, h1, h2⟩; exact ⟨x, r2.mem_iff.1 h1, h2⟩
 ·rintro ⟨x, h1, h2⟩; exact ⟨x, r2.mem_iff.2 h1, h2⟩
theorem rT {t : a8} (ht : t6 t) {b : Int} (hb : 0 ≤ b) : ∀ (m fuel n : Nat) (a : Int), -1 ≤ a → a < m → a < t.nodes.length → m < fuel → m < n → aq fuel t a b = some ((pj n t a).any (b == ·), ())
 | m, 0, n, a, _, _, _, h, _ => by omega
 | m, fuel + 1, 0, a, _, _, _, _, h => by omega
 | m, fuel + 1, n + 1, a, h1, h2, h3, h4, h5 => by
  by_cases h0 : a ≥ 0
  ·obtain ⟨x, x1, x2, x3⟩ := bB h0 h3
   have hn : ¬ a < 0 := by omega
   have hp := ht.par a.toNat x x2
   match m, h2 with
   | 0, h2 => omega
   | m + 1, h2 =>
    simp only [aq, pj, h0, hn, decide_true, decide_false, cond_true, cond_false, x1, Option.bind_some]
    rw [rT ht hb m fuel n x.parent (by omega) (by omega) (by omega) (by omega) (by omega)]
    simp only [Option.bind_some, eE, gT, List.any_cons]
    congr 2
    congr 1
    rw [Bool.eq_iff_iff]; simp; exact eq_comm
  ·have hn : a < 0 := by omega
   have hab : (a == b) = false := by simp; omega
   simp [aq, pj, h0, hn, hab]
theorem mK {k : Nat} {t : a8} (ht : t6 t) (hk : 20000 < k) {a b : Int} (ha : jV t a = true) (hb : 0 ≤ b) : aq k t a b = some (oX t a b, ()) := by
 simp [jV] at ha
 have hn := ht.n
 exact rT ht hb 31 k 32 a (by omega) (by omega) (by omega) (by omega) (by omega)
def uW (t : a8) (e a b : Int) : Bool :=
 (jV t a && jV t b && (decide (e ≥ 0) && decide (e < (t.edges.length : Int)))) && match aB t.edges e with | some x => oX t a x.frm && oX t b x.to | none => false
theorem uz {k : Nat} {t : a8} (ht : t6 t) (h0 : ji t = 0) (hk : 20000 < k) (e a b : Int) : gn k t e a b = some (uW t e a b, ()) ∧ cg k t e a b = some (uW t e a b, ()) := by
 have hn := ht.e
 have e7 : IntKind.i64.wrap ((t.edges.length : Int) - 1) = (t.edges.length : Int) - 1 := jh (by omega) (by omega)
 have e8 : decide (e ≤ (t.edges.length : Int) - 1) = decide (e < (t.edges.length : Int)) := decide_eq_decide.2 (by omega)
 have e9 : (decide (e < 0) || decide (e ≥ (t.edges.length : Int))) = !(decide (e ≥ 0) && decide (e < (t.edges.length : Int))) := by rw [Bool.eq_iff_iff]; simp <;> omega
 simp only [gn, cg, ag, pJ ht.b (show 2000 < k by omega) [a, b] (by simp), lr ht.b (show 2000 < k by omega) a b, h0, bne_self_eq_false, cond_false, Option.bind_some, eE, gT, jP, e7, e8, e9, List.any_cons, List.any_nil, Bool.or_false, uW]
 cases ha : jV t a with
 | false => (refine ⟨?_, ?_⟩ <;> first | rfl | trivial)
 | true =>
  cases hb : jV t b with
  | false => (refine ⟨?_, ?_⟩ <;> first | rfl | trivial)
  | true =>
   cases he : (decide (e ≥ 0) && decide (e < (t.edges.length : Int))) with
   | false => (refine ⟨?_, ?_⟩ <;> first | rfl | trivial)
   | true =>
    have : 0 ≤ e ∧ e < t.edges.length := by simp at he; omega
    obtain ⟨x, x1, x2, x3⟩ := bB this.1 this.2
    have hx := ht.edge _ x x2
    simp only [x1, Option.bind_some, vX ht hk ha, vX ht hk hb, mK ht hk ha hx.1, mK ht hk hb hx.2.2.1, eE, jP, Bool.not_true, Bool.or_self, bne_self_eq_false, cond_false, Bool.and_self, Bool.true_and, and_self]
def qx (t : a8) (g : ah) (i : Int) : Bool := match aB g.nodes i with | some x => (match aB t.nodes x with | some n => n.abstract | none => false) | none => false
def qv (t : a8) (g : ah) (i : Int) : Bool := match aB g.edges i with | some x => uW t x.typ ((aB g.nodes x.frm).getD 0) ((aB g.nodes x.to).getD 0) | none => false
def tH (t : a8) (g : ah) (nodes edges : List Int) : Bool := !nodes.any (qx t g) && !edges.any fun i => !qv t g i
theorem wI {k : Nat} {t : a8} {g : ah} (h : jo t g) {nodes edges : List Int} (hn : ∀ x ∈ nodes, 0 ≤ x ∧ x < g.nodes.length) (he : ∀ x ∈ edges, 0 ≤ x ∧ x < g.edges.length) (ln : nodes.length ≤ 1000) (le : edges.length ≤ 1000) (hk : 20000 < k) :
  fe k t g nodes edges = some (tH t g nodes edges, ()) ∧ scarfjointref24_proper k t g nodes edges = some (tH t g nodes edges, ()) := by
 have N : ∀ x ∈ nodes, ∃ a b, aB g.nodes x = some a ∧ aB t.nodes a = some b := fun x hx => by
  obtain ⟨a, a1, _, a3⟩ := bB (hn x hx).1 (hn x hx).2
  have := ld h a3
  simp [jV] at this
  obtain ⟨b, b1, _, _⟩ := bB this.1 this.2
  exact ⟨a, b, a1, b1⟩
 have X : ∀ x ∈ edges, ∃ e a b, aB g.edges x = some e ∧ aB g.nodes e.frm = some a ∧ aB g.nodes e.to = some b := fun x hx => by
  obtain ⟨e, e1, _, e3⟩ := bB (he x hx).1 (he x hx).2
  have := h.gr.edge e e3
  obtain ⟨a, a1, _, _⟩ := bB (l := g.nodes) (i := e.frm) (by omega) (by omega)
  obtain ⟨b, b1, _, _⟩ := bB (l := g.nodes) (i := e.to) (by omega) (by omega)
  exact ⟨e, a, b, e1, a1, b1⟩
 constructor
 ·have c1 := bu (l := nodes) (q := fun z1 => eh z1.1 t g) (p := qx t g) (fun x hx => by
   obtain ⟨a, b, a1, b1⟩ := N x hx
   simp only [eh, qx, a1, b1, Option.bind_some]) (cI ln (by omega))
  have c2 := bu (l := edges) (q := fun z3 => ee k z3.1 g t) (p := fun i => !qv t g i) (fun x hx => by
   obtain ⟨e, a, b, e1, a1, b1⟩ := X x hx
   simp only [ee, qv, e1, a1, b1, Option.bind_some, (uz h.ok h.e hk _ _ _).1, Option.getD_some]) (cI le (by omega))
  simp only [fe, kq, c1, c2, Option.bind_some, eE, jP, tH]
 ·have l1 := bZ (F := scarfjointref24_proper.l0 nodes edges t g) nodes (edges, t, g, ()) (fun _ x => cond (qx t g x) (some (false, ())) none) k (fun n => by simp only [scarfjointref24_proper.l0, aE, cond_false]) (fun n i x hx _ => by
   obtain ⟨a, b, a1, b1⟩ := N x (dn hx)
   simp only [scarfjointref24_proper.l0, qx, bf (aN hx), cond_true, idx_some hx, a1, b1, Option.bind_some, cX, wS (show i < 4611686018427387904 by have := aN hx; omega)]) (by omega)
  have l2 := bZ (F := scarfjointref24_proper.l2 k edges t g) edges () (fun _ x => cond (!qv t g x) (some (false, ())) none) k (fun n => by simp only [scarfjointref24_proper.l2, aE, cond_false]) (fun n i x hx _ => by
   obtain ⟨e, a, b, e1, a1, b1⟩ := X x (dn hx)
   simp only [scarfjointref24_proper.l2, qv, bf (aN hx), cond_true, idx_some hx, e1, a1, b1, Option.bind_some, (uz h.ok h.e hk _ _ _).2, Option.getD_some, cX, wS (show i < 4611686018427387904 by have := aN hx; omega)]) (by omega)
  rw [bH (qx t g)] at l1
  rw [bH (fun x => !qv t g x)] at l2
  simp only [scarfjointref24_proper, l1, Option.bind_some, fx, tH]
  cases nodes.any (qx t g) with
  | true => rfl
  | false =>
   simp only [cond_false, aF, l2, Option.bind_some, fx]
   cases edges.any (fun x => !qv t g x) <;> rfl
def pP (r : aM) : Int :=
 cond (jX r.left.graph r.keep != 0) (jX r.left.graph r.keep) (cond (kO (sO r.left.graph r.keep) r.right.graph r.into != 0) (kO (sO r.left.graph r.keep) r.right.graph r.into)
  (cond (!(dst r.into.nodes && dst r.into.edges)) 11 0))
theorem wa (g : ah) : (⟨g.nodes, g.edges⟩ : ah) = g := rfl
structure BM (m : aL) : Prop where
 n : m.nodes.length ≤ 140
 e : m.edges.length ≤ 140
theorem tI {k : Nat} {a b : ah} {m : aL} (ha : BG a) (hb : BG b) (hm : BM m) (h0 : kO a b m = 0) (hk : 20000 < k) : bL k a b m = some (dst m.nodes && dst m.edges, ()) := by
 have h1 := hm.n
 have h2 := hm.e
 obtain ⟨p, p1, p2⟩ := nO (k := k) (l := m.nodes) (by omega) hk
 obtain ⟨q, q1, q2⟩ := nO (k := k) (l := m.edges) (by omega) hk
 simp only [bL, (oU (m := m) ha hb hk).1, h0, beq_self_eq_true, cond_true, Option.bind_some, p1, q1, p2, q2, eE, jP, Bool.true_and]
theorem vn {k : Nat} {r : aM} (hl : BG r.left.graph) (hr : BG r.right.graph) (hk' : lW r.keep) (hm : BM r.into) (hk : 20000 < k) : gX k r = some (pP r, ()) := by
 simp only [gX, (vY hl hk' hk).1, Option.bind_some, xb, pP]
 cases h1 : (jX r.left.graph r.keep != 0) with
 | true => simp only [cond_true, h1]
 | false =>
  simp only [cond_false, bne_self_eq_false, wa, (oU (m := r.into) (tM hk') hr hk).1, Option.bind_some]
  cases h2 : (kO (sO r.left.graph r.keep) r.right.graph r.into != 0) with
  | true => rfl
  | false => simp only [cond_false, tI (tM hk') hr hm (show kO (sO r.left.graph r.keep) r.right.graph r.into = 0 by simpa using h2) hk, Option.bind_some, eE]
theorem vW {k : Nat} {r : aM} (hl : BG r.left.graph) (hr : BG r.right.graph) (hk' : lW r.keep) (hk : 20000 < k) : ce k r = some (cond (jX r.left.graph r.keep != 0) (jX r.left.graph r.keep) (kO (sO r.left.graph r.keep) r.right.graph r.into), ()) := by
 simp only [ce, (qL hl hk' hk).2, (vY hl hk' hk).2, Option.bind_some, xb]
 cases h1 : (jX r.left.graph r.keep != 0) with
 | true => rfl
 | false => simp only [cond_false, wa, (oU (m := r.into) (tM hk') hr hk).2, Option.bind_some]
end Go.Ev.Pl
end
section
set_option linter.unusedVariables false
namespace Go.Ev.Pl
theorem so {α S R : Type} {F : Nat → S → Int → Option R} (l : List α) (out : S → Option R) (st : α → S → S) (fuel : Nat) (s : S)
  (h0 : ∀ n s, F (n + 1) s (l.length : Int) = out s)
  (h1 : ∀ n s (i : Nat) x, l[i]? = some x → F (n + 1) s (i : Int) = F n (st x s) ((i + 1 : Nat) : Int))
  (hf : l.length < fuel) : F fuel s 0 = out (l.foldl (fun s x => st x s) s) := by
 suffices H : ∀ c i fuel s, l.length - i = c → i ≤ l.length → l.length - i < fuel → F fuel s (i : Int) = out ((l.drop i).foldl (fun s x => st x s) s) by
  have := H _ 0 fuel s rfl (by omega) (by omega)
  simpa using this
 intro c
 induction c with
 | zero =>
  intro i fuel s hc hi hf
  obtain rfl : i = l.length := by omega
  cases fuel with
  | zero => omega
  | succ n => rw [h0 n s]; simp
 | succ c ih =>
  intro i fuel s hc hi hf
  cases fuel with
  | zero => omega
  | succ n =>
   have hlt : i < l.length := by omega
   rw [h1 n s i _ (List.getElem?_eq_getElem hlt), List.drop_eq_getElem_cons hlt, List.foldl_cons]
   exact ih (i + 1) n _ (by omega) (by omega) (by omega)
def BC : Nat → ae → Prop
 | 0, _ => False
 | n + 1, c => BP c.pattern ∧ BM c.map ∧ c.kids.length ≤ 1000 ∧ ∀ d ∈ c.kids, BC n d
theorem qX {a b : Nat} (h : a + b ≤ 1000000) : IntKind.i64.wrap ((a : Int) + (b : Int)) = ((a + b : Nat) : Int) := by rw [jh (by omega) (by omega)]; omega
def mh (c : ae) : Bool :=
 decide (c.map.nodes.length + c.map.edges.length + c.pattern.graph.nodes.length + c.pattern.graph.edges.length + c.pattern.slots.length + c.pattern.tests.length = 0) && (c.pattern.vars == 0)
theorem sw {c : ae} {n : Nat} (h : BC n c) : cy c = some (mh c, ()) ∧ aI c = some (mh c, ()) := by
 match n, h with
 | n + 1, ⟨⟨⟨h1, h2⟩, h3, h4⟩, ⟨h5, h6⟩, _⟩ =>
  simp only [cy, aI, mh]
  rw [qX, qX, qX, qX, qX, qX] <;> try omega
  simp only [eE, jP, Option.bind_some]
  constructor
  ·congr 2
   congr 1
   rw [Bool.eq_iff_iff]; simp only [decide_eq_true_eq, beq_iff_eq, Bool.and_eq_true]; omega
  ·rw [← Bool.and_assoc]
   congr 2
   congr 1
   rw [Bool.eq_iff_iff]; simp only [decide_eq_true_eq, beq_iff_eq, Bool.and_eq_true]; omega
def xB (c : ae) : Bool :=
 cond (c.kind == 1) (((c.kids.length : Int) == 0) && mh c) (cond (c.kind == 2) (((c.kids.length : Int) == 1) && mh c) (cond (c.kind == 3) (decide ((c.kids.length : Int) ≥ 1) && mh c)
  (cond (c.kind == 4) (decide ((c.kids.length : Int) ≥ 1) && mh c) (cond (c.kind == 5) ((c.kids.length : Int) == 1) false))))
theorem vh {c : ae} {n : Nat} (h : BC n c) : bY c = some (xB c, ()) := by
 have e : decide ((c.kids.length : Int) > 0) = decide ((c.kids.length : Int) ≥ 1) := decide_eq_decide.2 (by omega)
 simp only [bY, (sw h).2, Option.bind_some, eE, jP, xB, e]
 cases (c.kind == 1) <;> cases (c.kind == 2) <;> cases (c.kind == 3) <;> cases (c.kind == 4) <;> cases (c.kind == 5) <;> rfl
def uP : Nat → ae → Bool
 | 0, _ => false
 | n + 1, c => xB c && !(c.kids.any fun d => !uP n d)
theorem uH : ∀ (n : Nat) (c : ae), BC n c → ∀ k, 20000 + n < k → an k c = some (uP n c, ()) ∧ scarfjointref22_allRight k c = some (uP n c, ())
 | 0, c, h, _, _ => h.elim
 | n + 1, c, h, 0, hk => by omega
 | n + 1, c, h, k + 1, hk => by
  have hkids := h.2.2.2
  have hlen := h.2.2.1
  have ih : ∀ d ∈ c.kids, _ := fun d hd => uH n d (hkids d hd) k (by omega)
  have c1 := bu (l := c.kids) (q := fun z => az (an k) z.1) (p := fun d => !uP n d) (fun d hd => by simp only [az, (ih d hd).1, Option.bind_some]) (cI hlen (by omega))
  have l1 := bZ (F := scarfjointref22_allRight.l0 (scarfjointref22_allRight k) c) c.kids () (fun _ d => cond (!uP n d) (some (false, ())) none) k (fun m => by simp only [scarfjointref22_allRight.l0, aE, cond_false]) (fun m i x hx _ => by
   simp only [scarfjointref22_allRight.l0, bf (aN hx), cond_true, idx_some hx, (ih x (dn hx)).2, Option.bind_some, cX, wS (show i < 4611686018427387904 by have := aN hx; omega)]) (by omega)
  rw [bH (fun d => !uP n d)] at l1
  constructor
  ·simp only [an, (sw h).1, vr, c1, Option.bind_some, eE, jP, uP, xB]
   cases (c.kind == 1) <;> cases (c.kind == 2) <;> cases (c.kind == 3) <;> cases (c.kind == 4) <;> cases (c.kind == 5) <;> rfl
  ·simp only [scarfjointref22_allRight, vh h, l1, Option.bind_some, uP, fx]
   cases xB c <;> cases (c.kids.any fun d => !uP n d) <;> rfl
def gB : Nat → ae → Int × Int
 | 0, _ => (0, 0)
 | n + 1, c => cond (c.kind == 5) ((c.kids.foldl (fun s d => (IntKind.i64.wrap (s.1 + (gB n d).1), ou s.2 (gB n d).2)) ((1, 0) : Int × Int)).1, IntKind.i64.wrap ((c.kids.foldl (fun s d => (IntKind.i64.wrap (s.1 + (gB n d).1), ou s.2 (gB n d).2)) ((1, 0) : Int × Int)).2 + 1))
   (c.kids.foldl (fun s d => (IntKind.i64.wrap (s.1 + (gB n d).1), ou s.2 (gB n d).2)) ((1, 0) : Int × Int))
theorem oP : ∀ (n : Nat) (c : ae), BC n c → ∀ k, 20000 + n < k → condition_measure k c = some ((gB n c).1, (gB n c).2, ()) ∧ scarfjointref22_Measure k c = some ((gB n c).1, (gB n c).2, ())
 | 0, c, h, _, _ => h.elim
 | n + 1, c, h, 0, hk => by omega
 | n + 1, c, h, k + 1, hk => by
  have hkids := h.2.2.2
  have hlen := h.2.2.1
  have ih : ∀ d ∈ c.kids, _ := fun d hd => oP n d (hkids d hd) k (by omega)
  have l1 := so (F := fun m (s : Int × Int) i => condition_measure.l0 (condition_measure k) c c.kids c.kids.length m s.1 s.2 i) c.kids (fun s => some (c, s.1, s.2, ())) (fun d s => (IntKind.i64.wrap (s.1 + (gB n d).1), ou s.2 (gB n d).2)) (Int.toNat (c.kids.length : Int) + 1) (1, 0) (fun m s => by simp only [condition_measure.l0, aE, cond_false]) (fun m s i x hx => by
   simp only [condition_measure.l0, bf (aN hx), cond_true, idx_some hx, (ih x (dn hx)).1, Option.bind_some, wS (show i < 4611686018427387904 by have := aN hx; omega)]) (by omega)
  have l2 := so (F := fun m (s : Int × Int) i => scarfjointref22_Measure.l0 (scarfjointref22_Measure k) c m s.1 s.2 i) c.kids (fun s => some (c, s.1, s.2, ())) (fun d s => (IntKind.i64.wrap (s.1 + (gB n d).1), ou s.2 (gB n d).2)) k (1, 0) (fun m s => by simp only [scarfjointref22_Measure.l0, aE, cond_false]) (fun m s i x hx => by
   simp only [scarfjointref22_Measure.l0, bf (aN hx), cond_true, idx_some hx, (ih x (dn hx)).2, Option.bind_some, wS (show i < 4611686018427387904 by have := aN hx; omega)]) (by omega)
  dsimp only at l1 l2
  simp only [condition_measure, scarfjointref22_Measure, l1, l2, Option.bind_some, gB]
  cases (c.kind == 5) <;> (refine ⟨?_, ?_⟩ <;> first | rfl | trivial)
def xy (n : Nat) (c : ae) : Int := cond (!uP n c) 1 (cond (decide ((gB n c).1 > 12) || decide ((gB n c).2 > 3)) 3 0)
theorem vZ {n : Nat} {c : ae} (h : BC n c) {k : Nat} (hk : 20000 + n < k) : dy k c = some (xy n c, ()) ∧ bU k c = some (xy n c, ()) := by
 simp only [dy, bU, (uH n c h k hk).1, (uH n c h k hk).2, (oP n c h k hk).1, (oP n c h k hk).2, Option.bind_some, eE, gT, xy, and_self]
def PV (p : aj) : Prop := 0 ≤ p.vars ∧ p.vars ≤ 12
theorem jH {t : a8} {p : aj} (h : iF t p = 0 ∨ iF t p = 9 ∧ ji t = 0) : PV p := by
 have key : ji t = 0 → iF t p = 0 ∨ iF t p = 9 → PV p := fun h0 h => by
  simp only [iF, h0, bne_self_eq_false, cond_false] at h
  cases h6 : (decide (p.vars < 0) || decide (p.vars > 12)) with
  | false => simp at h6; exact ⟨by omega, by omega⟩
  | true =>
   rw [h6] at h
   have hg : kI p.graph = 0 ∨ kI p.graph = 3 ∨ kI p.graph = 6 := by
    simp only [kI]
    cases (decide ((p.graph.nodes.length : Int) > 40) || decide ((p.graph.edges.length : Int) > 80)) <;> cases (p.graph.nodes.any fun n => !fT n) <;> cases (p.graph.edges.any fun e => !gL p.graph.nodes.length e) <;> simp
   exfalso
   revert h
   rcases hg with e | e | e <;> rw [e] <;> cases qs t p.graph <;> simp
 rcases h with h | ⟨h, h0⟩
 ·exact key (tp h).1 (.inl h)
 ·exact key h0 (.inr h)
def qb (t : a8) (q : aj) (v : Nat) : Int := cond (iF t q != 9) (iF t q) (cond (!ik q v) 9 0)
theorem tY (q : aj) (e : Int) (v : Nat) : ∀ c, db (fun i => cond (!nH q i) (some (e, ())) none) v c = cond (!(List.range' v c).all (nH q)) (some (e, ())) none := by
 intro c
 induction c generalizing v with
 | zero => rfl
 | succ c ih =>
  rw [db, List.range'_succ, List.all_cons]
  cases nH q v with
  | false => rfl
  | true => simp only [Bool.not_true, cond_false, Bool.true_and]; exact ih (v + 1)
theorem wD {k : Nat} {t : a8} (ht : BT t) (h0 : ji t = 0) {q : aj} (hq : BP q) (v : Nat) (hk : 20000 < k) : condition_pattern k t q v = some (qb t q v, ()) ∧
  (decide (q.vars < (v : Int)) = false → scarfjointref22_inner k t v q = some (qb t q v, ())) := by
 have hs := hq.s
 simp only [condition_pattern, scarfjointref22_inner, rA ht hq (show 2000 < k by omega), oJ ht hq (show 2000 < k by omega), Option.bind_some, qb]
 cases h9 : (iF t q != 9) with
 | true => exact ⟨rfl, fun h => by rw [h]; rfl⟩
 | false =>
  have h9' : iF t q = 9 := by simpa using h9
  obtain ⟨v1, v2⟩ := jH (.inr ⟨h9', h0⟩)
  obtain ⟨V, hV⟩ : ∃ V : Nat, q.vars = V := ⟨q.vars.toNat, by omega⟩
  have e9 : ∀ j, ik q j = (List.range' j (V - j)).all (nH q) := fun j => by simp [ik, hV]
  have l1 := lT (F := condition_pattern.l0 q 9) V () (fun i => cond (!nH q i) (some (9, ())) none) v (fun n i hi => by
   have : ¬ ((i : Int) < q.vars) := by omega
   simp [condition_pattern.l0, this]) (fun n i _ hi _ => by
   have : (i : Int) < q.vars := by omega
   have c1 := bu (l := q.slots) (q := fun z4 => cY z4.1 i) (p := fun s => s.term.var == (i : Int)) (fun _ _ => rfl) (cI hs (by omega))
   simp only [condition_pattern.l0, this, decide_true, cond_true, sg, c1, Option.bind_some, wS (show i < 4611686018427387904 by omega), nH]
   cases (q.slots.any fun s => s.term.var == (i : Int)) <;> rfl) k (by omega)
  have oc : ∀ i : Nat, scarfjointref22_occurs k q i = some (nH q i, ()) := fun i => by
   have := bZ (F := scarfjointref22_occurs.l0 i q) q.slots () (fun _ x => cond (x.term.var == (i : Int)) (some (true, ())) none) k (fun n => by simp only [scarfjointref22_occurs.l0, aE, cond_false]) (fun n j x hx _ => by
    simp only [scarfjointref22_occurs.l0, bf (aN hx), cond_true, idx_some hx, Option.bind_some, cX, wS (show j < 4611686018427387904 by have := aN hx; omega)]) (by omega)
   rw [scarfjointref22_occurs, this, bH (fun x : dM => x.term.var == (i : Int))]
   simp only [Option.bind_some, nH]
   cases (q.slots.any fun x => x.term.var == (i : Int)) <;> rfl
  have l2 := lT (F := scarfjointref22_inner.l0 k q 9) V () (fun i => cond (!nH q i) (some (9, ())) none) v (fun n i hi => by
   have : ¬ ((i : Int) < q.vars) := by omega
   simp [scarfjointref22_inner.l0, this]) (fun n i _ hi _ => by
   have : (i : Int) < q.vars := by omega
   simp only [scarfjointref22_inner.l0, this, decide_true, cond_true, oc, Option.bind_some, wS (show i < 4611686018427387904 by omega)]
   cases nH q i <;> rfl) k (by omega)
  rw [tY, ← e9] at l1 l2
  simp only [h9', cond_false, l1, l2, Option.bind_some, fx]
  cases ik q v with
  | true => exact ⟨rfl, fun h => by rw [h]; rfl⟩
  | false => exact ⟨rfl, fun h => by rw [h]; rfl⟩
def lY : Nat → a8 → aj → ae → Int
 | 0, _, _, _ => 0
 | n + 1, t, p, c =>
  cond (c.kind == 5)
   (cond (decide (c.pattern.vars < p.vars)) 20 (cond (qb t c.pattern p.vars.toNat != 0) (qb t c.pattern p.vars.toNat) (cond (kO p.graph c.pattern.graph c.map != 0) (kO p.graph c.pattern.graph c.map) (cond (!(dst c.map.nodes && dst c.map.edges)) 1
    (lm (ca (fun _ d => cond (lY n t c.pattern d != 0) (some (lY n t c.pattern d, ())) none) c.kids))))))
   (lm (ca (fun _ d => cond (lY n t p d != 0) (some (lY n t p d, ())) none) c.kids))
theorem oO {t : a8} (ht : BT t) (h0 : ji t = 0) : ∀ (n : Nat) (c : ae) (p : aj), BC n c → BP p → PV p → ∀ k, 20000 + n < k → condition_inside k t p c = some (lY n t p c, ()) ∧ scarfjointref22_over k t p c = some (lY n t p c, ())
 | 0, c, p, h, _, _, _, _ => h.elim
 | n + 1, c, p, h, _, _, 0, hk => by omega
 | n + 1, c, p, h, hp, hv, k + 1, hk => by
  have hkids := h.2.2.2
  have hlen := h.2.2.1
  have hq := h.1
  have hm := h.2.1
  have l1 : ∀ q, BP q → PV q → _ := fun q bq vq => bZ (F := condition_inside.l0 (condition_inside k) t q c.kids c.kids.length) c.kids () (fun _ d => cond (lY n t q d != 0) (some (lY n t q d, ())) none) (c.kids.length + 1) (fun m => by simp only [condition_inside.l0, aE, cond_false]) (fun m i x hx _ => by
   simp only [condition_inside.l0, bf (aN hx), cond_true, idx_some hx, (oO ht h0 n x q (hkids x (dn hx)) bq vq k (by omega)).1, Option.bind_some, cX, wS (show i < 4611686018427387904 by have := aN hx; omega)]) (by omega)
  have l2 : ∀ q, BP q → PV q → _ := fun q bq vq => bZ (F := scarfjointref22_over.l0 (scarfjointref22_over k) t c q) c.kids () (fun _ d => cond (lY n t q d != 0) (some (lY n t q d, ())) none) k (fun m => by simp only [scarfjointref22_over.l0, aE, cond_false]) (fun m i x hx _ => by
   simp only [scarfjointref22_over.l0, bf (aN hx), cond_true, idx_some hx, (oO ht h0 n x q (hkids x (dn hx)) bq vq k (by omega)).2, Option.bind_some, cX, wS (show i < 4611686018427387904 by have := aN hx; omega)]) (by omega)
  obtain ⟨V, hV⟩ : ∃ V : Nat, p.vars = V := ⟨p.vars.toNat, by have := hv.1; omega⟩
  obtain ⟨p1, p2⟩ := wD (k := k) ht h0 hq V (by omega)
  obtain ⟨m1, m2⟩ := oU (k := k) (m := c.map) hp.g hq.g (by omega)
  have hn1 := hm.n
  have hn2 := hm.e
  simp only [condition_inside, scarfjointref22_over, lY, hV, Int.toNat_natCast]
  cases hk5 : (c.kind == 5) with
  | false =>
   simp only [cond_false, l1 p hp hv, l2 p hp hv]
   exact ⟨kj _, kj _⟩
  | true =>
   simp only [cond_true, p1, m1, m2]
   cases hlt : decide (c.pattern.vars < (V : Int)) with
   | true => simp only [scarfjointref22_inner, hlt, cond_true]; (refine ⟨?_, ?_⟩ <;> first | rfl | trivial)
   | false =>
    simp only [cond_false, p2 hlt, Option.bind_some]
    cases h1 : (qb t c.pattern V != 0) with
    | true => (refine ⟨?_, ?_⟩ <;> first | rfl | trivial)
    | false =>
     cases h2 : (kO p.graph c.pattern.graph c.map != 0) with
     | true => (refine ⟨?_, ?_⟩ <;> first | rfl | trivial)
     | false =>
      have hm0 : kO p.graph c.pattern.graph c.map = 0 := by simpa using h2
      have hpv : PV c.pattern := by
       have : qb t c.pattern V = 0 := by simpa using h1
       simp only [qb] at this
       cases h9 : (iF t c.pattern != 9) with
       | true => rw [h9] at this; exact jH (.inl this)
       | false => exact jH (.inr ⟨by simpa using h9, h0⟩)
      simp only [cond_false, tI (k := k) hp.g hq.g hm hm0 (by omega), bQ, m2, hm0, beq_self_eq_true, cond_true, iz (k := k) (l := c.map.nodes) (by omega) (by omega), iz (k := k) (l := c.map.edges) (by omega) (by omega), Option.bind_some, eE, jP, Bool.true_and, l1 _ hq hpv, l2 _ hq hpv]
      cases (dst c.map.nodes && dst c.map.edges) with
      | false => (refine ⟨?_, ?_⟩ <;> first | rfl | trivial)
      | true => exact ⟨kj _, kj _⟩
def si (n : Nat) (t : a8) (p : aj) (c : ae) : Int := cond (iF t p != 0) (iF t p) (cond (xy n c != 0) (xy n c) (lY n t p c))
theorem vF {t : a8} (ht : BT t) (h0 : ji t = 0) {n : Nat} {c : ae} {p : aj} (h : BC n c) (hp : BP p) {k : Nat} (hk : 20000 + n < k) : dx k t p c = some (si n t p c, ()) ∧ bV k t p c = some (si n t p c, ()) := by
 simp only [dx, bV, si, rA ht hp (show 2000 < k by omega), oJ ht hp (show 2000 < k by omega), (vZ h hk).1, (vZ h hk).2, Option.bind_some]
 cases h1 : (iF t p != 0) with
 | true => (refine ⟨?_, ?_⟩ <;> first | rfl | trivial)
 | false =>
  have hv := jH (t := t) (p := p) (.inl (by simpa using h1))
  simp only [cond_false, (oO ht h0 n c p h hp hv k hk).1, (oO ht h0 n c p h hp hv k hk).2, Option.bind_some, eE, and_self]
end Go.Ev.Pl
end
section
set_option linter.unusedVariables false
namespace Go.Ev.Pl
structure te (n : Nat) (r : aM) : Prop where
 name : r.name.size ≤ 60
 left : BP r.left
 right : BP r.right
 keep : lW r.keep
 into : BM r.into
 cnd : BC n r.condition
def gE (r : aM) : List Int := kz r.keep.nodes r.left.graph.nodes.length
def lb (r : aM) : List Int := kz r.keep.edges r.left.graph.edges.length
def kS (r : aM) : List Int := kz r.into.nodes r.right.graph.nodes.length
def kC (r : aM) : List Int := kz r.into.edges r.right.graph.edges.length
def fQ (n : Nat) (t : a8) (r : aM) : Int :=
 cond (ji t != 0) (ji t) (cond (!iL r.name) 2 (cond (iF t r.left != 0) (iF t r.left) (cond (jp t r != 0) (jp t r) (cond (pP r != 0) (pP r)
  (cond (!tH t r.right.graph (kS r) (kC r)) 13 (si n t r.left r.condition))))))
theorem vt {t : a8} {p : aj} (ht : BT t) (h : iF t p = 0) : jo t p.graph := by
 obtain ⟨h1, h⟩ := tp h
 obtain ⟨h2, h⟩ := tp h
 obtain ⟨h3, h⟩ := xp h (by decide)
 exact ⟨ka ht h1, h1, jl h2, by simpa using h3⟩
theorem nG {t : a8} {r : aM} (ht : BT t) (h1 : ji t = 0) (h : jp t r = 0) : jo t r.right.graph := by
 obtain ⟨h2, h⟩ := tp h
 obtain ⟨h3, h⟩ := xp h (by decide)
 exact ⟨ka ht h1, h1, jl h2, by simpa using h3⟩
theorem tB {k n : Nat} {r : aM} (hr : te n r) (hk : 20000 < k) : ff r = some (gE r, lb r, ()) ∧ bK k r = some (gE r, lb r, ()) := by
 have h1 := hr.keep.n
 have h2 := hr.keep.e
 have h3 := hr.left.g.n
 have h4 := hr.left.g.e
 simp only [ff, bK, (iA (k := k) (l := r.keep.nodes) (n := r.left.graph.nodes.length) (by omega) (by omega) hk).1, (iA (k := k) (l := r.keep.nodes) (n := r.left.graph.nodes.length) (by omega) (by omega) hk).2, (iA (k := k) (l := r.keep.edges) (n := r.left.graph.edges.length) (by omega) (by omega) hk).1, (iA (k := k) (l := r.keep.edges) (n := r.left.graph.edges.length) (by omega) (by omega) hk).2, Option.bind_some, gE, lb, and_self]
theorem ri {k n : Nat} {r : aM} (hr : te n r) (hk : 20000 < k) : dI r = some (kS r, kC r, ()) ∧ aQ k r = some (kS r, kC r, ()) := by
 have h1 := hr.into.n
 have h2 := hr.into.e
 have h3 := hr.right.g.n
 have h4 := hr.right.g.e
 simp only [dI, aQ, (iA (k := k) (l := r.into.nodes) (n := r.right.graph.nodes.length) (by omega) (by omega) hk).1, (iA (k := k) (l := r.into.nodes) (n := r.right.graph.nodes.length) (by omega) (by omega) hk).2, (iA (k := k) (l := r.into.edges) (n := r.right.graph.edges.length) (by omega) (by omega) hk).1, (iA (k := k) (l := r.into.edges) (n := r.right.graph.edges.length) (by omega) (by omega) hk).2, Option.bind_some, kS, kC, and_self]
theorem m6 {k n : Nat} {t : a8} {r : aM} (ht : BT t) (hr : te n r) (hk : 20000 + n < k) : eS k t r = some (fQ n t r, ()) ∧ bi k t r = some (fQ n t r, ()) := by
 have hnm := hr.name
 have hm1 := hr.into.n
 have hm2 := hr.into.e
 have h3 := hr.right.g.n
 have h4 := hr.right.g.e
 have hc := ri (k := k) hr (by omega)
 simp only [eS, bi, fQ, (gC ht (show 2000 < k by omega)).1, (gC ht (show 2000 < k by omega)).2, xa (s := r.name) (cI hnm (by omega)) (show r.name.size < k by omega), xv (s := r.name) (cI hnm (by omega)) (show r.name.size < k by omega) (by omega), rA ht hr.left (show 2000 < k by omega), oJ ht hr.left (show 2000 < k by omega), Option.bind_some]
 cases h0 : (ji t != 0) with
 | true => (refine ⟨?_, ?_⟩ <;> first | rfl | trivial)
 | false =>
  have t0 : ji t = 0 := by simpa using h0
  simp only [cond_false, (nR (k := k) (r := r) (ka ht t0) t0 hr.right (by omega)).1, (nR (k := k) (r := r) (ka ht t0) t0 hr.right (by omega)).2, Option.bind_some]
  cases iL r.name with
  | false => (refine ⟨?_, ?_⟩ <;> first | rfl | trivial)
  | true =>
   cases ha : (iF t r.left != 0) with
   | true => (refine ⟨?_, ?_⟩ <;> first | rfl | trivial)
   | false =>
    cases hr' : (jp t r != 0) with
    | true => (refine ⟨?_, ?_⟩ <;> first | rfl | trivial)
    | false =>
     have hR := nG ht t0 (show jp t r = 0 by simpa using hr')
     have l1 := dU r.into.nodes r.right.graph.nodes.length
     have l2 := dU r.into.edges r.right.graph.edges.length
     have hmak := wI (k := k) hR (nodes := kS r) (edges := kC r) (fun x hx => cC hx) (fun x hx => cC hx) (by simp only [kS]; omega) (by simp only [kC]; omega) (by omega)
     have hcnd := vF (k := k) ht t0 hr.cnd hr.left (by omega)
     simp only [cond_false, Bool.not_true, vn (k := k) (r := r) hr.left.g hr.right.g hr.keep hr.into (by omega), vW (k := k) (r := r) hr.left.g hr.right.g hr.keep (by omega), iz (k := k) (l := r.into.nodes) (by omega) (by omega), iz (k := k) (l := r.into.edges) (by omega) (by omega), hc.1, hc.2, hmak.1, hmak.2, hcnd.1, hcnd.2, Option.bind_some, eE, gT]
     refine ⟨trivial, ?_⟩
     simp only [pP]
     cases h5 : (jX r.left.graph r.keep != 0) with
     | true => simp only [cond_true, h5]
     | false =>
      simp only [cond_false]
      cases h6 : (kO (sO r.left.graph r.keep) r.right.graph r.into != 0) with
      | true => simp only [cond_true, h6]
      | false => cases dst r.into.nodes <;> cases dst r.into.edges <;> rfl
structure yb (t : a8) (r : aM) : Prop where
 left : jo t r.left.graph
 right : jo t r.right.graph
theorem mv {n : Nat} {t : a8} {r : aM} (ht : BT t) (h : fQ n t r = 0) : yb t r := by
 obtain ⟨h1, h⟩ := tp h
 obtain ⟨h2, h⟩ := xp h (by decide)
 obtain ⟨h3, h⟩ := tp h
 obtain ⟨h4, h⟩ := tp h
 exact ⟨vt ht h3, nG ht h1 h4⟩
theorem qr {k n : Nat} {t : a8} {r : aM} (ht : BT t) (hr : te n r) (hk : 20000 + n < k) : eX k t r = some (cond (fQ n t r != 0) ([], [], fQ n t r, ()) (gE r, lb r, 0, ())) ∧ aS k t r = some (cond (fQ n t r != 0) ([], [], fQ n t r, ()) (gE r, lb r, 0, ())) := by
 simp only [eX, aS, (m6 ht hr hk).1, (m6 ht hr hk).2, (tB (k := k) hr (by omega)).1, (tB (k := k) hr (by omega)).2, Option.bind_some, uo, and_self]
theorem tV {k n : Nat} {t : a8} {r : aM} (ht : BT t) (hr : te n r) (hk : 20000 + n < k) : eZ k t r = some (cond (fQ n t r != 0) ([], [], fQ n t r, ()) (kS r, kC r, 0, ())) ∧ bI k t r = some (cond (fQ n t r != 0) ([], [], fQ n t r, ()) (kS r, kC r, 0, ())) := by
 simp only [eZ, bI, (m6 ht hr hk).1, (m6 ht hr hk).2, (ri (k := k) hr (by omega)).1, (ri (k := k) hr (by omega)).2, Option.bind_some, uo, and_self]
def ls (g : ah) (i : Int) : Int := (aB g.nodes i).getD 0
def oW (t : a8) (g : ah) (i : Int) : Int := match aB g.edges i with | some e => (t.nodes.length : Int) + e.typ | none => 0
def sF (t : a8) (g : ah) (nodes edges : List Int) : List Int := nodes.map (ls g) ++ edges.map (oW t g)
def plS (t : a8) (g : ah) (nodes edges : List Int) : List Int := fi (cx (sF t g nodes edges)) (cx (sF t g nodes edges)).length
def uQ (t : a8) (g : ah) (nodes edges : List Int) (p : Nat) : List Int := cond (nodes.any (fun i => ls g i == (p : Int)) || edges.any (fun i => oW t g i == (p : Int))) [(p : Int)] []
theorem mT {f : Nat → List Int} (hf : ∀ i, f i = [(i : Int)] ∨ f i = []) : ∀ n, ((List.range n).flatMap f).Pairwise (· < ·) ∧ ∀ x ∈ (List.range n).flatMap f, x < n
 | 0 => by simp
 | n + 1 => by
  obtain ⟨h1, h2⟩ := mT hf n
  rw [List.range_succ, List.flatMap_append, show List.flatMap f [n] = f n by simp]
  rcases hf n with e | e
  ·rw [e]
   refine ⟨List.pairwise_append.2 ⟨h1, by simp, fun a ha b hb => ?_⟩, fun x hx => ?_⟩
   ·simp at hb; subst hb; exact h2 a ha
   ·rcases List.mem_append.1 hx with h | h
    ·have := h2 x h; omega
    ·simp at h; omega
  ·rw [e, List.append_nil]
   exact ⟨h1, fun x hx => by have := h2 x hx; omega⟩
theorem vc {l m : List Int} (hl : l.Pairwise (· < ·)) (hm : m.Pairwise (· < ·)) (h : ∀ x, x ∈ l ↔ x ∈ m) : l = m := by
 have nl : l.Nodup := hl.imp fun h => Int.ne_of_lt h
 have nm : m.Nodup := hm.imp fun h => Int.ne_of_lt h
 exact List.Perm.eq_of_pairwise (le := (· ≤ ·)) (fun a b _ _ h1 h2 => Int.le_antisymm h1 h2) (hl.imp fun h => Int.le_of_lt h) (hm.imp fun h => Int.le_of_lt h) ((List.perm_ext_iff_of_nodup nl nm).2 h)
theorem sn {t : a8} {g : ah} (h : jo t g) {nodes edges : List Int} (hn : ∀ x ∈ nodes, 0 ≤ x ∧ x < g.nodes.length) (he : ∀ x ∈ edges, 0 ≤ x ∧ x < g.edges.length) :
  (List.range (t.nodes.length + t.edges.length)).flatMap (uQ t g nodes edges) = plS t g nodes edges := by
 have hs := gl (sF t g nodes edges)
 refine vc (mT (fun i => ?_) _).1 (mw (kR _) _ (Nat.le_refl _)) fun x => ?_
 ·unfold uQ; cases (nodes.any (fun j => ls g j == (i : Int)) || edges.any (fun j => oW t g j == (i : Int))) <;> simp
 ·have m1 : x ∈ plS t g nodes edges ↔ x ∈ sF t g nodes edges := by
   rw [← hs.mem_iff]
   constructor
   ·intro hx
    have := (kV _ _ (Nat.le_refl _)).subset hx
    rwa [List.take_length] at this
   ·exact tN
  rw [m1]
  have ran : ∀ x ∈ sF t g nodes edges, 0 ≤ x ∧ x < (t.nodes.length + t.edges.length : Nat) := by
   intro x hx
   rcases List.mem_append.1 hx with h1 | h1
   ·obtain ⟨i, hi, rfl⟩ := List.mem_map.1 h1
    obtain ⟨y, y1, _, y3⟩ := bB (hn i hi).1 (hn i hi).2
    have := ld h y3
    simp [jV] at this
    simp only [ls, y1, Option.getD_some]; omega
   ·obtain ⟨i, hi, rfl⟩ := List.mem_map.1 h1
    obtain ⟨y, y1, _, y3⟩ := bB (he i hi).1 (he i hi).2
    have := (oE h.ty).2 y y3
    have := h.gr.edge y y3
    simp only [oW, y1]; omega
  constructor
  ·intro hx
   obtain ⟨p, hp, hx⟩ := List.mem_flatMap.1 hx
   unfold uQ at hx
   cases hc : (nodes.any (fun i => ls g i == (p : Int)) || edges.any (fun i => oW t g i == (p : Int))) with
   | false => rw [hc] at hx; simp at hx
   | true =>
    rw [hc] at hx
    simp at hx
    subst hx
    rcases Bool.or_eq_true_iff.1 hc with h1 | h1
    ·obtain ⟨i, hi, e⟩ := List.any_eq_true.1 h1
     exact List.mem_append_left _ (List.mem_map.2 ⟨i, hi, by simpa using e⟩)
    ·obtain ⟨i, hi, e⟩ := List.any_eq_true.1 h1
     exact List.mem_append_right _ (List.mem_map.2 ⟨i, hi, by simpa using e⟩)
  ·intro hx
   obtain ⟨r1, r2⟩ := ran x hx
   refine List.mem_flatMap.2 ⟨x.toNat, by simp; omega, ?_⟩
   have e : ((x.toNat : Nat) : Int) = x := by omega
   have hc : (nodes.any (fun i => ls g i == ((x.toNat : Nat) : Int)) || edges.any (fun i => oW t g i == ((x.toNat : Nat) : Int))) = true := by
    rw [e, Bool.or_eq_true_iff]
    rcases List.mem_append.1 hx with h1 | h1
    ·obtain ⟨i, hi, e⟩ := List.mem_map.1 h1
     exact .inl (List.any_eq_true.2 ⟨i, hi, by simpa using e⟩)
    ·obtain ⟨i, hi, e⟩ := List.mem_map.1 h1
     exact .inr (List.any_eq_true.2 ⟨i, hi, by simpa using e⟩)
   rw [uQ, hc, cond_true, e]; simp
theorem wd {k : Nat} {t : a8} {g : ah} (h : jo t g) {nodes edges : List Int} (hn : ∀ x ∈ nodes, 0 ≤ x ∧ x < g.nodes.length) (he : ∀ x ∈ edges, 0 ≤ x ∧ x < g.edges.length) (ln : nodes.length ≤ 200) (le : edges.length ≤ 200) (hk : 20000 < k) :
  layering_places k t g nodes edges = some (plS t g nodes edges, ()) := by
 have hT := h.ok.n
 have hTE := h.ok.e
 have l1 := jF (F := layering_places.l0 edges t g nodes nodes.length) nodes.length (fun i => (nodes[i]?).elim [] fun x => [ls g x]) (fun acc => some (edges, t, g, acc, ())) [] (nodes.length + 1) (fun n acc => by simp only [layering_places.l0, aE, cond_false]) (fun n acc i hi hacc => by
  have hx : nodes[i]? = some nodes[i] := List.getElem?_eq_getElem hi
  obtain ⟨y, y1, _, y3⟩ := bB (hn _ (List.getElem_mem hi)).1 (hn _ (List.getElem_mem hi)).2
  have hb : acc.length ≤ 1 * i := by rw [hacc, List.nil_append]; exact eR (fun j => by cases nodes[j]? <;> simp) i
  simp only [layering_places.l0, bf hi, cond_true, idx_some hx, hx, ls, y1, Option.bind_some, Option.getD_some, Option.elim, List.length_cons, List.length_nil, Nat.zero_add, bO (show acc.length + 1 ≤ 1000000 by omega), wS (show i < 4611686018427387904 by omega)]) (by omega)
 have l2 := jF (F := layering_places.l2 t g edges edges.length) edges.length (fun i => (edges[i]?).elim [] fun x => [oW t g x]) (fun acc => some (acc, ())) (nodes.map (ls g)) (edges.length + 1) (fun n acc => by simp only [layering_places.l2, aE, cond_false]) (fun n acc i hi hacc => by
  have hx : edges[i]? = some edges[i] := List.getElem?_eq_getElem hi
  obtain ⟨y, y1, _, y3⟩ := bB (he _ (List.getElem_mem hi)).1 (he _ (List.getElem_mem hi)).2
  have hr := (oE h.ty).2 y y3
  have hr' := h.gr.edge y y3
  have hb : acc.length ≤ 200 + 1 * i := by
   have := eR (f := fun i => (edges[i]?).elim [] fun x => [oW t g x]) (c := 1) (fun j => by cases edges[j]? <;> simp) i
   rw [hacc, List.length_append, List.length_map]; omega
  have ew : IntKind.i64.wrap ((t.nodes.length : Int) + y.typ) = (t.nodes.length : Int) + y.typ := jh (by omega) (by omega)
  simp only [layering_places.l2, bf hi, cond_true, idx_some hx, hx, oW, y1, ew, Option.bind_some, Option.elim, List.length_cons, List.length_nil, Nat.zero_add, bO (show acc.length + 1 ≤ 1000000 by omega), wS (show i < 4611686018427387904 by omega)]) (by omega)
 rw [j6 (ls g), List.nil_append] at l1
 rw [j6 (oW t g)] at l2
 have hl : (sF t g nodes edges).length ≤ 400 := by simp [sF]; omega
 have hs := (gl (sF t g nodes edges)).length_eq
 obtain ⟨r, r1, r2⟩ := mD (k := k) (s := cx (sF t g nodes edges)) (by omega) (by omega)
 have hm : (fi (cx (sF t g nodes edges)) (cx (sF t g nodes edges)).length).length ≤ r.length := by
  have := congrArg List.length r2
  rw [List.length_take] at this; omega
 have z : Int.toNat 0 = 0 := rfl
 simp only [layering_places, l1, l2, Option.bind_some, slices_Sort_int, show List.map (ls g) nodes ++ List.map (oW t g) edges = sF t g nodes edges from rfl, bO (show (sF t g nodes edges).length ≤ 1000000 by omega), cond_true, r1, z, Int.toNat_natCast, ya, tK hm, Bool.and_self, sV, r2]
 rfl
theorem oz {α : Type} (p : α → Bool) : ∀ (l : List α) (s : Bool), l.foldl (fun s x => cond s true (p x)) s = (s || l.any p)
 | [], s => by simp
 | x :: l, s => by
  rw [List.foldl_cons, oz p l, List.any_cons]
  cases s <;> simp
theorem uq {k : Nat} {t : a8} {g : ah} (h : jo t g) {nodes edges : List Int} (hn : ∀ x ∈ nodes, 0 ≤ x ∧ x < g.nodes.length) (he : ∀ x ∈ edges, 0 ≤ x ∧ x < g.edges.length) (ln : nodes.length ≤ 200) (le : edges.length ≤ 200) (hk : 20000 < k) :
  scarfjointref40_places k t g nodes edges = some (plS t g nodes edges, ()) := by
 have hT := h.ok.n
 have hTE := h.ok.e
 have l2 : ∀ (acc : List Int) (p : Nat) (s : Bool), _ := fun acc p s => so (F := scarfjointref40_places.l2 nodes edges t g acc p) nodes (fun s => some (nodes, edges, t, g, acc, (p : Int), s, ())) (fun x s => cond s true (ls g x == (p : Int))) k s (fun n s => by simp only [scarfjointref40_places.l2, aE, cond_false]) (fun n s i x hx => by
  obtain ⟨y, y1, _, y3⟩ := bB (hn _ (dn hx)).1 (hn _ (dn hx)).2
  simp only [scarfjointref40_places.l2, bf (aN hx), cond_true, idx_some hx, y1, ls, Option.getD_some, Option.bind_some, eE, wS (show i < 4611686018427387904 by have := aN hx; omega)]) (by omega)
 have l4 : ∀ (acc : List Int) (p : Nat) (s : Bool), _ := fun acc p s => so (F := scarfjointref40_places.l4 nodes edges t g acc p) edges (fun s => some (nodes, edges, t, g, acc, (p : Int), s, ())) (fun x s => cond s true (oW t g x == (p : Int))) k s (fun n s => by simp only [scarfjointref40_places.l4, aE, cond_false]) (fun n s i x hx => by
  obtain ⟨y, y1, _, y3⟩ := bB (he _ (dn hx)).1 (he _ (dn hx)).2
  have hr := (oE h.ty).2 y y3
  have hr' := h.gr.edge y y3
  have ew : IntKind.i64.wrap ((t.nodes.length : Int) + y.typ) = (t.nodes.length : Int) + y.typ := jh (by omega) (by omega)
  simp only [scarfjointref40_places.l4, bf (aN hx), cond_true, idx_some hx, y1, oW, ew, Option.bind_some, eE, wS (show i < 4611686018427387904 by have := aN hx; omega)]) (by omega)
 have ew : IntKind.i64.wrap ((t.nodes.length : Int) + (t.edges.length : Int)) = ((t.nodes.length + t.edges.length : Nat) : Int) := qX (by omega)
 have l0 := jF (F := fun n acc i => scarfjointref40_places.l0 k n nodes edges t g acc i) (t.nodes.length + t.edges.length) (uQ t g nodes edges) (fun acc => some (acc, ())) [] k (fun n acc => by simp only [scarfjointref40_places.l0, ew, aE, cond_false]) (fun n acc i hi hacc => by
  have hb : acc.length ≤ 1 * i := by
   rw [hacc, List.nil_append]; exact eR (fun j => by unfold uQ; cases (nodes.any (fun i => ls g i == (j : Int)) || edges.any (fun i => oW t g i == (j : Int))) <;> simp) i
  simp only [scarfjointref40_places.l0, ew, bf hi, cond_true, l2 acc i false, l4 acc i, oz (fun x => ls g x == (i : Int)), oz (fun x => oW t g x == (i : Int)), Bool.false_or, Option.bind_some, List.length_cons, List.length_nil, Nat.zero_add, bO (show acc.length + 1 ≤ 1000000 by omega), wS (show i < 4611686018427387904 by omega), uQ]
  cases (nodes.any (fun j => ls g j == (i : Int)) || edges.any (fun j => oW t g j == (i : Int))) <;> simp) (by omega)
 rw [scarfjointref40_places, l0, List.nil_append, sn h hn he]
 rfl
end Go.Ev.Pl
end
section
set_option linter.unusedVariables false
namespace Go.Ev.Pl
def n6 (t : a8) (x : Int) : Bool := t.nodes.any fun n => n.parent == x
theorem rO {t : a8} {x : Int} : ∀ n j, x ∈ pj n t j → j = x ∨ n6 t x = true
 | 0, j, h => by simp [pj] at h
 | n + 1, j, h => by
  rw [pj] at h
  cases hd : decide (j < 0) with
  | true => rw [hd] at h; simp at h
  | false =>
   rw [hd, cond_false] at h
   cases hi : aB t.nodes j with
   | none => rw [hi] at h; simp at h
   | some y =>
    rw [hi] at h
    rcases List.mem_cons.1 h with e | h'
    ·exact .inl e.symm
    ·rcases rO n y.parent h' with e | e
     ·exact .inr (List.any_eq_true.2 ⟨y, qJ hi, by simpa using e⟩)
     ·exact .inr e
theorem sC {t : a8} (ht : t6 t) {x : Int} (hx : jV t x = true) : decide ((((List.range t.nodes.length).flatMap fun (j : Nat) => cond (oX t j x) [(j : Int)] []).length : Int) > 1) = n6 t x := by
 have hn := ht.n
 simp [jV] at hx
 generalize hL : (List.range t.nodes.length).flatMap (fun (j : Nat) => cond (oX t j x) [(j : Int)] []) = L
 have mem : ∀ j : Nat, j < t.nodes.length → oX t j x = true → (j : Int) ∈ L := fun j hj h => by
  rw [← hL]; exact List.mem_flatMap.2 ⟨j, by simpa using hj, by rw [h]; simp⟩
 have hd : ∀ n, x ∈ pj (n + 1) t x := fun n => by
  obtain ⟨y, y1, _, _⟩ := bB hx.1 hx.2
  have : ¬ x < 0 := by omega
  simp [pj, this, y1]
 have self : oX t (x.toNat : Nat) x = true := by
  have e : ((x.toNat : Nat) : Int) = x := by omega
  rw [oX, e]; exact List.any_eq_true.2 ⟨x, hd 31, by simp⟩
 have mx := mem x.toNat (by omega) self
 have e : ((x.toNat : Nat) : Int) = x := by omega
 rw [e] at mx
 rw [Bool.eq_iff_iff, decide_eq_true_iff]
 constructor
 ·intro h
  have : ∃ y ∈ L, y ≠ x := by
   apply Classical.byContradiction
   intro hno
   have all : ∀ y ∈ L, y = x := fun y hy => Classical.byContradiction fun h2 => hno ⟨y, hy, h2⟩
   have pw := (mT (f := fun j => cond (oX t j x) [(j : Int)] []) (fun i => by cases oX t i x <;> simp) t.nodes.length).1
   rw [hL] at pw
   match L, pw, h, all with
   | [], _, h, _ => simp at h
   | [a], _, h, _ => simp at h
   | a :: b :: r, pw, _, all =>
    have h1 := all a (by simp)
    have h2 := all b (by simp)
    have := (List.pairwise_cons.1 pw).1 b (by simp)
    omega
  obtain ⟨y, hy, hne⟩ := this
  rw [← hL] at hy
  obtain ⟨j, hj, hy⟩ := List.mem_flatMap.1 hy
  cases hi : oX t j x with
  | false => rw [hi] at hy; simp at hy
  | true =>
   rw [hi] at hy
   simp at hy
   obtain ⟨z, z1, z2⟩ := List.any_eq_true.1 hi
   have z3 : x = z := by simpa using z2
   subst z3
   rcases rO 32 (j : Int) z1 with e | e
   ·exact absurd (by omega) hne
   ·exact e
 ·intro h
  obtain ⟨m, hm, e2⟩ := List.any_eq_true.1 h
  have e2 : m.parent = x := by simpa using e2
  obtain ⟨j, hj, rfl⟩ := List.getElem_of_mem hm
  have hg : t.nodes[j]? = some t.nodes[j] := List.getElem?_eq_getElem hj
  have hp := ht.par j _ hg
  have hjx : oX t j x = true := by
   refine List.any_eq_true.2 ⟨x, ?_, by simp⟩
   have : ¬ ((j : Int) < 0) := by omega
   rw [nq, pj]
   simp only [this, decide_false, cond_false, idx_some hg, e2]
   exact List.mem_cons_of_mem _ (hd 30)
  have mj := mem j hj hjx
  match L, mx, mj with
  | [], mx, _ => simp at mx
  | [a], mx, mj => simp at mx mj; omega
  | a :: b :: r, _, _ => simp; omega
theorem u5 {k : Nat} {t : a8} (ht : t6 t) (h0 : ji t = 0) {x : Int} (hx : jV t x = true) (hk : 20000 < k) : scarfjointref04_Below k t x = some ((List.range t.nodes.length).flatMap (fun (j : Nat) => cond (oX t j x) [(j : Int)] []), 0, ()) := by
 have hn := ht.n
 have hx' := hx
 simp [jV] at hx'
 have l1 := jF (F := scarfjointref04_Below.l0 k x t) t.nodes.length (fun (j : Nat) => cond (oX t j x) [(j : Int)] []) (fun acc => some (acc, ())) [] k (fun n acc => by simp only [scarfjointref04_Below.l0, aE, cond_false]) (fun n acc i hi hacc => by
  have hb : acc.length ≤ 1 * i := by rw [hacc, List.nil_append]; exact eR (fun j => by cases oX t j x <;> simp) i
  have hin : jV t i = true := by simp [jV]; omega
  simp only [scarfjointref04_Below.l0, bf hi, cond_true, mK ht hk hin hx'.1, Option.bind_some, List.length_cons, List.length_nil, Nat.zero_add, bO (show acc.length + 1 ≤ 1000000 by omega), wS (show i < 4611686018427387904 by omega)]
  cases oX t i x <;> simp) (by omega)
 simp only [scarfjointref04_Below, lr ht.b (show 2000 < k by omega), h0, hx, bne_self_eq_false, cond_false, Bool.not_true, Bool.or_self, Option.bind_some, l1, List.nil_append]
def it (n : Nat) (t : a8) (r : aM) : Int := cond (fQ n t r != 0) (fQ n t r) (cond ((gE r).any fun i => n6 t (ls r.left.graph i)) 13 0)
def kX (t : a8) (r : aM) : ad := ⟨plS t r.left.graph (gE r) (lb r), plS t r.right.graph (kS r) (kC r)⟩
def xJ (n : Nat) (t : a8) (r : aM) : ad := cond (it n t r != 0) ⟨[], []⟩ (kX t r)
theorem xl {k n : Nat} {t : a8} {r : aM} (ht : BT t) (hr : te n r) (hk : 20000 + n < k) : layering_of k t r = some (xJ n t r, it n t r, ()) := by
 simp only [layering_of, (qr ht hr hk).1, Option.bind_some, xJ, it]
 cases h1 : (fQ n t r != 0) with
 | true => simp only [cond_true, h1]
 | false =>
  have ok := mv (n := n) ht (show fQ n t r = 0 by simpa using h1)
  have d1 := dU r.keep.nodes r.left.graph.nodes.length
  have d2 := dU r.keep.edges r.left.graph.edges.length
  have d3 := dU r.into.nodes r.right.graph.nodes.length
  have d4 := dU r.into.edges r.right.graph.edges.length
  have b1 := hr.left.g.n
  have b2 := hr.left.g.e
  have b3 := hr.right.g.n
  have b4 := hr.right.g.e
  have tn := ok.left.ok.n
  have l1 := bZ (F := layering_of.l0 t r [] [] (gE r) (lb r) (gE r).length) (gE r) (t, r, ([], [], ()), gE r, lb r, ()) (fun _ x => cond (n6 t (ls r.left.graph x)) (some (([], [], ()), 13, ())) none) ((gE r).length + 1) (fun m => by simp only [layering_of.l0, aE, cond_false]) (fun m i x hx _ => by
   have hi := aN hx
   have hm := cC (dn hx)
   obtain ⟨y, y1, _, y3⟩ := bB hm.1 hm.2
   have hil : (gE r).length ≤ 200 := by simp only [gE]; omega
   have c1 := bu (l := t.nodes) (q := fun z6 => eL z6.1 r x) (p := fun m => m.parent == y) (fun z _ => by simp only [eL, y1, Option.bind_some]) (cI (m := 12) tn (by omega))
   simp only [layering_of.l0, bf hi, jv, Bool.and_true, cond_true, Int.toNat_natCast, fH hx, wh, c1, Option.bind_some, ls, y1, Option.getD_some, n6, cX, wS (show i < 4611686018427387904 by omega)]) (by omega)
  rw [bH (fun x => n6 t (ls r.left.graph x))] at l1
  simp only [cond_false, Int.toNat_natCast, bne_self_eq_false, l1, Option.bind_some, fx]
  cases h2 : ((gE r).any fun i => n6 t (ls r.left.graph i)) with
  | true => rfl
  | false =>
   simp only [cond_false, aF, (tV ht hr hk).1, h1, Option.bind_some, wd ok.left (nodes := gE r) (edges := lb r) (k := k) (fun x hx => cC hx) (fun x hx => cC hx) (by simp only [gE]; omega) (by simp only [lb]; omega) (by omega),
    wd ok.right (nodes := kS r) (edges := kC r) (k := k) (fun x hx => cC hx) (fun x hx => cC hx) (by simp only [kS]; omega) (by simp only [kC]; omega) (by omega)]
   rfl
def mO (n : Nat) (t : a8) (rs : List aM) : Int := cond (ji t != 0) (ji t) (cond (decide ((rs.length : Int) > 6)) 3 (lm (ca (fun _ r => cond (it n t r != 0) (some (it n t r, ())) none) rs)))
theorem nP {α β : Type} (f : α → β) : ∀ (l : List α) (s : List β), l.foldl (fun s x => s ++ [f x]) s = s ++ l.map f
 | [], s => by simp
 | x :: l, s => by rw [List.foldl_cons, nP f l]; simp
theorem sD {α B B' : Type} (h : B → B') (p : α → Bool) (v : α → B) (l : List α) : ca (fun _ x => cond (p x) (some (h (v x))) none) l = (ca (fun _ x => cond (p x) (some (v x)) none) l).map h := by
 unfold ca
 generalize 0 = i
 generalize l.length = c
 induction c generalizing i with
 | zero => rfl
 | succ c ih =>
  rw [db, db]
  cases l[i]? with
  | none => exact ih (i + 1)
  | some x =>
   simp only [Option.bind_some]
   cases p x with
   | true => rfl
   | false => exact ih (i + 1)
theorem vK {k n : Nat} {t : a8} {rs : List aM} (ht : BT t) (hr : ∀ r ∈ rs, te n r) (hl : rs.length ≤ 1000) (hk : 20000 + n < k) :
  layering_given k t rs = some (cond (mO n t rs != 0) [] (rs.map (kX t)), mO n t rs, ()) := by
 have L := tJ (F := layering_given.l0 k t rs rs.length) rs (fun s => (s, ())) (fun r => cond (it n t r != 0) (some (([] : List ad), it n t r, ())) none) (fun r s => s ++ [xJ n t r]) (fun i s => s.length = i) (rs.length + 1) [] rfl
  (fun m s _ => by simp only [layering_given.l0, aE, cond_false]) (fun m s i x hx hs => by
   have hi := aN hx
   simp only [layering_given.l0, bf hi, cond_true, idx_some hx, xl ht (hr x (dn hx)) hk, Option.bind_some, List.length_cons, List.length_nil, Nat.zero_add, bO (show s.length + 1 ≤ 1000000 by omega), cX, wS (show i < 4611686018427387904 by omega)]) (fun s i x _ _ h => by simp [h]) (by omega)
 rw [nP, sD (fun e => (([] : List ad), e)) (fun r => it n t r != 0) (fun r => (it n t r, ()))] at L
 simp only [layering_given, (gC ht (show 2000 < k by omega)).1, Option.bind_some, mO, Int.toNat_natCast, L]
 cases h0 : (ji t != 0) with
 | true => simp only [cond_true, h0]
 | false =>
  cases decide ((rs.length : Int) > 6) with
  | true => rfl
  | false =>
   simp only [cond_false]
   cases hf : ca (fun _ r => cond (it n t r != 0) (some (it n t r, ())) none) rs with
   | some z =>
    have : (z.1 != 0) = true := by
     obtain ⟨j, _, _, j3, _⟩ := dN hf
     obtain ⟨x, _, j5⟩ := Option.bind_eq_some_iff.1 j3
     dsimp only at j5
     cases hc : (it n t x != 0) with
     | false => rw [hc] at j5; cases j5
     | true => rw [hc] at j5; cases j5; exact hc
    simp only [Option.map_some, Option.elim, aF, lm, this, cond_true]
   | none =>
    simp only [Option.map_none, Option.elim, aF, lm, bne_self_eq_false, cond_false, List.nil_append]
    congr 2
    refine List.map_congr_left fun r hr => ?_
    obtain ⟨i, hi, rfl⟩ := List.getElem_of_mem hr
    have := xG (gp.1 hf i _ (List.getElem?_eq_getElem hi))
    simp only [xJ, this, bne_self_eq_false, cond_false]
theorem vQ {k n : Nat} {t : a8} {rs : List aM} (ht : BT t) (hr : ∀ r ∈ rs, te n r) (hl : rs.length ≤ 1000) (hk : 20000 + n < k) : scarfjointref40_Given k t rs = some (mO n t rs, ()) := by
 simp only [scarfjointref40_Given, (gC ht (show 2000 < k by omega)).2, Option.bind_some, mO]
 cases h0 : (ji t != 0) with
 | true => rfl
 | false =>
  cases decide ((rs.length : Int) > 6) with
  | true => rfl
  | false =>
   have t0 : ji t = 0 := by simpa using h0
   rw [cond_false, cond_false, bZ (F := fun m i => scarfjointref40_Given.l0 k m rs t i) rs () (fun _ r => cond (it n t r != 0) (some (it n t r, ())) none) k (fun m => by simp only [scarfjointref40_Given.l0, aE, cond_false]) (fun m i x hx _ => by
    have hi := aN hx
    have hru := hr x (dn hx)
    simp only [scarfjointref40_Given.l0, bf hi, cond_true, idx_some hx, (qr ht hru hk).2, Option.bind_some, it]
    cases h1 : (fQ n t x != 0) with
    | true => simp only [cond_true, h1]; rfl
    | false =>
     have ok := mv (n := n) ht (show fQ n t x = 0 by simpa using h1)
     have d1 := dU x.keep.nodes x.left.graph.nodes.length
     have b1 := hru.left.g.n
     have l2 := bZ (F := scarfjointref40_Given.l2 k rs t i (gE x)) (gE x) (rs, t, (i : Int), ()) (fun _ y => cond (n6 t (ls x.left.graph y)) (some (13, ())) none) k (fun m => by simp only [scarfjointref40_Given.l2, aE, cond_false]) (fun m j y hy _ => by
      have hj := aN hy
      have hm := cC (dn hy)
      have hil : (gE x).length ≤ 200 := by simp only [gE]; omega
      obtain ⟨z, z1, _, z3⟩ := bB hm.1 hm.2
      have hz := ld ok.left z3
      simp only [scarfjointref40_Given.l2, bf hj, jv, Bool.and_true, cond_true, idx_some hx, Int.toNat_natCast, fH hy, z1, u5 ok.left.ok t0 hz (show 20000 < k by omega), Option.bind_some, sC ok.left.ok hz, ls, Option.getD_some, cX, wS (show j < 4611686018427387904 by omega)]) (by simp only [gE]; omega)
     rw [bH (fun y => n6 t (ls x.left.graph y))] at l2
     simp only [cond_false, bne_self_eq_false, l2, Option.bind_some, fx]
     cases ((gE x).any fun y => n6 t (ls x.left.graph y)) with
     | true => rfl
     | false => simp only [cond_false, aF, wS (show i < 4611686018427387904 by omega)]; rfl) (by omega)]
   exact kj _
structure wO (n : Nat) (t : a8) (rs : List aM) : Prop where
 t0 : ji t = 0
 l : rs.length ≤ 6
 e : ∀ r ∈ rs, it n t r = 0
theorem vl {n : Nat} {t : a8} {rs : List aM} (h : mO n t rs = 0) : wO n t rs := by
 obtain ⟨h1, h⟩ := tp h
 obtain ⟨h2, h⟩ := xp h (by decide)
 refine ⟨h1, by simp at h2; omega, fun r hr => ?_⟩
 cases hf : ca (fun _ r => cond (it n t r != 0) (some (it n t r, ())) none) rs with
 | some z =>
  rw [hf] at h
  obtain ⟨j, _, _, j3, _⟩ := dN hf
  obtain ⟨x, _, j5⟩ := Option.bind_eq_some_iff.1 j3
  dsimp only at j5
  cases hc : (it n t x != 0) with
  | false => rw [hc] at j5; cases j5
  | true => rw [hc] at j5; cases j5; simp only [lm] at h; simp only [bne, h] at hc; cases hc
 | none =>
  obtain ⟨i, hi, rfl⟩ := List.getElem_of_mem hr
  exact xG (gp.1 hf i _ (List.getElem?_eq_getElem hi))
theorem sc {n : Nat} {t : a8} {r : aM} (ht : BT t) (h : it n t r = 0) : fQ n t r = 0 ∧ yb t r := by
 obtain ⟨h1, _⟩ := tp h
 exact ⟨h1, mv ht h1⟩
theorem rm {k n : Nat} {t : a8} {r : aM} (ht : BT t) (hr : te n r) (h : it n t r = 0) (hk : 20000 + n < k) : bG k t r = some ((kX t r).deletes, ()) ∧ bJ k t r = some ((kX t r).creates, ()) := by
  obtain ⟨h1, ok⟩ := sc ht h
  have d1 := dU r.keep.nodes r.left.graph.nodes.length
  have d2 := dU r.keep.edges r.left.graph.edges.length
  have d3 := dU r.into.nodes r.right.graph.nodes.length
  have d4 := dU r.into.edges r.right.graph.edges.length
  have b1 := hr.left.g.n
  have b2 := hr.left.g.e
  have b3 := hr.right.g.n
  have b4 := hr.right.g.e
  simp only [bG, bJ, (qr ht hr hk).2, (tV ht hr hk).2, h1, bne_self_eq_false, cond_false, Option.bind_some, uq ok.left (nodes := gE r) (edges := lb r) (k := k) (fun x hx => cC hx) (fun x hx => cC hx) (by simp only [gE]; omega) (by simp only [lb]; omega) (by omega),
        uq ok.right (nodes := kS r) (edges := kC r) (k := k) (fun x hx => cC hx) (fun x hx => cC hx) (by simp only [kS]; omega) (by simp only [kC]; omega) (by omega), kX, and_self]
end Go.Ev.Pl
end
section
set_option linter.unusedVariables false
namespace Go.Ev.Pl
def jQ : Nat := 140737488355328
theorem my {α S A : Type} {F : Nat → S → Int → Option (Sum A (Bool × Unit))} (l : List α) (Q : α → Prop) (ip : Nat → S → Prop) (fin : S → A) (fuel : Nat) (s : S) (hs : ip 0 s)
  (h0 : ∀ n s, ip l.length s → F (n + 1) s (l.length : Int) = some (.inl (fin s)))
  (h1 : ∀ n s (i : Nat) x, l[i]? = some x → ip i s → F (n + 1) s (i : Int) = some (.inr (false, ())) ∨ ∃ s', ip (i + 1) s' ∧ Q x ∧ F (n + 1) s (i : Int) = F n s' ((i + 1 : Nat) : Int))
  (hf : l.length < fuel) : F fuel s 0 = some (.inr (false, ())) ∨ ∃ s', ip l.length s' ∧ F fuel s 0 = some (.inl (fin s')) ∧ ∀ x ∈ l, Q x := by
 suffices H : ∀ c i fuel s, l.length - i = c → i ≤ l.length → l.length - i < fuel → ip i s → (∀ j x, j < i → l[j]? = some x → Q x) → F fuel s (i : Int) = some (.inr (false, ())) ∨ ∃ s', ip l.length s' ∧ F fuel s (i : Int) = some (.inl (fin s')) ∧ ∀ x ∈ l, Q x from
  H _ 0 fuel s rfl (by omega) (by omega) hs (fun j x h => by omega)
 intro c
 induction c with
 | zero =>
  intro i fuel s hc hi hf hs hq
  obtain rfl : i = l.length := by omega
  cases fuel with
  | zero => omega
  | succ n =>
   refine .inr ⟨s, hs, h0 n s hs, fun x hx => ?_⟩
   obtain ⟨j, hj, rfl⟩ := List.getElem_of_mem hx
   exact hq j _ hj (List.getElem?_eq_getElem hj)
 | succ c ih =>
  intro i fuel s hc hi hf hs hq
  cases fuel with
  | zero => omega
  | succ n =>
   have hlt : i < l.length := by omega
   have hx : l[i]? = some l[i] := List.getElem?_eq_getElem hlt
   rcases h1 n s i _ hx hs with e | ⟨s', i', q', e⟩
   ·exact .inl e
   ·rw [e]
    exact ih (i + 1) n s' (by omega) (by omega) (by omega) i' fun j x h h2 => by
     by_cases e : j = i
     ·subst e; rw [hx] at h2; cases h2; exact q'
     ·exact hq j x (by omega) h2
theorem xt {k : Nat} {t : a8} (hs : ∀ x ∈ t.nodes, x.attrs.length ≤ jQ) (hk : 2000 < k) : ∃ b, scarfjointref04_Few k t = some (b, ()) ∧ (b = true → BT t) := by
 simp only [scarfjointref04_Few, eE, gT, Option.bind_some]
 cases h1 : (decide ((t.nodes.length : Int) > 20) || decide ((t.edges.length : Int) > 30)) with
 | true => exact ⟨false, rfl, fun h => by cases h⟩
 | false =>
  have b1 : t.nodes.length ≤ 20 ∧ t.edges.length ≤ 30 := by simp at h1; omega
  have L := my (F := fun n s i => scarfjointref04_Few.l0 k n t s i) t.nodes (fun x => x.name.size ≤ 40 ∧ x.attrs.length ≤ 30 ∧ ∀ a ∈ x.attrs, BA a) (fun _ (s : Int) => 0 ≤ s ∧ s ≤ 30) (fun s => (t, ())) k 0 (by omega) (fun n s _ => by simp only [scarfjointref04_Few.l0, aE, cond_false]) (fun n s i x hx hI => by
   have hi := aN hx
   have hax := hs x (dn hx)
   simp only [jQ] at hax
   have ew : IntKind.i64.wrap (s + (x.attrs.length : Int)) = s + (x.attrs.length : Int) := jh (by omega) (by omega)
   simp only [scarfjointref04_Few.l0, bf hi, cond_true, idx_some hx, Option.bind_some, eE, gT, ew]
   cases h2 : (decide (s + (x.attrs.length : Int) > 30) || decide ((x.name.size : Int) > 40)) with
   | true => exact .inl rfl
   | false =>
    have b2 : s + (x.attrs.length : Int) ≤ 30 ∧ x.name.size ≤ 40 := by simp at h2; omega
    have L2 := my (F := fun n (_ : Unit) j => scarfjointref04_Few.l2 k n t (s + (x.attrs.length : Int)) i j) x.attrs BA (fun _ _ => True) (fun _ => (t, s + (x.attrs.length : Int), (i : Int), ())) k () trivial (fun n _ _ => by simp only [scarfjointref04_Few.l2, idx_some hx, Option.bind_some, aE, cond_false]) (fun n _ j a ha _ => by
     have hj := aN ha
     simp only [scarfjointref04_Few.l2, idx_some hx, idx_some ha, Option.bind_some, bf hj, cond_true, eE, gT]
     cases h3 : (decide ((a.name.size : Int) > 40) || decide ((a.names.length : Int) > 25)) with
     | true => exact .inl rfl
     | false =>
      have b3 : a.name.size ≤ 40 ∧ a.names.length ≤ 25 := by simp at h3; omega
      have L4 := my (F := fun n (_ : Unit) q => scarfjointref04_Few.l4 t (s + (x.attrs.length : Int)) i j a n q) a.names (fun z => z.size ≤ 40) (fun _ _ => True) (fun _ => (t, s + (x.attrs.length : Int), (i : Int), (j : Int), ())) k () trivial (fun n _ _ => by simp only [scarfjointref04_Few.l4, aE, cond_false]) (fun n _ q z hz _ => by
       simp only [scarfjointref04_Few.l4, idx_some hz, Option.bind_some, bf (aN hz), cond_true, wS (show q < 4611686018427387904 by have := aN hz; omega)]
       by_cases h4 : (z.size : Int) > 40
       ·simp [h4]
       ·refine .inr ⟨(), trivial, by omega, ?_⟩; simp [h4]) (by omega)
      simp only [cond_false]
      rcases L4 with e | ⟨_, _, e, q4⟩
      ·rw [e]; exact .inl rfl
      ·rw [e]
       refine .inr ⟨(), trivial, ⟨b3.1, b3.2, q4⟩, ?_⟩
       simp only [Option.bind_some, aF, wS (show j < 4611686018427387904 by omega)]) (by omega)
    simp only [cond_false]
    rcases L2 with e | ⟨_, _, e, q2⟩
    ·rw [e]; exact .inl rfl
    ·rw [e]
     refine .inr ⟨s + (x.attrs.length : Int), by omega, ⟨b2.2, by omega, q2⟩, ?_⟩
     simp only [Option.bind_some, aF, wS (show i < 4611686018427387904 by omega)]) (by omega)
  simp only [cond_false]
  rcases L with e | ⟨_, _, e, q⟩
  ·rw [e]; exact ⟨false, rfl, fun h => by cases h⟩
  ·have L6 := my (F := fun n (_ : Unit) j => scarfjointref04_Few.l6 t n j) t.edges (fun z => z.name.size ≤ 40) (fun _ _ => True) (fun _ => ()) k () trivial (fun n _ _ => by simp only [scarfjointref04_Few.l6, aE, cond_false]) (fun n _ j z hz _ => by
    simp only [scarfjointref04_Few.l6, idx_some hz, Option.bind_some, bf (aN hz), cond_true, wS (show j < 4611686018427387904 by have := aN hz; omega)]
    by_cases h4 : (z.name.size : Int) > 40
    ·simp [h4]
    ·refine .inr ⟨(), trivial, by omega, ?_⟩; simp [h4]) (by omega)
   rw [e]
   simp only [Option.bind_some, aF]
   rcases L6 with e6 | ⟨_, _, e6, q6⟩
   ·rw [e6]; exact ⟨false, rfl, fun h => by cases h⟩
   ·rw [e6]
    exact ⟨true, rfl, fun _ => ⟨b1.1, b1.2, fun x hx => (q x hx).1, fun x hx => (q x hx).2.1, fun x hx => (q x hx).2.2, q6⟩⟩
theorem tD (p : aj) : ∃ b, bj p = some (b, ()) ∧ (b = true → BP p) := by
 simp only [bj, cV, eE, jP, Option.bind_some]
 refine ⟨_, rfl, fun h => ?_⟩
 simp at h
 exact ⟨⟨by omega, by omega⟩, by omega, by omega⟩
theorem w8 {m : aL} (h1 : m.nodes.length ≤ jQ) (h2 : m.edges.length ≤ jQ) : ∃ b, bR m 140 = some (b, ()) ∧ (b = true → BM m) := by
 simp only [jQ] at h1 h2
 refine ⟨_, rfl, fun h => ?_⟩
 rw [jh (by omega) (by omega)] at h
 simp at h
 exact ⟨by omega, by omega⟩
theorem xE {m : ef} (h1 : m.nodes.length ≤ jQ) (h2 : m.edges.length ≤ jQ) : ∃ b, cS m 140 = some (b, ()) ∧ (b = true → lW m) := by
 simp only [jQ] at h1 h2
 refine ⟨_, rfl, fun h => ?_⟩
 rw [jh (by omega) (by omega)] at h
 simp at h
 exact ⟨by omega, by omega⟩
inductive xi : ae → Prop where
 | mk (c : ae) (h1 : c.map.nodes.length ≤ jQ) (h2 : c.map.edges.length ≤ jQ) (h3 : c.kids.length ≤ jQ) (h : ∀ d ∈ c.kids, xi d) : xi c
theorem sk : ∀ {n n' : Nat} {c : ae}, BC n c → n ≤ n' → BC n' c
 | 0, _, c, h, _ => h.elim
 | n + 1, 0, c, _, h => by omega
 | n + 1, n' + 1, c, h, hn => ⟨h.1, h.2.1, h.2.2.1, fun d hd => sk (h.2.2.2 d hd) (by omega)⟩
theorem rW {m : Nat} {c : ae} {rec_ : ae → Int → Option (Int × Unit)} (hk : c.kids.length ≤ jQ)
  (hr : ∀ d ∈ c.kids, ∀ q : Nat, q < m → ∃ r, rec_ d q = some (r, ()) ∧ -1 ≤ r ∧ r ≤ (q : Int) - 1 ∧ (0 ≤ r → BC m d)) :
  ∀ (fuel : Nat) (q : Int) (i : Nat), -1 ≤ q → q < m → q + 1 < fuel → i ≤ c.kids.length → (0 ≤ q → ∀ j d, j < i → c.kids[j]? = some d → BC m d) →
   ∃ r, scarfjointref22_left.l0 rec_ c fuel q i = some (r, ()) ∧ -1 ≤ r ∧ r ≤ q ∧ (0 ≤ r → (∀ d ∈ c.kids, BC m d) ∧ (c.kids.length : Int) + r ≤ i + q)
 | 0, q, i, h, _, h2, _, _ => by omega
 | fuel + 1, q, i, h, h1, h2, hi, hp => by
  simp only [jQ] at hk
  by_cases hc : (i : Int) < c.kids.length ∧ q ≥ 0
  ·have hlt : i < c.kids.length := by omega
   have hx : c.kids[i]? = some c.kids[i] := List.getElem?_eq_getElem hlt
   obtain ⟨Q, rfl⟩ : ∃ Q : Nat, q = Q := ⟨q.toNat, by omega⟩
   obtain ⟨r, r1, r2, r3, r4⟩ := hr _ (List.getElem_mem hlt) Q (by omega)
   obtain ⟨z, z1, z2, z3, z4⟩ := rW (by simp only [jQ]; omega) hr fuel r (i + 1) r2 (by omega) (by omega) (by omega) (fun h0 j d hj hd => by
    by_cases e : j = i
    ·subst e; rw [hx] at hd; cases hd; exact r4 h0
    ·exact hp hc.2 j d (by omega) hd)
   refine ⟨z, ?_, z2, by omega, fun h0 => ?_⟩
   ·have d1 : decide ((Q : Int) ≥ 0) = true := decide_eq_true hc.2
    simp only [scarfjointref22_left.l0, bf hlt, d1, cond_true, Option.bind_some, idx_some hx, r1, wS (show i < 4611686018427387904 by omega)]
    exact z1
   ·have := (z4 h0).2; exact ⟨(z4 h0).1, by omega⟩
  ·refine ⟨q, ?_, h, Int.le_refl _, fun h0 => ⟨fun d hd => ?_, by omega⟩⟩
   ·simp only [scarfjointref22_left.l0, eE, jP]
    have : (decide ((i : Int) < (c.kids.length : Int)) && decide (q ≥ 0)) = false := by simp; omega
    rw [this]; rfl
   ·obtain ⟨j, hj, rfl⟩ := List.getElem_of_mem hd
    exact hp h0 j _ (by omega) (List.getElem?_eq_getElem hj)
theorem s6 : ∀ (m k : Nat) (c : ae), m ≤ 40 → xi c → 200 + m < k → ∃ r, scarfjointref22_left k c m = some (r, ()) ∧ -1 ≤ r ∧ r ≤ (m : Int) - 1 ∧ (0 ≤ r → BC (m + 1) c)
 | m, 0, c, _, _, h => by omega
 | m, k + 1, c, hm, hs, hk => by
  cases hs with
  | mk c h1 h2 h3 h4 =>
   obtain ⟨b1, e1, p1⟩ := tD c.pattern
   obtain ⟨b2, e2, p2⟩ := w8 h1 h2
   simp only [scarfjointref22_left, e1, e2, Option.bind_some, eE, gT]
   cases hb : (!b1 || !b2) with
   | true => exact ⟨-1, rfl, by omega, by omega, fun h => by omega⟩
   | false =>
    have hb' : b1 = true ∧ b2 = true := by simpa using hb
    have ew : IntKind.i64.wrap ((m : Int) - 1) = (m : Int) - 1 := jh (by omega) (by omega)
    obtain ⟨r, r1, r2, r3, r4⟩ := rW (m := m) (c := c) (rec_ := scarfjointref22_left k) h3 (fun d hd q hq => by
     obtain ⟨r, r1, r2, r3, r4⟩ := s6 q k d (by omega) (h4 d hd) (by omega)
     exact ⟨r, r1, r2, r3, fun h => sk (r4 h) (by omega)⟩) k ((m : Int) - 1) 0 (by omega) (by omega) (by omega) (by omega) (fun _ j d h => by omega)
    rw [show ((0 : Nat) : Int) = 0 from rfl] at r1
    simp only [cond_false, ew, r1, Option.bind_some]
    refine ⟨r, rfl, r2, r3, fun h => ?_⟩
    obtain ⟨z1, z2⟩ := r4 h
    exact ⟨p1 hb'.1, p2 hb'.2, by omega, z1⟩
structure xc (r : aM) : Prop where
 k1 : r.keep.nodes.length ≤ jQ
 k2 : r.keep.edges.length ≤ jQ
 i1 : r.into.nodes.length ≤ jQ
 i2 : r.into.edges.length ≤ jQ
 c : xi r.condition
theorem xC {k : Nat} {r : aM} (hs : xc r) (hk : 20000 < k) : ∃ b, cA k r = some (b, ()) ∧ (b = true → te 41 r) := by
 obtain ⟨b1, e1, p1⟩ := tD r.left
 obtain ⟨b2, e2, p2⟩ := tD r.right
 obtain ⟨b3, e3, p3⟩ := xE hs.k1 hs.k2
 obtain ⟨b4, e4, p4⟩ := w8 hs.i1 hs.i2
 obtain ⟨z, e5, z1, z2, p5⟩ := s6 40 k r.condition (by omega) hs.c (by omega)
 rw [show ((40 : Nat) : Int) = 40 from rfl] at e5
 simp only [cA, cU, e1, e2, e3, e4, e5, Option.bind_some, eE, jP]
 refine ⟨_, rfl, fun h => ?_⟩
 simp at h
 exact ⟨by omega, p1 h.2.1, p2 h.2.2.1, p3 h.2.2.2.1, p4 h.2.2.2.2.1, p5 (by omega)⟩
theorem xr {k : Nat} {t : a8} {rs : List aM} (ht : ∀ x ∈ t.nodes, x.attrs.length ≤ jQ) (hr : ∀ r ∈ rs, xc r) (hk : 20000 < k) : ∃ b, scarfjointref40_Few k t rs = some (b, ()) ∧ (b = true → BT t ∧ rs.length ≤ 8 ∧ ∀ r ∈ rs, te 41 r) := by
 obtain ⟨b1, e1, p1⟩ := xt (k := k) ht (by omega)
 simp only [scarfjointref40_Few, e1, Option.bind_some, eE, gT]
 cases hb : (!b1 || decide ((rs.length : Int) > 8)) with
 | true => exact ⟨false, rfl, fun h => by cases h⟩
 | false =>
  have hb' : b1 = true ∧ rs.length ≤ 8 := by simp at hb; exact ⟨hb.1, by omega⟩
  have L := my (F := fun n (_ : Unit) i => scarfjointref40_Few.l0 k rs n i) rs (te 41) (fun _ _ => True) (fun _ => ()) k () trivial (fun n _ _ => by simp only [scarfjointref40_Few.l0, aE, cond_false]) (fun n _ i x hx _ => by
   obtain ⟨b, e, p⟩ := xC (k := k) (hr x (dn hx)) hk
   simp only [scarfjointref40_Few.l0, bf (aN hx), cond_true, idx_some hx, e, Option.bind_some, wS (show i < 4611686018427387904 by have := aN hx; omega)]
   cases b with
   | false => exact .inl rfl
   | true => exact .inr ⟨(), trivial, p rfl, rfl⟩) (by omega)
  simp only [cond_false]
  rcases L with e | ⟨_, _, e, q⟩
  ·rw [e]; exact ⟨false, rfl, fun h => by cases h⟩
  ·rw [e]; exact ⟨true, rfl, fun _ => ⟨p1 hb'.1, hb'.2, q⟩⟩
theorem wX : bA 40000 = some (true, ()) := by kernel_rfl
end Go.Ev.Pl
end
section
namespace Go.Ev.Pl
theorem kv {E : dv} {n : Nat} {x : am E.C (.nm n)} (h : iq E (.nm n) x) : iq E (E.fld n) (E.proj n x) := by
 cases h; assumption
theorem aC {E : dv} {a b : Ty} {p : am E.C a × am E.C b} (h : iq E (.pair a b) p) : iq E a p.1 ∧ iq E b p.2 := by
 cases h; exact ⟨by assumption, by assumption⟩
theorem dV {E : dv} {e : Ty} {l : List (am E.C e)} (h : iq E (.slice e) l) : l.length ≤ jQ ∧ ∀ x ∈ l, iq E e x := by
 cases h with
 | slice _ _ hl h =>
  refine ⟨Nat.le_trans hl (by decide), fun x hx => ?_⟩
  obtain ⟨i, hi, rfl⟩ := List.getElem_of_mem hx
  exact h i _ (List.getElem?_eq_getElem hi)
theorem szT {t : a8} (h : iq env (.nm 3) t) : ∀ x ∈ t.nodes, x.attrs.length ≤ jQ := by
 have h1 : iq env (.pair (.slice (.nm 1)) (.pair (.slice (.nm 2)) .unit)) (t.nodes, t.edges, ()) := kv h
 have h2 := (dV (aC h1).1).2
 intro x hx
 have h3 : iq env (.pair .str (.pair (.int .i64) (.pair .bool (.pair (.slice (.nm 0)) .unit)))) (x.name, x.parent, x.abstract, x.attrs, ()) := kv (h2 x hx)
 exact (dV (aC (aC (aC (aC h3).2).2).2).1).1
theorem y0 {m : aL} (h : iq env (.nm 11) m) : m.nodes.length ≤ jQ ∧ m.edges.length ≤ jQ := by
 have h1 : iq env (.pair (.slice (.int .i64)) (.pair (.slice (.int .i64)) .unit)) (m.nodes, m.edges, ()) := kv h
 exact ⟨(dV (aC h1).1).1, (dV (aC (aC h1).2).1).1⟩
theorem yc {m : ef} (h : iq env (.nm 10) m) : m.nodes.length ≤ jQ ∧ m.edges.length ≤ jQ := by
 have h1 : iq env (.pair (.slice (.int .i64)) (.pair (.slice (.int .i64)) .unit)) (m.nodes, m.edges, ()) := kv h
 exact ⟨(dV (aC h1).1).1, (dV (aC (aC h1).2).1).1⟩
theorem y5 : ∀ c : ae, iq env (.nm 12) c → xi c
 | ⟨kind, kids, map, pattern⟩, h => by
  have h1 : iq env (.pair (.int .i64) (.pair (.slice (.nm 12)) (.pair (.nm 11) (.pair (.nm 9) .unit)))) (kind, kids, map, pattern, ()) := kv h
  obtain ⟨k1, k2⟩ := dV (aC (aC h1).2).1
  obtain ⟨m1, m2⟩ := y0 (aC (aC (aC h1).2).2).1
  exact .mk _ m1 m2 k1 fun d hd => y5 d (k2 d hd)
termination_by c => SizeOf.sizeOf c
decreasing_by
 have hd : d ∈ kids := hd
 have := List.sizeOf_lt_of_mem hd
 simp
 omega
theorem yk {r : aM} (h : iq env (.nm 13) r) : xc r := by
 have h1 : iq env (.pair .str (.pair (.nm 9) (.pair (.nm 9) (.pair (.nm 10) (.pair (.nm 11) (.pair .bool (.pair (.nm 12) .unit))))))) (r.name, r.left, r.right, r.keep, r.into, r.injective, r.condition, ()) := kv h
 have h2 := (aC (aC (aC h1).2).2).2
 obtain ⟨p1, p2⟩ := yc (aC h2).1
 obtain ⟨m1, m2⟩ := y0 (aC (aC h2).2).1
 exact ⟨p1, p2, m1, m2, y5 _ (aC (aC (aC (aC h2).2).2).2).1⟩
theorem xR {rs : List aM} (h : iq env (.slice (.nm 13)) rs) : ∀ r ∈ rs, xc r := fun r hr => yk ((dV h).2 r hr)
theorem yl {l : bP} (h : iq env (.nm 15) l) : l.rules.length ≤ jQ ∧ l.nodes.length ≤ jQ ∧ l.edges.length ≤ jQ := by
 have h1 : iq env (.pair (.slice (.int .i64)) (.pair (.slice (.int .i64)) (.pair (.slice (.int .i64)) .unit))) (l.rules, l.nodes, l.edges, ()) := kv h
 exact ⟨(dV (aC h1).1).1, (dV (aC (aC h1).2).1).1, (dV (aC (aC (aC h1).2).2).1).1⟩
end Go.Ev.Pl
end
section
set_option linter.unusedVariables false
namespace Go.Ev.Pl
structure xZ (P : Nat) (e : ad) : Prop where
 d : ∀ x ∈ e.deletes, 0 ≤ x ∧ x < P
 c : ∀ x ∈ e.creates, 0 ≤ x ∧ x < P
 dl : e.deletes.length ≤ 32
 cl : e.creates.length ≤ 32
theorem tx {t : a8} {g : ah} (h : jo t g) {nodes edges : List Int} (hn : ∀ x ∈ nodes, 0 ≤ x ∧ x < g.nodes.length) (he : ∀ x ∈ edges, 0 ≤ x ∧ x < g.edges.length) : (∀ x ∈ plS t g nodes edges, 0 ≤ x ∧ x < (t.nodes.length + t.edges.length : Nat)) ∧ (plS t g nodes edges).length ≤ 32 := by
 rw [← sn h hn he]
 have h1 := h.ok.n
 have h2 := h.ok.e
 refine ⟨fun x hx => ?_, ?_⟩
 ·obtain ⟨i, hi, hx⟩ := List.mem_flatMap.1 hx
  have hi : i < t.nodes.length + t.edges.length := by simpa using hi
  unfold uQ at hx
  cases hc : (nodes.any (fun j => ls g j == (i : Int)) || edges.any (fun j => oW t g j == (i : Int))) with
  | false => rw [hc] at hx; simp at hx
  | true => rw [hc] at hx; simp at hx; omega
 ·have := eR (f := uQ t g nodes edges) (c := 1) (fun j => by unfold uQ; cases (nodes.any (fun i => ls g i == (j : Int)) || edges.any (fun i => oW t g i == (j : Int))) <;> simp) (t.nodes.length + t.edges.length)
  omega
theorem tX {n : Nat} {t : a8} {r : aM} (ht : BT t) (h : it n t r = 0) : xZ (t.nodes.length + t.edges.length) (kX t r) := by
 obtain ⟨_, ok⟩ := sc ht h
 have h1 := tx ok.left (nodes := gE r) (edges := lb r) (fun x hx => cC hx) (fun x hx => cC hx)
 have h2 := tx ok.right (nodes := kS r) (edges := kC r) (fun x hx => cC hx) (fun x hx => cC hx)
 exact ⟨h1.1, h2.1, h1.2, h2.2⟩
theorem xe {n : Nat} {t : a8} {rs : List aM} (ht : BT t) (ok : wO n t rs) : t.nodes.length ≤ 12 ∧ t.edges.length ≤ 20 := by
 have := ka ht ok.t0
 exact ⟨this.n, this.e⟩
theorem wN {n : Nat} {t : a8} {rs : List aM} (ht : BT t) (ok : wO n t rs) : (∀ e ∈ rs.map (kX t), xZ (t.nodes.length + t.edges.length) e) ∧ (rs.map (kX t)).length ≤ 6 := by
 refine ⟨fun e he => ?_, by rw [List.length_map]; exact ok.l⟩
 obtain ⟨r, hr, rfl⟩ := List.mem_map.1 he
 exact tX ht (ok.e r hr)
def kP (k : Int) : Bool := decide (k < 0) || decide (k > 100)
theorem k0 {l : List Int} {n : Int} (hl : l.length ≤ 1000) : co l n = some (((l.length : Int) == n) && !(l.any kP), ()) := by
 have h := bu (l := l) (q := fun z1 => cG z1.1) (p := kP) (fun x _ => by simp only [cG, eE, gT, Option.bind_some, kP]) (cI hl (by omega))
 simp only [co, kq, h, Option.bind_some, eE, jP]
theorem uK {k : Nat} {l : List Int} (hl : l.length ≤ 1000) (hk : 20000 < k) : scarfjointref40_in k l = some (!(l.any kP), ()) := by
 have h := bZ (F := scarfjointref40_in.l0 l) l () (fun _ x => cond (kP x) (some (false, ())) none) k (fun n => by simp only [scarfjointref40_in.l0, aE, cond_false]) (fun n i x hx _ => by
  simp only [scarfjointref40_in.l0, bf (aN hx), cond_true, idx_some hx, Option.bind_some, eE, gT, kP, cX, wS (show i < 4611686018427387904 by have := aN hx; omega)]) (by omega)
 rw [bH kP] at h
 simp only [scarfjointref40_in, h, Option.bind_some, fx]
 cases l.any kP <;> rfl
theorem sH {a b : List Int} (ha : a.length ≤ 1000) (hb : b.length ≤ 1000) : slices_Concat_lint [a, b] = some (a ++ b, ()) := by
 have w1 : IntKind.i64.wrap (0 + (a.length : Int)) = (a.length : Int) := by rw [jh (by omega) (by omega)]; omega
 have w2 : IntKind.i64.wrap ((a.length : Int) + (b.length : Int)) = ((a.length + b.length : Nat) : Int) := by rw [jh (by omega) (by omega)]; omega
 have e1 : slices_Concat_lint.l0 [a, b] [a, b] 2 3 0 0 = some ([a, b], ((a.length + b.length : Nat) : Int), ()) := by
  have d1 : ¬ ((a.length : Int) < 0) := by omega
  have d2 : ¬ (((a.length + b.length : Nat) : Int) < 0) := by omega
  have s1 : IntKind.i64.wrap ((0 : Int) + 1) = 1 := by kernel_rfl
  have s2 : IntKind.i64.wrap ((1 : Int) + 1) = 2 := by kernel_rfl
  have i1 : aB [a, b] 0 = some a := rfl
  have i2 : aB [a, b] 1 = some b := rfl
  simp only [slices_Concat_lint.l0, i1, i2, s1, s2, show decide ((0 : Int) < 2) = true from rfl, show decide ((1 : Int) < 2) = true from rfl, show decide ((2 : Int) < 2) = false from rfl, cond_true, cond_false, Option.bind_some, w1, w2, d1, d2, decide_false]
 have e2 : dh ((a.length + b.length : Nat) : Int) = some ([], ()) := by
  have d1 : ¬ (((a.length + b.length : Nat) : Int) < 0) := by omega
  have w3 : IntKind.i64.wrap (((a.length + b.length : Nat) : Int) - IntKind.i64.wrap ((0 : Int) - 0)) = ((a.length + b.length : Nat) : Int) := by
   rw [show IntKind.i64.wrap ((0 : Int) - 0) = 0 by kernel_rfl, Int.sub_zero, jh (by omega) (by omega)]
  simp only [dh, d1, decide_false, cond_false, w3]
  cases h : decide (((a.length + b.length : Nat) : Int) > 0) with
  | false => rfl
  | true =>
   have h0 : 0 < a.length + b.length := by simp at h; omega
   have hf : cP (Int.toNat ((a.length + b.length : Nat) : Int)) = true := by rw [Int.toNat_natCast]; exact bO (by omega)
   have hp : decide ((0 : Int) < ((a.length + b.length : Nat) : Int)) = true := decide_eq_true (by omega)
   have hz : decide ((0 : Int) ≤ ((List.replicate (Int.toNat ((a.length + b.length : Nat) : Int)) (0 : Int)).length : Int)) = true := decide_eq_true (by omega)
   have hy : decide (0 ≤ (List.replicate (Int.toNat ((a.length + b.length : Nat) : Int)) (0 : Int)).length) = true := decide_eq_true (by omega)
   simp only [hf, hp, hz, hy, xL, Bool.and_self, cond_true, beq_self_eq_true, Nat.le_refl, decide_true, slc, List.take_zero, List.drop_nil]
 have e3 : slices_Concat_lint.l2 [a, b] 2 3 [] 0 = some (a ++ b, ()) := by
  have s1 : IntKind.i64.wrap ((0 : Int) + 1) = 1 := by kernel_rfl
  have s2 : IntKind.i64.wrap ((1 : Int) + 1) = 2 := by kernel_rfl
  have i1 : aB [a, b] 0 = some a := rfl
  have i2 : aB [a, b] 1 = some b := rfl
  simp only [slices_Concat_lint.l2, i1, i2, s1, s2, show decide ((0 : Int) < 2) = true from rfl, show decide ((1 : Int) < 2) = true from rfl, show decide ((2 : Int) < 2) = false from rfl, cond_true, cond_false, Option.bind_some, List.length_nil, Nat.zero_add, List.nil_append, bO (show a.length ≤ 1000000 by omega), bO (show a.length + b.length ≤ 1000000 by omega)]
 have e4 : (([a, b] : List (List Int)).length : Int) = 2 := rfl
 have e5 : Int.toNat (2 : Int) + 1 = 3 := rfl
 simp only [slices_Concat_lint, e4, e5, e1, e2, e3, Option.bind_some]
def kx (L : List Int) (k : Int) : Int := (aB L k).getD 0
theorem kT {L : List Int} {k : Int} (h : 0 ≤ k ∧ k < L.length) : aB L k = some (kx L k) := by
 obtain ⟨x, x1, _, _⟩ := bB h.1 h.2
 rw [kx, x1]; rfl
def tr (L rl : List Int) (i : Nat) (e : ad) : Option (Bool × Unit) :=
 cond ((e.deletes.length : Int) == 0) (some (false, ())) (cond (e.deletes.any (fun k => decide (kx L k > kx rl i)) || e.creates.any (fun k => decide (kx L k ≤ kx rl i))) (some (false, ())) none)
theorem vJ {a b : List Int} {k : Int} (h : 0 ≤ k) : aB (a ++ b) k = cond (decide (k < (a.length : Int))) (aB a k) (aB b (k - (a.length : Int))) := by
 by_cases hk : k < (a.length : Int)
 ·have : k.toNat < a.length := by omega
  simp [aB, nth, h, hk, List.getElem?_append_left this]
 ·have : a.length ≤ k.toNat := by omega
  have h2 : (0 : Int) ≤ k - a.length := by omega
  have e : k.toNat - a.length = (k - (a.length : Int)).toNat := by omega
  have d1 : decide (k < (a.length : Int)) = false := decide_eq_false hk
  rw [d1, cond_false, aB, aB, decide_eq_true h, decide_eq_true h2, cond_true, cond_true, nth, nth, List.getElem?_append_right this, e]
theorem pm {t : a8} {l : bP} {x : Int} (h1 : l.nodes.length = t.nodes.length) (h0 : 0 ≤ x) (h : x < (l.nodes ++ l.edges).length) (hn : t.nodes.length ≤ 1000) (he : l.edges.length ≤ 1000) : bD t l x = some (kx (l.nodes ++ l.edges) x, ()) := by
 have e := kT (L := l.nodes ++ l.edges) (k := x) ⟨h0, h⟩
 rw [List.length_append] at h
 rw [vJ h0, h1] at e
 have w : IntKind.i64.wrap (x - (t.nodes.length : Int)) = x - (t.nodes.length : Int) := jh (by omega) (by omega)
 rw [bD, w]
 cases hd : decide (x < (t.nodes.length : Int)) with
 | true => rw [hd] at e; simp only [cond_true] at e ⊢; rw [e]; rfl
 | false => rw [hd] at e; simp only [cond_false] at e ⊢; rw [e]; rfl
theorem nS {L rl : List Int} {es : List ad} {z : Bool × Unit} (h : ca (tr L rl) es = some z) : z = (false, ()) := by
 obtain ⟨j, _, _, j3, _⟩ := dN h
 obtain ⟨x, _, j5⟩ := Option.bind_eq_some_iff.1 j3
 unfold tr at j5
 generalize ((x.deletes.length : Int) == 0) = a at j5
 generalize (x.deletes.any (fun k => decide (kx L k > kx rl j)) || x.creates.any (fun k => decide (kx L k ≤ kx rl j))) = b at j5
 cases a <;> cases b <;> first | (cases j5; rfl) | cases j5
theorem xm {k n : Nat} {t : a8} {rs : List aM} {l : bP} (ht : BT t) (hr : ∀ r ∈ rs, te n r) (hrl : rs.length ≤ 1000) (h1 : l.rules.length ≤ 1000) (h2 : l.nodes.length ≤ 1000) (h3 : l.edges.length ≤ 1000) (hk : 20000 + n < k) :
  ∃ b, layering_Check k t rs l = some (b, ()) ∧ scarfjointref40_Check k t rs l = some (b, ()) ∧ (b = (mO n t rs == 0 && ((((l.rules.length : Int) == rs.length) && !(l.rules.any kP)) && ((((l.nodes.length : Int) == t.nodes.length) && !(l.nodes.any kP)) && (((l.edges.length : Int) == t.edges.length) && !(l.edges.any kP)))) && (ca (tr (l.nodes ++ l.edges) l.rules) (rs.map (kX t))).isNone)) := by
 have hk' : 20000 < k := by omega
 simp only [layering_Check, scarfjointref40_Check, vK ht hr hrl hk, vQ ht hr hrl hk, k0 h1, k0 h2, k0 h3, uK h1 hk', uK h2 hk', uK h3 hk', Option.bind_some, eE, gT, Bool.not_not]
 have ge : (mO n t rs != 0) = !(mO n t rs == 0) := rfl
 rw [ge]
 cases hg : (mO n t rs == 0) with
 | false => exact ⟨false, rfl, rfl, rfl⟩
 | true =>
  have ok := vl (show mO n t rs = 0 by simpa using hg)
  simp only [Bool.not_true, Bool.false_or, Bool.true_and, cond_false]
  have re : ∀ a b : Int, (a != b) = !(a == b) := fun _ _ => rfl
  simp only [re]
  generalize l.rules.any kP = b1
  generalize l.nodes.any kP = b2
  generalize l.edges.any kP = b3
  cases e1 : ((l.rules.length : Int) == (rs.length : Int)) with
  | false => refine ⟨false, ?_, ?_, ?_⟩ <;> (cases ((l.nodes.length : Int) == (t.nodes.length : Int)) <;> cases ((l.edges.length : Int) == (t.edges.length : Int)) <;> cases b1 <;> cases b2 <;> cases b3 <;> rfl)
  | true =>
   cases e2 : ((l.nodes.length : Int) == (t.nodes.length : Int)) with
   | false => refine ⟨false, ?_, ?_, ?_⟩ <;> (cases ((l.edges.length : Int) == (t.edges.length : Int)) <;> cases b1 <;> cases b2 <;> cases b3 <;> rfl)
   | true =>
    cases e3 : ((l.edges.length : Int) == (t.edges.length : Int)) with
    | false => refine ⟨false, ?_, ?_, ?_⟩ <;> (cases b1 <;> cases b2 <;> cases b3 <;> rfl)
    | true =>
     have l1 : l.rules.length = rs.length := by simp at e1; omega
     have l2 : l.nodes.length = t.nodes.length := by simp at e2; omega
     have l3 : l.edges.length = t.edges.length := by simp at e3; omega
     cases b1 with
     | true => exact ⟨false, rfl, rfl, rfl⟩
     | false =>
      cases b2 with
      | true => exact ⟨false, rfl, rfl, rfl⟩
      | false =>
       cases b3 with
       | true => exact ⟨false, rfl, rfl, rfl⟩
       | false =>
        obtain ⟨oe, ol⟩ := wN ht ok
        have tl := xe ht ok
        have hL : (l.nodes ++ l.edges).length = t.nodes.length + t.edges.length := by rw [List.length_append, l2, l3]
        have L0 := bZ (F := layering_Check.l0 l (l.nodes ++ l.edges) (rs.map (kX t)) (rs.map (kX t)).length) (rs.map (kX t)) () (tr (l.nodes ++ l.edges) l.rules) (Int.toNat ((rs.map (kX t)).length : Int) + 1) (fun m => by simp only [layering_Check.l0, aE, cond_false]) (fun m i e he _ => by
         have hi := aN he
         have o := oe e (dn he)
         have hir : i < l.rules.length := by rw [l1]; simpa using hi
         have er : aB l.rules (i : Int) = some (kx l.rules i) := kT (by omega)
         have a1 := bu (l := e.deletes) (q := fun z14 => de z14.1 (l.nodes ++ l.edges) l i) (p := fun k => decide (kx (l.nodes ++ l.edges) k > kx l.rules i)) (fun x hx => by
          have := o.d x hx
          simp only [de, kT (L := l.nodes ++ l.edges) (k := x) (by omega), er, Option.bind_some]) (cI o.dl (by omega))
         have a2 := bu (l := e.creates) (q := fun z14 => dg z14.1 (l.nodes ++ l.edges) l i) (p := fun k => decide (kx (l.nodes ++ l.edges) k ≤ kx l.rules i)) (fun x hx => by
          have := o.c x hx
          simp only [dg, kT (L := l.nodes ++ l.edges) (k := x) (by omega), er, Option.bind_some]) (cI o.cl (by omega))
         simp only [layering_Check.l0, bf hi, jv, Bool.and_true, cond_true, Int.toNat_natCast, fH he, kq, a1, a2, Option.bind_some, eE, gT, tr, gv, cX, wS (show i < 4611686018427387904 by omega)]
         cases ((e.deletes.length : Int) == 0) <;> rfl) (by omega)
        have R0 := bZ (F := fun m i => scarfjointref40_Check.l0 k m rs t l i) rs () (fun i r => tr (l.nodes ++ l.edges) l.rules i (kX t r)) k (fun m => by simp only [scarfjointref40_Check.l0, aE, cond_false]) (fun m i r hx _ => by
         have hi := aN hx
         have hmem := dn hx
         have o := tX ht (ok.e r hmem)
         have hD := rm (k := k) ht (hr r hmem) (ok.e r hmem) hk
         have er : aB l.rules (i : Int) = some (kx l.rules i) := kT (by omega)
         have b2 := bZ (F := scarfjointref40_Check.l2 rs t l i (kX t r).deletes (kX t r).creates) (kX t r).deletes (rs, t, l, (i : Int), (kX t r).creates, ()) (fun _ x => cond (decide (kx (l.nodes ++ l.edges) x > kx l.rules i)) (some (false, ())) none) k (fun m => by simp only [scarfjointref40_Check.l2, aE, cond_false]) (fun m j x hx _ => by
          have := o.d x (dn hx)
          have hj := aN hx
          have := o.dl
          simp only [scarfjointref40_Check.l2, bf hj, jv, Bool.and_true, cond_true, Int.toNat_natCast, fH hx, pm (l := l) l2 (x := x) (by omega) (by omega) (by omega) h3, er, Option.bind_some, cX, wS (show j < 4611686018427387904 by omega)]) (by have := o.dl; omega)
         have b4 := bZ (F := scarfjointref40_Check.l4 rs t l i (kX t r).creates) (kX t r).creates (rs, t, l, (i : Int), ()) (fun _ x => cond (decide (kx (l.nodes ++ l.edges) x ≤ kx l.rules i)) (some (false, ())) none) k (fun m => by simp only [scarfjointref40_Check.l4, aE, cond_false]) (fun m j x hx _ => by
          have := o.c x (dn hx)
          have hj := aN hx
          have := o.cl
          simp only [scarfjointref40_Check.l4, bf hj, jv, Bool.and_true, cond_true, Int.toNat_natCast, fH hx, pm (l := l) l2 (x := x) (by omega) (by omega) (by omega) h3, er, Option.bind_some, cX, wS (show j < 4611686018427387904 by omega)]) (by have := o.cl; omega)
         rw [bH (fun x => decide (kx (l.nodes ++ l.edges) x > kx l.rules i))] at b2
         rw [bH (fun x => decide (kx (l.nodes ++ l.edges) x ≤ kx l.rules i))] at b4
         simp only [scarfjointref40_Check.l0, bf hi, cond_true, idx_some hx, hD.1, hD.2, Option.bind_some, b2, tr]
         cases (((kX t r).deletes.length : Int) == 0) with
         | true => rfl
         | false =>
          simp only [cond_false]
          cases (kX t r).deletes.any (fun x => decide (kx (l.nodes ++ l.edges) x > kx l.rules i)) with
          | true => rfl
          | false =>
           simp only [cond_false, Option.elim, aF, b4, Option.bind_some, Bool.false_or]
           cases (kX t r).creates.any (fun x => decide (kx (l.nodes ++ l.edges) x ≤ kx l.rules i)) with
           | true => rfl
           | false => simp only [cond_false, Option.elim, aF, wS (show i < 4611686018427387904 by omega)]) (by omega)
        have em : ca (fun i r => tr (l.nodes ++ l.edges) l.rules i (kX t r)) rs = ca (tr (l.nodes ++ l.edges) l.rules) (rs.map (kX t)) := by
         unfold ca
         rw [List.length_map]
         congr 1
         funext i
         rw [List.getElem?_map]
         cases rs[i]? <;> rfl
        rw [em] at R0
        simp only [Bool.not_false, Bool.and_self, Bool.not_true, Bool.or_self, cond_false, sH h2 h3, Option.bind_some, L0, R0]
        refine ⟨(ca (tr (l.nodes ++ l.edges) l.rules) (rs.map (kX t))).isNone, ?_, ?_, rfl⟩
        ·cases hf : ca (tr (l.nodes ++ l.edges) l.rules) (rs.map (kX t)) with
         | none => rfl
         | some z => rw [nS hf]; rfl
        ·cases hf : ca (tr (l.nodes ++ l.edges) l.rules) (rs.map (kX t)) with
         | none => rfl
         | some z => rw [nS hf]; rfl
theorem sJ {k : Nat} {t : a8} {rs : List aM} {l : bP} (ht : ∀ x ∈ t.nodes, x.attrs.length ≤ jQ) (hr : ∀ r ∈ rs, xc r) (hl : l.rules.length ≤ jQ ∧ l.nodes.length ≤ jQ ∧ l.edges.length ≤ jQ) (hk : 30000 < k) (aw : bA k = some (true, ())) : aG k t rs l = some (true, ()) := by
 obtain ⟨b, e1, p1⟩ := xr (k := k) ht hr (by omega)
 obtain ⟨l1, l2, l3⟩ := hl
 simp only [jQ] at l1 l2 l3
 have w1 : IntKind.i64.wrap ((l.rules.length : Int) + (l.nodes.length : Int)) = (l.rules.length : Int) + (l.nodes.length : Int) := jh (by omega) (by omega)
 have w2 : IntKind.i64.wrap ((l.rules.length : Int) + (l.nodes.length : Int) + (l.edges.length : Int)) = (l.rules.length : Int) + (l.nodes.length : Int) + (l.edges.length : Int) := jh (by omega) (by omega)
 simp only [aG, aw, e1, w1, w2, Option.bind_some, Bool.not_true, cond_false, eE, gT]
 cases h : (!b || decide ((l.rules.length : Int) + (l.nodes.length : Int) + (l.edges.length : Int) > 40)) with
 | true => rfl
 | false =>
  have hb : b = true ∧ l.rules.length + l.nodes.length + l.edges.length ≤ 40 := by simp at h; exact ⟨h.1, by omega⟩
  obtain ⟨bt, rl, br⟩ := p1 hb.1
  have hb2 := hb.2
  obtain ⟨c, c1, c2, _⟩ := xm (k := k) (l := l) bt br (by omega) (by omega) (by omega) (by omega) (by omega)
  simp only [cond_false, i9 (show l.rules.length ≤ 1000000 by omega), i9 (show l.nodes.length ≤ 1000000 by omega), i9 (show l.edges.length ≤ 1000000 by omega), c1, c2, Option.bind_some, beq_self_eq_true]
  rfl
end Go.Ev.Pl
end
