import Derived.Test.YtlmpeiepanajmaaGreatM5
set_option linter.all false
section
set_option linter.unusedVariables false
namespace Go.Ev.Pl
theorem fY {α β : Type} (f : α → β) (l : List α) : (List.range l.length).flatMap (fun i => (l[i]?).elim [] fun x => [f x]) = l.map f := by
 have h := congrArg (List.map f) (kX l)
 rw [List.map_flatMap] at h
 rw [← h]
 congr 1
 funext i
 cases l[i]? <;> rfl
def pm (g : ah) (p : dS) (x : Int) : Bool := match aF g.edges x with | some e => !(p.nodes.any (e.frm == ·)) || !(p.nodes.any (e.to == ·)) | none => false
def sd (g : ah) (p : dS) : Int :=
 cond (lM p.nodes g.nodes.length != 0) (lM p.nodes g.nodes.length) (cond (lM p.edges g.edges.length != 0) (lM p.edges g.edges.length) (cond (p.edges.any (pm g p)) 14 0))
def jP (g : ah) (p : dS) : Int := cond (ks g != 0) (ks g) (sd g p)
structure lG (p : dS) : Prop where
 n : p.nodes.length ≤ 140
 e : p.edges.length ≤ 140
theorem pq {k : Nat} {g : ah} {p : dS} (hp : lG p) (hk : 20000 < k) : subgraph_part k g p = some (sd g p, ()) ∧ scarfjointref07_Right k g p = some (sd g p, ()) := by
 have h1 := hp.n
 have h2 := hp.e
 simp only [subgraph_part, scarfjointref07_Right, sd, (oH (k := k) (l := p.nodes) g.nodes.length (by omega) (by omega)).1, (oH (k := k) (l := p.nodes) g.nodes.length (by omega) (by omega)).2, (oH (k := k) (l := p.edges) g.edges.length (by omega) (by omega)).1, (oH (k := k) (l := p.edges) g.edges.length (by omega) (by omega)).2, Option.bind_some]
 cases h3 : (lM p.nodes g.nodes.length != 0) with
 | true => (refine ⟨?_, ?_⟩ <;> first | rfl | trivial)
 | false =>
  cases h4 : (lM p.edges g.edges.length != 0) with
  | true => (refine ⟨?_, ?_⟩ <;> first | rfl | trivial)
  | false =>
   have a1 := oN (show lM p.nodes g.nodes.length = 0 by simpa using h3)
   have a2 := oN (show lM p.edges g.edges.length = 0 by simpa using h4)
   have l1 := cl (F := subgraph_part.l0 k g p p.edges p.edges.length) p.edges () (fun _ x => cond (pm g p x) (some (14, ())) none) (Int.toNat (p.edges.length : Int) + 1) (fun n => by simp only [subgraph_part.l0, aD, cond_false]) (fun n i x hx _ => by
    have hr := a2.ran x (dF hx)
    obtain ⟨e, e1, _, _⟩ := bC hr.1 hr.2
    obtain ⟨q1, q2, _⟩ := om (k := k) e.frm a1 (by omega) (by omega)
    obtain ⟨r1, r2, _⟩ := om (k := k) e.to a1 (by omega) (by omega)
    simp only [subgraph_part.l0, eV, aX (aN hx), cond_true, idx_some hx, e1, q2, r2, Option.bind_some, eo, gN, pm, de, wS (show i < 4611686018427387904 by have := aN hx; omega)]) (by omega)
   have l2 := cl (F := scarfjointref07_Right.l0 k g p) p.edges () (fun _ x => cond (pm g p x) (some (14, ())) none) k (fun n => by simp only [scarfjointref07_Right.l0, aD, cond_false]) (fun n i x hx _ => by
    have hr := a2.ran x (dF hx)
    obtain ⟨e, e1, _, _⟩ := bC hr.1 hr.2
    simp only [scarfjointref07_Right.l0, aX (aN hx), cond_true, idx_some hx, e1, (qC (k := k) (l := p.nodes) e.frm (by omega) (by omega)).1, (qC (k := k) (l := p.nodes) e.to (by omega) (by omega)).1, Option.bind_some, eo, gN, pm, de, wS (show i < 4611686018427387904 by have := aN hx; omega)]) (by omega)
   rw [bZ (pm g p)] at l1 l2
   simp only [cond_false, l1, l2, Option.bind_some, fN]
   cases p.edges.any (pm g p) <;> (refine ⟨?_, ?_⟩ <;> first | rfl | trivial)
theorem ro {k : Nat} {g : ah} {p : dS} (hg : BG g) (hp : lG p) (hk : 20000 < k) : dJ k g p = some (jP g p, ()) ∧ bj k g p = some (jP g p, ()) := by
 simp only [dJ, bj, jP, (jK hg (show 200 < k by omega)).1, (jK hg (show 200 < k by omega)).2, (pq (g := g) hp hk).1, (pq (g := g) hp hk).2, Option.bind_some, eo, and_self]
structure wC (g : ah) (p : dS) : Prop where
 gr : xH g
 n : xB p.nodes g.nodes.length
 e : xB p.edges g.edges.length
 d : ∀ x ∈ p.edges, ∀ e, aF g.edges x = some e → p.nodes.any (e.frm == ·) = true ∧ p.nodes.any (e.to == ·) = true
theorem th {c y : Int} (h : cond (c != 0) c y = 0) : c = 0 ∧ y = 0 := by
 cases hc : (c != 0) with
 | true => rw [hc, cond_true] at h; rw [h] at hc; cases hc
 | false => rw [hc] at h; exact ⟨by simpa using hc, h⟩
theorem xf {b : Bool} {c y : Int} (h : cond b c y = 0) (hc : c ≠ 0) : b = false ∧ y = 0 := by
 cases b with
 | true => exact absurd h hc
 | false => exact ⟨rfl, h⟩
theorem vu {g : ah} {p : dS} (h : jP g p = 0) : wC g p := by
 obtain ⟨h1, h⟩ := th h
 obtain ⟨h2, h⟩ := th h
 obtain ⟨h3, h⟩ := th h
 obtain ⟨h4, h⟩ := xf h (by decide)
 refine ⟨jq h1, oN h2, oN h3, fun x hx e he => ?_⟩
 have := List.any_eq_false.1 h4 x hx
 simp only [pm, he] at this
 cases h6 : p.nodes.any (e.frm == ·) <;> cases h7 : p.nodes.any (e.to == ·) <;> simp only [h6, h7] at this <;> simp at this ⊢
def wL (g : ah) (p : dS) (x : Int) : Edge := match aF g.edges x with | some e => ⟨e.typ, nK p.nodes e.frm, nK p.nodes e.to⟩ | none => ⟨0, 0, 0⟩
def sP (g : ah) (p : dS) : ah := ⟨p.nodes.map fun i => (aF g.nodes i).getD 0, p.edges.map (wL g p)⟩
abbrev xY := ((List Int) × ((List Edge) × Unit)) × (((List Int) × ((List Int) × Unit)) × (Int × Unit))
def xz (g : ah) (p : dS) : xY := cond (jP g p != 0) (([], [], ()), ([], [], ()), jP g p, ()) (((sP g p).nodes, (sP g p).edges, ()), (p.nodes, p.edges, ()), 0, ())
theorem vZ {k : Nat} {g : ah} {p : dS} (hg : BG g) (hp : lG p) (hk : 20000 < k) : subgraph_Extract k g p = some (xz g p) ∧ scarfjointref07_Extract k g p = some (xz g p) := by
 have h1 := hp.n
 have h2 := hp.e
 simp only [subgraph_Extract, scarfjointref07_Extract, (ro hg hp hk).1, (ro hg hp hk).2, Option.bind_some, xz]
 cases h3 : (jP g p != 0) with
 | true => (refine ⟨?_, ?_⟩ <;> first | rfl | trivial)
 | false =>
  have ok := vu (show jP g p = 0 by simpa using h3)
  have bn : ∀ {β : Type} (f : Nat → List β) (acc : List β) (i : Nat), (∀ j, (f j).length ≤ 1) → acc = [] ++ (List.range i).flatMap f → i ≤ 140 → acc.length + 1 ≤ 1000000 := fun f acc i hf hacc hi => by
   have := cr hf i; rw [List.nil_append] at hacc; subst hacc; omega
  have l1 := gx (F := subgraph_Extract.l0 g p [] [] [] [] [] p.nodes p.nodes.length) p.nodes.length (fun i => (p.nodes[i]?).elim [] fun x => [(aF g.nodes x).getD 0]) (fun acc => some (g, p, ([], [], ()), ([], [], ()), (acc, [], ()), ())) [] (Int.toNat (p.nodes.length : Int) + 1) (fun n acc => by simp only [subgraph_Extract.l0, aD, cond_false]) (fun n acc i hi hacc => by
   have hx : p.nodes[i]? = some p.nodes[i] := List.getElem?_eq_getElem hi
   have hr := ok.n.ran _ (List.getElem_mem hi)
   obtain ⟨e, e1, _, _⟩ := bC hr.1 hr.2
   have hb := bn _ acc i (fun j => by cases p.nodes[j]? <;> simp) hacc (by omega)
   simp only [subgraph_Extract.l0, aX hi, cond_true, idx_some hx, e1, hx, Option.bind_some, Option.elim, Option.getD_some, List.length_cons, List.length_nil, Nat.zero_add, bP hb, wS (show i < 4611686018427387904 by omega)]) (by omega)
  have l2 := gx (F := scarfjointref07_Extract.l0 g p [] [] [] [] []) p.nodes.length (fun i => (p.nodes[i]?).elim [] fun x => [(aF g.nodes x).getD 0]) (fun acc => some (g, p, ([], [], ()), ([], [], ()), (acc, [], ()), ())) [] k (fun n acc => by simp only [scarfjointref07_Extract.l0, aD, cond_false]) (fun n acc i hi hacc => by
   have hx : p.nodes[i]? = some p.nodes[i] := List.getElem?_eq_getElem hi
   have hr := ok.n.ran _ (List.getElem_mem hi)
   obtain ⟨e, e1, _, _⟩ := bC hr.1 hr.2
   have hb := bn _ acc i (fun j => by cases p.nodes[j]? <;> simp) hacc (by omega)
   simp only [scarfjointref07_Extract.l0, aX hi, cond_true, idx_some hx, e1, hx, Option.bind_some, Option.elim, Option.getD_some, List.length_cons, List.length_nil, Nat.zero_add, bP hb, wS (show i < 4611686018427387904 by omega)]) (by omega)
  rw [fY (fun x => (aF g.nodes x).getD 0), List.nil_append] at l1 l2
  have hN : (sP g p).nodes = p.nodes.map (fun x => (aF g.nodes x).getD 0) := rfl
  rw [hN]
  generalize p.nodes.map (fun x => (aF g.nodes x).getD 0) = N at *
  have l3 := gx (F := subgraph_Extract.l2 k g p [] [] [] [] N p.edges p.edges.length) p.edges.length (fun i => (p.edges[i]?).elim [] fun x => [wL g p x]) (fun acc => some (p, ([], [], ()), ([], [], ()), (N, acc, ()), ())) [] (Int.toNat (p.edges.length : Int) + 1) (fun n acc => by simp only [subgraph_Extract.l2, aD, cond_false]) (fun n acc i hi hacc => by
   have hx : p.edges[i]? = some p.edges[i] := List.getElem?_eq_getElem hi
   have hr := ok.e.ran _ (List.getElem_mem hi)
   obtain ⟨e, e1, _, _⟩ := bC hr.1 hr.2
   obtain ⟨d1, d2⟩ := ok.d _ (List.getElem_mem hi) e e1
   obtain ⟨q1, q2, q3⟩ := om (k := k) e.frm ok.n (by omega) (by omega)
   obtain ⟨r1, r2, r3⟩ := om (k := k) e.to ok.n (by omega) (by omega)
   have hb := bn _ acc i (fun j => by cases p.edges[j]? <;> simp) hacc (by omega)
   simp only [subgraph_Extract.l2, aX hi, cond_true, idx_some hx, e1, hx, q2, r2, q3 d1, r3 d2, wL, Option.bind_some, Option.elim, List.length_cons, List.length_nil, Nat.zero_add, bP hb, wS (show i < 4611686018427387904 by omega)]) (by omega)
  have l4 := gx (F := scarfjointref07_Extract.l2 k g p [] [] [] [] N) p.edges.length (fun i => (p.edges[i]?).elim [] fun x => [wL g p x]) (fun acc => some (p, ([], [], ()), ([], [], ()), (N, acc, ()), ())) [] k (fun n acc => by simp only [scarfjointref07_Extract.l2, aD, cond_false]) (fun n acc i hi hacc => by
   have hx : p.edges[i]? = some p.edges[i] := List.getElem?_eq_getElem hi
   have hr := ok.e.ran _ (List.getElem_mem hi)
   obtain ⟨e, e1, _, _⟩ := bC hr.1 hr.2
   have hb := bn _ acc i (fun j => by cases p.edges[j]? <;> simp) hacc (by omega)
   simp only [scarfjointref07_Extract.l2, aX hi, cond_true, idx_some hx, e1, hx, qe (k := k) (l := p.nodes) e.frm (by omega) (by omega), qe (k := k) (l := p.nodes) e.to (by omega) (by omega), wL, Option.bind_some, Option.elim, List.length_cons, List.length_nil, Nat.zero_add, bP hb, wS (show i < 4611686018427387904 by omega)]) (by omega)
  rw [fY (wL g p), List.nil_append] at l3 l4
  simp only [cond_false, l1, l2, l3, l4, Option.bind_some, jf (show p.nodes.length ≤ 1000000 by omega), jf (show p.edges.length ≤ 1000000 by omega), List.length_nil, Nat.zero_add, List.nil_append, bP (show p.nodes.length ≤ 1000000 by omega), bP (show p.edges.length ≤ 1000000 by omega), cond_true, sP, and_self]
theorem tH {g : ah} {p : dS} (hp : lG p) : BG (sP g p) := ⟨by have := hp.n; simp [sP]; omega, by have := hp.e; simp [sP]; omega⟩
def sI (a b : ah) (i : Nat) (x : Int) : Option (Int × Unit) :=
 cond (decide (x < 0) || decide (x ≥ (b.nodes.length : Int))) (some (6, ())) (cond ((aF b.nodes x).getD 0 != (a.nodes[i]?).getD 0) (some (13, ())) none)
def te (a b : ah) (m : aK) (i : Nat) (x : Int) : Option (Int × Unit) :=
 cond (decide (x < 0) || decide (x ≥ (b.edges.length : Int))) (some (6, ())) (match a.edges[i]?, aF b.edges x with
  | some e, some f => cond (e.typ != f.typ) (some (13, ())) (cond ((aF m.nodes e.frm).getD 0 != f.frm || (aF m.nodes e.to).getD 0 != f.to) (some (11, ())) none)
  | _, _ => none)
def kn (a b : ah) (m : aK) : Int :=
 cond (ks a != 0) (ks a) (cond (ks b != 0) (ks b) (cond (((m.nodes.length : Int) != (a.nodes.length : Int)) || ((m.edges.length : Int) != (a.edges.length : Int))) 20
  (match cm (sI a b) m.nodes with | some z => z.1 | none => kP (cm (te a b m) m.edges))))
theorem nS {k : Nat} {a b : ah} {m : aK} (ha : BG a) (hb : BG b) (hk : 20000 < k) : morphism_Valid a b m = some (kn a b m, ()) ∧ scarfjointref06_Valid k a b m = some (kn a b m, ()) := by
 have h1 := ha.n
 have h2 := ha.e
 simp only [morphism_Valid, scarfjointref06_Valid, kn, (jK ha (show 200 < k by omega)).1, (jK ha (show 200 < k by omega)).2, (jK hb (show 200 < k by omega)).1, (jK hb (show 200 < k by omega)).2, Option.bind_some, eo, gN]
 cases h3 : (ks a != 0) with
 | true => (refine ⟨?_, ?_⟩ <;> first | rfl | trivial)
 | false =>
  cases h4 : (ks b != 0) with
  | true => (refine ⟨?_, ?_⟩ <;> first | rfl | trivial)
  | false =>
   cases h5 : (((m.nodes.length : Int) != (a.nodes.length : Int)) || ((m.edges.length : Int) != (a.edges.length : Int))) with
   | true => (refine ⟨?_, ?_⟩ <;> first | rfl | trivial)
   | false =>
    have oa := jq (show ks a = 0 by simpa using h3)
    have ob := jq (show ks b = 0 by simpa using h4)
    have hn : m.nodes.length = a.nodes.length := by simp at h5; omega
    have he : m.edges.length = a.edges.length := by simp at h5; omega
    have l1 := cl (F := morphism_Valid.l0 a b m m.nodes m.nodes.length) m.nodes (a, b, m, ()) (sI a b) (Int.toNat (m.nodes.length : Int) + 1) (fun n => by simp only [morphism_Valid.l0, aD, cond_false]) (fun n i x hx _ => by
     have hi := aN hx
     have hy : a.nodes[i]? = some a.nodes[i] := List.getElem?_eq_getElem (by omega)
     simp only [morphism_Valid.l0, sI, aX hi, cond_true, idx_some hx, idx_some hy, hy, Option.bind_some, Option.getD_some, eo, gN, gH, iN, wS (show i < 4611686018427387904 by omega)]
     cases h6 : (decide (x < 0) || decide (x ≥ (b.nodes.length : Int))) with
     | true => rfl
     | false =>
      have : 0 ≤ x ∧ x < b.nodes.length := by simp at h6; omega
      obtain ⟨z, z1, _, _⟩ := bC this.1 this.2
      simp only [cond_false, z1, Option.bind_some, Option.getD_some]) (by omega)
    have l2 := cl (F := scarfjointref06_Valid.l0 a b m) m.nodes (a, b, m, ()) (sI a b) k (fun n => by rw [hn]; simp only [scarfjointref06_Valid.l0, aD, cond_false]) (fun n i x hx _ => by
     have hi := aN hx
     have hy : a.nodes[i]? = some a.nodes[i] := List.getElem?_eq_getElem (by omega)
     simp only [scarfjointref06_Valid.l0, sI, aX (show i < a.nodes.length by omega), cond_true, idx_some hx, idx_some hy, hy, Option.bind_some, Option.getD_some, eo, gN, gH, iN, wS (show i < 4611686018427387904 by omega)]
     cases h6 : (decide (x < 0) || decide (x ≥ (b.nodes.length : Int))) with
     | true => rfl
     | false =>
      have : 0 ≤ x ∧ x < b.nodes.length := by simp at h6; omega
      obtain ⟨z, z1, _, _⟩ := bC this.1 this.2
      simp only [cond_false, z1, Option.bind_some, Option.getD_some]) (by omega)
    have l3 := cl (F := morphism_Valid.l2 a b m m.edges m.edges.length) m.edges () (te a b m) (Int.toNat (m.edges.length : Int) + 1) (fun n => by simp only [morphism_Valid.l2, aD, cond_false]) (fun n i x hx _ => by
     have hi := aN hx
     have hy : a.edges[i]? = some a.edges[i] := List.getElem?_eq_getElem (by omega)
     have hr := oa.edge _ (dF hy)
     obtain ⟨u, u1, _, _⟩ := bC (l := m.nodes) (i := a.edges[i].frm) (by omega) (by omega)
     obtain ⟨v, v1, _, _⟩ := bC (l := m.nodes) (i := a.edges[i].to) (by omega) (by omega)
     simp only [morphism_Valid.l2, te, aX hi, cond_true, idx_some hx, idx_some hy, hy, Option.bind_some, Option.getD_some, eo, gN, gH, wS (show i < 4611686018427387904 by omega)]
     cases h6 : (decide (x < 0) || decide (x ≥ (b.edges.length : Int))) with
     | true => rfl
     | false =>
      have : 0 ≤ x ∧ x < b.edges.length := by simp at h6; omega
      obtain ⟨z, z1, _, _⟩ := bC this.1 this.2
      simp only [cond_false, z1, u1, v1, Option.bind_some, Option.getD_some, eo, gN, gH, iN]) (by omega)
    have l4 := cl (F := scarfjointref06_Valid.l2 a b m) m.edges () (te a b m) k (fun n => by rw [he]; simp only [scarfjointref06_Valid.l2, aD, cond_false]) (fun n i x hx _ => by
     have hi := aN hx
     have hy : a.edges[i]? = some a.edges[i] := List.getElem?_eq_getElem (by omega)
     have hr := oa.edge _ (dF hy)
     obtain ⟨u, u1, _, _⟩ := bC (l := m.nodes) (i := a.edges[i].frm) (by omega) (by omega)
     obtain ⟨v, v1, _, _⟩ := bC (l := m.nodes) (i := a.edges[i].to) (by omega) (by omega)
     simp only [scarfjointref06_Valid.l2, te, aX (show i < a.edges.length by omega), cond_true, idx_some hx, idx_some hy, hy, Option.bind_some, Option.getD_some, eo, gN, gH, wS (show i < 4611686018427387904 by omega)]
     cases h6 : (decide (x < 0) || decide (x ≥ (b.edges.length : Int))) with
     | true => rfl
     | false =>
      have : 0 ≤ x ∧ x < b.edges.length := by simp at h6; omega
      obtain ⟨z, z1, _, _⟩ := bC this.1 this.2
      simp only [cond_false, z1, u1, v1, Option.bind_some, Option.getD_some, eo, gN, gH, iN]) (by omega)
    simp only [cond_false, l1, l2, Option.bind_some]
    cases cm (sI a b) m.nodes with
    | some z => (refine ⟨?_, ?_⟩ <;> first | rfl | trivial)
    | none =>
     simp only [Option.elim, aG, l3, l4, Option.bind_some]
     cases cm (te a b m) m.edges <;> (refine ⟨?_, ?_⟩ <;> first | rfl | trivial)
end Go.Ev.Pl
end
section
set_option linter.unusedVariables false
namespace Go.Ev.Pl
def kp (s : List Int) (i : Nat) : List Int := match s[i]? with | none => [] | some x => if 0 < i ∧ s[i - 1]? = some x then [] else [x]
def eY (s : List Int) (m : Nat) : List Int := (List.range m).flatMap (kp s)
theorem iJ (s : List Int) (m : Nat) : eY s (m + 1) = eY s m ++ kp s m := by simp [eY, List.range_succ, List.flatMap_append]
theorem tz (s : List Int) (i : Nat) : (kp s i).length ≤ 1 := by
 unfold kp; cases s[i]? with
 | none => simp
 | some x => dsimp only; split <;> simp
theorem tj (s : List Int) (m : Nat) : (eY s m).length ≤ m := by
 have := cr (tz s) m; simpa [eY] using this
theorem k0 {s : List Int} {i0 : Nat} (hN : s.length ≤ 1000000) (hi0 : i0 < s.length) : ∀ (c j fuel : Nat) (q0 : List Int) (kk : Nat), s.length - i0 - j = c → 1 ≤ j → j ≤ s.length - i0 → s.length - i0 - j < fuel → q0.length = s.length →
  (∀ p, i0 + j - 1 ≤ p → q0[p]? = s[p]?) → kk ≤ i0 + j - 1 → q0.take kk = eY s (i0 + j) → kk = (eY s (i0 + j)).length →
  ∃ q, slices_Compact_lint.l2 fuel q0 kk i0 s.length j = some (q, ((eY s s.length).length : Int), ()) ∧ q.length = s.length ∧ q.take (eY s s.length).length = eY s s.length
 | c, j, 0, q0, kk, _, _, _, h, _, _, _, _, _ => by omega
 | c, j, fuel + 1, q0, kk, hc, hj1, hj, hf, hl, hp, hk, ht, hkl => by
  by_cases e : j = s.length - i0
  ·subst e
   have e1 : i0 + (s.length - i0) = s.length := by omega
   rw [e1] at ht hkl
   refine ⟨q0, ?_, hl, by rw [← hkl]; exact ht⟩
   simp only [slices_Compact_lint.l2, Int.toNat_natCast, aD, cond_false, ← hkl]
  ·have hlt : j < s.length - i0 := by omega
   have hx : q0[i0 + j]? = some s[i0 + j] := by rw [hp _ (by omega)]; exact List.getElem?_eq_getElem (by omega)
   have hs1 : s[i0 + j]? = some s[i0 + j] := List.getElem?_eq_getElem (by omega)
   have hy : q0[i0 + (j - 1)]? = some s[i0 + (j - 1)] := by rw [hp _ (by omega)]; exact List.getElem?_eq_getElem (by omega)
   have hs2 : s[i0 + j - 1]? = some s[i0 + (j - 1)] := by rw [show i0 + j - 1 = i0 + (j - 1) by omega]; exact List.getElem?_eq_getElem (by omega)
   have ew : IntKind.i64.wrap ((j : Int) - 1) = ((j - 1 : Nat) : Int) := by rw [jO (by omega) (by omega)]; omega
   have hsu := iJ s (i0 + j)
   simp only [slices_Compact_lint.l2, Int.toNat_natCast, aX hlt, aX (show j - 1 < s.length - i0 by omega), jF, ew, uu (show s.length ≤ q0.length by omega), Bool.and_true, cond_true, fm hx, fm hy, Option.bind_some, wS (show j < 4611686018427387904 by omega), wS (show kk < 4611686018427387904 by omega)]
   by_cases hne : s[i0 + j] = s[i0 + (j - 1)]
   ·have e2 : (s[i0 + j] != s[i0 + (j - 1)]) = false := by simp [hne]
    have e3 : kp s (i0 + j) = [] := by simp only [kp, hs1, hs2]; rw [if_pos ⟨by omega, by rw [hne]⟩]
    rw [e3, List.append_nil] at hsu
    rw [e2, cond_false]
    exact k0 hN hi0 (c - 1) (j + 1) fuel q0 kk (by omega) (by omega) (by omega) (by omega) hl (fun p h => hp p (by omega)) (by omega) (by rw [show i0 + (j + 1) = i0 + j + 1 by omega, hsu]; exact ht) (by rw [show i0 + (j + 1) = i0 + j + 1 by omega, hsu]; exact hkl)
   ·have e2 : (s[i0 + j] != s[i0 + (j - 1)]) = true := by simp [hne]
    have e3 : kp s (i0 + j) = [s[i0 + j]] := by
     simp only [kp, hs1, hs2]
     rw [if_neg]; rintro ⟨_, h⟩; exact hne (Option.some.inj h).symm
    rw [e3] at hsu
    have hkl' : kk < q0.length := by omega
    have hz : q0[kk]? = some q0[kk] := List.getElem?_eq_getElem hkl'
    rw [e2, cond_true]
    simp only [aX hkl', jF, Bool.and_true, cond_true, fm hz, Option.bind_some]
    refine k0 hN hi0 (c - 1) (j + 1) fuel (q0.set kk s[i0 + j]) (kk + 1) (by omega) (by omega) (by omega) (by omega) (by simpa using hl) (fun p h => ?_) (by omega) ?_ (by rw [show i0 + (j + 1) = i0 + j + 1 by omega, hsu]; simp [← hkl])
    ·rw [List.getElem?_set_ne (by omega)]; exact hp p (by omega)
    ·rw [show i0 + (j + 1) = i0 + j + 1 by omega, hsu, ← ht, List.take_add_one]
     rw [List.take_set, List.set_eq_of_length_le (by simp; omega)]
     simp [hkl']
theorem mp {k : Nat} {s : List Int} (hN : s.length ≤ 1000000) (hk : s.length < k) : ∀ (c i fuel : Nat), s.length - i = c → 1 ≤ i → i ≤ s.length → s.length - i < fuel → eY s i = s.take i →
  ∃ o, slices_Compact_lint.l0 k s fuel i = some o ∧ ((o = .inl (s, ()) ∧ eY s s.length = s) ∨ ∃ r, o = .inr (r, (((0 : Nat) : Int), (((eY s s.length).length : Nat) : Int)), ()) ∧ r.take (eY s s.length).length = eY s s.length)
 | c, i, 0, _, _, _, h, _ => by omega
 | c, i, fuel + 1, hc, h1, hi, hf, ht => by
  by_cases e : i = s.length
  ·subst e
   refine ⟨.inl (s, ()), by simp only [slices_Compact_lint.l0, aD, cond_false], .inl ⟨rfl, ?_⟩⟩
   rw [ht]; simp
  ·have hlt : i < s.length := by omega
   have hx : s[i]? = some s[i] := List.getElem?_eq_getElem hlt
   have hy : s[i - 1]? = some s[i - 1] := List.getElem?_eq_getElem (by omega)
   have ew : IntKind.i64.wrap ((i : Int) - 1) = ((i - 1 : Nat) : Int) := by rw [jO (by omega) (by omega)]; omega
   have hsu := iJ s i
   simp only [slices_Compact_lint.l0, Int.toNat_natCast, aX hlt, aX (show i - 1 < s.length by omega), jF, ew, sw hi, sw (Nat.le_refl s.length), Bool.and_true, cond_true, fm hx, fm hy, Option.bind_some, wS (show i < 4611686018427387904 by omega)]
   by_cases he : s[i] = s[i - 1]
   ·have e2 : (s[i] == s[i - 1]) = true := by simp [he]
    have e3 : kp s i = [] := by simp only [kp, hx, hy]; rw [if_pos ⟨by omega, by rw [he]⟩]
    rw [e3, List.append_nil] at hsu
    obtain ⟨q, q1, q2, q3⟩ := k0 hN hlt (s.length - i - 1) 1 k s i (by omega) (by omega) (by omega) (by omega) rfl (fun p _ => rfl) (by omega) (by rw [hsu, ht]) (by rw [hsu, ht]; simp; omega)
    have hm := tj s s.length
    rw [show ((1 : Nat) : Int) = 1 from rfl] at q1
    rw [e2, cond_true, q1]
    generalize (eY s s.length).length = m at *
    have e5 : (mW q m (List.replicate (s.length - m) (0 : Int))).length = s.length := by simp [mW]; omega
    simp only [Option.bind_some, q2, jF, sw hm, sw (Nat.le_refl s.length), uu hm, uu (Nat.le_refl s.length), xR, Bool.and_true, cond_true, Int.toNat_natCast, e5]
    refine ⟨_, rfl, .inr ⟨_, rfl, ?_⟩⟩
    rw [mW, List.append_assoc, List.take_append_of_le_length (by simp; omega), List.take_take, Nat.min_self, q3]
   ·have e2 : (s[i] == s[i - 1]) = false := by simp [he]
    have e3 : kp s i = [s[i]] := by
     simp only [kp, hx, hy]
     rw [if_neg]; rintro ⟨_, h⟩; exact he (Option.some.inj h).symm
    rw [e3] at hsu
    rw [e2, cond_false]
    exact mp hN hk (c - 1) (i + 1) fuel (by omega) (by omega) (by omega) (by omega) (by rw [hsu, ht, List.take_add_one, hx]; rfl)
theorem mu {k : Nat} {s : List Int} (hN : s.length ≤ 1000000) (hk : s.length < k) :
  ∃ r, slices_Compact_lint k s = some (r, (0, ((eY s s.length).length : Int)), ()) ∧ r.take (eY s s.length).length = eY s s.length := by
 rw [slices_Compact_lint]
 by_cases h : s.length < 2
 ·have h' : (s.length : Int) < 2 := by omega
  have : eY s s.length = s := by
   match s, h with
   | [], _ => rfl
   | [x], _ => rfl
  simp only [h', decide_true, cond_true, this]
  exact ⟨_, rfl, by simp⟩
 ·have h' : ¬ ((s.length : Int) < 2) := by omega
  have h1 : eY s 1 = s.take 1 := by
   match s, h with
   | x :: _, _ => rfl
   | [], h => exact absurd (by simp) h
  obtain ⟨o, o1, o2⟩ := mp hN hk (s.length - 1) 1 k rfl (by omega) (by omega) (by omega) h1
  rw [show ((1 : Nat) : Int) = 1 from rfl] at o1
  simp only [h', decide_false, cond_false, o1, Option.bind_some]
  rcases o2 with ⟨rfl, o3⟩ | ⟨r, rfl, o3⟩
  ·simp only [aG, o3]; exact ⟨_, rfl, by simp⟩
  ·exact ⟨r, by simp only [aG, Int.toNat_natCast]; rfl, o3⟩
theorem kE (s : List Int) : ∀ m, m ≤ s.length → (eY s m).Sublist (s.take m)
 | 0, _ => by simp [eY]
 | m + 1, h => by
  have hx : s[m]? = some s[m] := List.getElem?_eq_getElem (by omega)
  rw [iJ, List.take_add_one, hx]
  refine (kE s m (by omega)).append ?_
  simp only [kp, hx]
  split <;> simp
theorem uE {s : List Int} {x : Int} (h : x ∈ s) : x ∈ eY s s.length := by
 obtain ⟨i, hi, rfl⟩ := List.getElem_of_mem h
 suffices H : ∀ n, n ≤ i → s[n]? = some s[i] → s[i] ∈ eY s s.length from H i (Nat.le_refl _) (List.getElem?_eq_getElem hi)
 intro n
 induction n with
 | zero =>
  intro _ hx
  refine List.mem_flatMap.2 ⟨0, by simp; omega, ?_⟩
  simp [kp, hx]
 | succ n ih =>
  intro hn hx
  by_cases e : s[n]? = some s[i]
  ·exact ih (by omega) e
  ·refine List.mem_flatMap.2 ⟨n + 1, by simp; omega, ?_⟩
   simp [kp, hx, e]
theorem mG {s : List Int} (hs : s.Pairwise (· ≤ ·)) : ∀ m, m ≤ s.length → (eY s m).Pairwise (· < ·)
 | 0, _ => by simp [eY]
 | m + 1, h => by
  have hx : s[m]? = some s[m] := List.getElem?_eq_getElem (by omega)
  rw [iJ, List.pairwise_append]
  refine ⟨mG hs m (by omega), ?_, fun a ha b hb => ?_⟩
  ·have := tz s m
   match hk : kp s m, this with
   | [], _ => simp
   | [y], _ => simp
  ·simp only [kp, hx] at hb
   split at hb
   ·simp at hb
   ·rename_i hn
    simp at hb
    subst hb
    have ha' := (kE s m (by omega)).subset ha
    obtain ⟨j, hj, rfl⟩ := List.getElem_of_mem ha'
    have hjm : j < m := by have := hj; simp at this; omega
    simp only [List.getElem_take]
    have hp := List.pairwise_iff_getElem.1 hs
    have h1 := hp (m - 1) m (by omega) (by omega) (by omega)
    have h2 : s[m - 1] ≠ s[m] := fun e => hn ⟨by omega, by rw [List.getElem?_eq_getElem (by omega), e]⟩
    by_cases e : j = m - 1
    ·subst e; omega
    ·have := hp j (m - 1) (by omega) (by omega) (by omega); omega
theorem rf {s : List Int} (hs : s.Pairwise (· ≤ ·)) : (eY s s.length).length = s.length ↔ s.Nodup := by
 have hsub := kE s s.length (Nat.le_refl _)
 rw [List.take_length] at hsub
 constructor
 ·intro h
  have := hsub.eq_of_length h
  have hp := mG hs s.length (Nat.le_refl _)
  rw [this] at hp
  exact hp.imp fun h => Int.ne_of_lt h
 ·intro h
  have : ∀ m, m ≤ s.length → eY s m = s.take m := by
   intro m
   induction m with
   | zero => intro _; simp [eY]
   | succ m ih =>
    intro hm
    have hx : s[m]? = some s[m] := List.getElem?_eq_getElem (by omega)
    rw [iJ, List.take_add_one, hx, ih (by omega)]
    congr 1
    simp only [kp, hx]
    rw [if_neg]
    ·rfl
    ·rintro ⟨h1, h2⟩
     have hy : s[m - 1]? = some s[m - 1] := List.getElem?_eq_getElem (by omega)
     rw [hy] at h2
     have := List.pairwise_iff_getElem.1 h (m - 1) m (by omega) (by omega) (by omega)
     exact this (Option.some.inj h2)
  rw [this _ (Nat.le_refl _)]; simp
def dst (l : List Int) : Bool := decide l.Nodup
theorem nE {k : Nat} {l : List Int} (hl : l.length ≤ 1000) (hk : 20000 < k) : ∃ m : Nat, cJ k l = some ((m : Int), ()) ∧ ((m : Int) == (l.length : Int)) = dst l := by
 have hp := fR l
 have hlen := hp.length_eq
 obtain ⟨r, r1, r2⟩ := mu (k := k) (s := cq l) (by omega) (by omega)
 refine ⟨(eY (cq l) (cq l).length).length, ?_, ?_⟩
 ·simp only [cJ, jf (show l.length ≤ 1000000 by omega), slices_Sort_int, bP (show l.length ≤ 1000000 by omega), cond_true, Option.bind_some, r1, Int.toNat_natCast, show Int.toNat 0 = 0 from rfl, Nat.sub_zero]
 ·have h := rf (ko l)
  rw [hp.nodup_iff] at h
  rw [dst, Bool.eq_iff_iff, decide_eq_true_iff, ← h]
  simp; omega
theorem ij {k : Nat} {l : List Int} (hl : l.length ≤ 1000) (hk : 20000 < k) : scarfjointref06_Distinct k l = some (dst l, ()) := by
 have l1 := cl (F := fun n i => scarfjointref06_Distinct.l0 k n l i) l () (fun i x => cond ((l.take i).any (x == ·)) (some (false, ())) none) k (fun n => by simp only [scarfjointref06_Distinct.l0, aD, cond_false]) (fun n i x hx _ => by
  have hi := aN hx
  have l2 := nc (F := scarfjointref06_Distinct.l2 l i) l i (l, (i : Int), ()) (false, ()) (x == ·) k (by omega) (fun n => by simp only [scarfjointref06_Distinct.l2, aD, cond_false]) (fun n j y hj hy => by
   simp only [scarfjointref06_Distinct.l2, aX hj, cond_true, idx_some hy, idx_some hx, Option.bind_some, wS (show j < 4611686018427387904 by omega)]) (by omega)
  simp only [scarfjointref06_Distinct.l0, aX hi, cond_true, l2, Option.bind_some]
  cases (l.take i).any (x == ·) <;> simp only [cond_true, cond_false, aG, Option.elim, wS (show i < 4611686018427387904 by omega)]) (by omega)
 have key : cm (fun i x => cond ((l.take i).any (x == ·)) (some ((false, ()) : Bool × Unit)) none) l = cond (dst l) none (some (false, ())) := by
  cases hf : cm (fun i x => cond ((l.take i).any (x == ·)) (some ((false, ()) : Bool × Unit)) none) l with
  | none =>
   rw [fU] at hf
   have : l.Nodup := List.pairwise_iff_getElem.2 fun i j hi hj hij e => by
    have := hf j _ (List.getElem?_eq_getElem hj)
    have h2 : (l.take j).any (l[j] == ·) = true := List.any_eq_true.2 ⟨l[i], by rw [List.mem_take_iff_getElem]; exact ⟨i, by omega, rfl⟩, by simp [e]⟩
    rw [h2] at this; cases this
   simp [dst, this]
  | some z =>
   obtain ⟨j, _, _, j3, _⟩ := eh hf
   obtain ⟨x, hx, j5⟩ := Option.bind_eq_some_iff.1 j3
   dsimp only at j5
   cases h2 : (l.take j).any (x == ·) with
   | false => rw [h2] at j5; cases j5
   | true =>
    rw [h2] at j5; cases j5
    have : ¬ l.Nodup := fun hn => by
     obtain ⟨y, hy, hxy⟩ := List.any_eq_true.1 h2
     obtain ⟨i, hi, rfl⟩ := List.mem_take_iff_getElem.1 hy
     obtain ⟨hj, rfl⟩ := List.getElem?_eq_some_iff.1 hx
     exact List.pairwise_iff_getElem.1 hn i j (by omega) hj (by omega) (by simpa using hxy : l[j] = l[i]).symm
    simp [dst, this]
 rw [scarfjointref06_Distinct, l1, key]
 cases dst l <;> rfl
end Go.Ev.Pl
end
section
set_option linter.unusedVariables false
namespace Go.Ev.Pl
def kz (l : List Int) (i : Nat) : List Int := cond (!(l.any ((i : Int) == ·))) [(i : Int)] []
def kq (l : List Int) (n : Nat) : List Int := (List.range n).flatMap (kz l)
theorem nG (l : List Int) (i : Nat) : (kz l i).length ≤ 1 := by unfold kz; cases l.any ((i : Int) == ·) <;> simp
theorem dT (l : List Int) (n : Nat) : (kq l n).length ≤ n := by have := cr (nG l) n; simpa [kq] using this
theorem cx {l : List Int} {n : Nat} {x : Int} (h : x ∈ kq l n) : 0 ≤ x ∧ x < n := by
 obtain ⟨i, hi, hx⟩ := List.mem_flatMap.1 h
 unfold kz at hx
 cases ha : l.any ((i : Int) == ·) <;> simp [ha] at hx
 subst hx; simp at hi; omega
theorem ik {k : Nat} {l : List Int} {n : Nat} (hl : l.length ≤ 1000) (hn : n ≤ 1000) (hk : 20000 < k) : rule_others l n = some (kq l n, ()) ∧ scarfjointref24_rest k n l = some (kq l n, ()) := by
 have bn : ∀ (acc : List Int) (i : Nat), acc = [] ++ (List.range i).flatMap (kz l) → i ≤ 1000 → acc.length + 1 ≤ 1000000 := fun acc i hacc hi => by
  have := cr (nG l) i; rw [List.nil_append] at hacc; subst hacc; omega
 have l1 := gx (F := rule_others.l0 l n) n (kz l) (fun acc => some (acc, ())) [] (Int.toNat (n : Int) + 1) (fun m acc => by simp only [rule_others.l0, aD, cond_false]) (fun m acc i hi hacc => by
  simp only [rule_others.l0, kz, aX hi, cond_true, sm (l := l) (i : Int) (cS hl (by omega)), Option.bind_some, List.length_cons, List.length_nil, Nat.zero_add, bP (bn acc i hacc (by omega)), wS (show i < 4611686018427387904 by omega)]
  cases l.any ((i : Int) == ·) <;> simp) (by omega)
 have l2 := gx (F := scarfjointref24_rest.l0 k n l) n (kz l) (fun acc => some (acc, ())) [] k (fun m acc => by simp only [scarfjointref24_rest.l0, aD, cond_false]) (fun m acc i hi hacc => by
  simp only [scarfjointref24_rest.l0, kz, aX hi, cond_true, (qC (k := k) (l := l) (i : Int) (by omega) (by omega)).2, Option.bind_some, List.length_cons, List.length_nil, Nat.zero_add, bP (bn acc i hacc (by omega)), wS (show i < 4611686018427387904 by omega)]
  cases l.any ((i : Int) == ·) <;> simp) (by omega)
 exact ⟨by rw [rule_others, l1]; rfl, by rw [scarfjointref24_rest, l2]; rfl⟩
def pt : Nat → ad → Int → List Int
 | 0, _, _ => []
 | n + 1, t, a => cond (decide (a < 0)) [] (match aF t.nodes a with | some x => a :: pt n t x.parent | none => [])
def ns (t : ad) (a : Int) : List Int := pt 32 t a
theorem rR (t : ad) : ∀ n a, (pt n t a).length ≤ n
 | 0, a => by simp [pt]
 | n + 1, a => by
  rw [pt]
  cases decide (a < 0) with
  | true => simp
  | false =>
   rw [cond_false]
   cases h : aF t.nodes a with
   | none => simp
   | some x => have := rR t n x.parent; simp; omega
theorem s8 {t : ad} (ht : sM t) : ∀ (m fuel n : Nat) (a : Int) (acc : List Int), -1 ≤ a → a < m → a < t.nodes.length → m < fuel → m < n → acc.length + m ≤ 1000 →
  types_line.l0 t fuel a acc = some (acc ++ pt n t a, ())
 | m, 0, n, a, acc, _, _, _, h, _, _ => by omega
 | m, fuel + 1, 0, a, acc, _, _, _, _, h, _ => by omega
 | m, fuel + 1, n + 1, a, acc, h1, h2, h3, h4, h5, h6 => by
  by_cases h0 : a ≥ 0
  ·obtain ⟨x, x1, x2, x3⟩ := bC h0 h3
   have hn : ¬ a < 0 := by omega
   have hp := ht.par a.toNat x x2
   match m, h2 with
   | 0, h2 => omega
   | m + 1, h2 =>
    simp only [types_line.l0, pt, h0, hn, decide_true, decide_false, cond_true, cond_false, x1, Option.bind_some, List.length_cons, List.length_nil, Nat.zero_add, bP (show acc.length + 1 ≤ 1000000 by omega)]
    rw [s8 ht m fuel n x.parent (acc ++ [a]) (by omega) (by omega) (by omega) (by omega) (by omega) (by simp; omega)]
    simp
  ·have hn : a < 0 := by omega
   simp [types_line.l0, pt, h0, hn]
theorem mr : ∀ (fuel : Nat) (q : List Int) (i : Nat) (j : Int), j < q.length → j - i < fuel → j ≤ 1000 → ∃ r, slices_Reverse_lint.l0 (fuel + 1) q i j = some (r, ()) ∧ r.Perm q
 | fuel, q, i, j, hj, hf, hs => by
  by_cases h : (i : Int) < j
  ·obtain ⟨b, rfl⟩ : ∃ b : Nat, j = b := ⟨j.toNat, by omega⟩
   match fuel, hf with
   | 0, hf => omega
   | fuel + 1, hf =>
    have hb : b < q.length := by omega
    have hi : i < q.length := by omega
    have hy : q[b]? = some q[b] := List.getElem?_eq_getElem hb
    have hx : q[i]? = some q[i] := List.getElem?_eq_getElem hi
    have hz : (q.set i q[b])[b]? = some q[b] := by rw [List.getElem?_set_ne (by omega)]; exact hy
    have ew : IntKind.i64.wrap ((b : Int) - 1) = (b : Int) - 1 := jO (by omega) (by omega)
    have hl : (q.set i q[b]).length = q.length := by simp
    have hd : decide ((i : Int) < (b : Int)) = true := decide_eq_true h
    rw [slices_Reverse_lint.l0]
    simp only [hd, aX hi, aX hb, hl, jF, Bool.and_true, cond_true, Int.toNat_natCast, fm hy, fm hx, fm hz, Option.bind_some, ew, wS (show i < 4611686018427387904 by omega)]
    obtain ⟨r, r1, r2⟩ := mr fuel ((q.set i q[b]).set b q[i]) (i + 1) ((b : Int) - 1) (by simp; omega) (by omega) (by omega)
    exact ⟨r, r1, r2.trans (List.set_set_perm hi hb)⟩
  ·exact ⟨q, by simp [slices_Reverse_lint.l0, h], List.Perm.refl _⟩
theorem rc {k : Nat} {q : List Int} (hq : q.length ≤ 1000) (hk : 20000 < k) : ∃ r, slices_Reverse_lint k q = some (r, ()) ∧ r.Perm q := by
 have ew : IntKind.i64.wrap ((q.length : Int) - 1) = (q.length : Int) - 1 := jO (by omega) (by omega)
 obtain ⟨k, rfl⟩ : ∃ k', k = k' + 1 := ⟨k - 1, by omega⟩
 obtain ⟨r, r1, r2⟩ := mr k q 0 ((q.length : Int) - 1) (by omega) (by omega) (by omega)
 rw [show ((0 : Nat) : Int) = 0 from rfl] at r1
 exact ⟨r, by rw [slices_Reverse_lint, ew, r1]; rfl, r2⟩
def oQ (t : ad) (a b : Int) : Bool := (ns t a).any (b == ·)
theorem vR {k : Nat} {t : ad} (ht : sM t) (hk : 20000 < k) {a : Int} (ha : jJ t a = true) (b : Int) : i7 k t a b = some (oQ t a b, ()) := by
 simp [jJ] at ha
 have hn := ht.n
 have hl := rR t 32 a
 obtain ⟨r, r1, r2⟩ := rc (k := k) (q := ns t a) (by simp only [ns]; omega) hk
 have e := s8 ht 31 k 32 a [] (by omega) (by omega) (by omega) (by omega) (by omega) (by simp)
 rw [List.nil_append] at e
 rw [ns] at r1 r2
 have hr := r2.length_eq
 simp only [i7, types_line, e, Option.bind_some, r1, sm (l := r) b (cS (m := 1000) (by omega) (by omega)), oQ, ns]
 congr 2
 rw [Bool.eq_iff_iff, List.any_eq_true, List.any_eq_true]
 constructor
 ·rintro ⟨x, h1, h2⟩; exact ⟨x, r2.mem_iff.1 h1, h2⟩
 ·rintro ⟨x, h1, h2⟩; exact ⟨x, r2.mem_iff.2 h1, h2⟩
theorem rF {t : ad} (ht : sM t) {b : Int} (hb : 0 ≤ b) : ∀ (m fuel n : Nat) (a : Int), -1 ≤ a → a < m → a < t.nodes.length → m < fuel → m < n → ar fuel t a b = some ((pt n t a).any (b == ·), ())
 | m, 0, n, a, _, _, _, h, _ => by omega
 | m, fuel + 1, 0, a, _, _, _, _, h => by omega
 | m, fuel + 1, n + 1, a, h1, h2, h3, h4, h5 => by
  by_cases h0 : a ≥ 0
  ·obtain ⟨x, x1, x2, x3⟩ := bC h0 h3
   have hn : ¬ a < 0 := by omega
   have hp := ht.par a.toNat x x2
   match m, h2 with
   | 0, h2 => omega
   | m + 1, h2 =>
    simp only [ar, pt, h0, hn, decide_true, decide_false, cond_true, cond_false, x1, Option.bind_some]
    rw [rF ht hb m fuel n x.parent (by omega) (by omega) (by omega) (by omega) (by omega)]
    simp only [Option.bind_some, eo, gN, List.any_cons]
    congr 2
    congr 1
    rw [Bool.eq_iff_iff]; simp; exact eq_comm
  ·have hn : a < 0 := by omega
   have hab : (a == b) = false := by simp; omega
   simp [ar, pt, h0, hn, hab]
theorem mQ {k : Nat} {t : ad} (ht : sM t) (hk : 20000 < k) {a b : Int} (ha : jJ t a = true) (hb : 0 ≤ b) : ar k t a b = some (oQ t a b, ()) := by
 simp [jJ] at ha
 have hn := ht.n
 exact rF ht hb 31 k 32 a (by omega) (by omega) (by omega) (by omega) (by omega)
def vk (t : ad) (e a b : Int) : Bool :=
 (jJ t a && jJ t b && (decide (e ≥ 0) && decide (e < (t.edges.length : Int)))) && match aF t.edges e with | some x => oQ t a x.frm && oQ t b x.to | none => false
theorem tU {k : Nat} {t : ad} (ht : sM t) (h0 : j6 t = 0) (hk : 20000 < k) (e a b : Int) : fV k t e a b = some (vk t e a b, ()) ∧ ce k t e a b = some (vk t e a b, ()) := by
 have hn := ht.e
 have e7 : IntKind.i64.wrap ((t.edges.length : Int) - 1) = (t.edges.length : Int) - 1 := jO (by omega) (by omega)
 have e8 : decide (e ≤ (t.edges.length : Int) - 1) = decide (e < (t.edges.length : Int)) := decide_eq_decide.2 (by omega)
 have e9 : (decide (e < 0) || decide (e ≥ (t.edges.length : Int))) = !(decide (e ≥ 0) && decide (e < (t.edges.length : Int))) := by rw [Bool.eq_iff_iff]; simp <;> omega
 simp only [fV, ce, ag, pV ht.b (show 2000 < k by omega) [a, b] (by simp), kS ht.b (show 2000 < k by omega) a b, h0, bne_self_eq_false, cond_false, Option.bind_some, eo, gN, jy, e7, e8, e9, List.any_cons, List.any_nil, Bool.or_false, vk]
 cases ha : jJ t a with
 | false => (refine ⟨?_, ?_⟩ <;> first | rfl | trivial)
 | true =>
  cases hb : jJ t b with
  | false => (refine ⟨?_, ?_⟩ <;> first | rfl | trivial)
  | true =>
   cases he : (decide (e ≥ 0) && decide (e < (t.edges.length : Int))) with
   | false => (refine ⟨?_, ?_⟩ <;> first | rfl | trivial)
   | true =>
    have : 0 ≤ e ∧ e < t.edges.length := by simp at he; omega
    obtain ⟨x, x1, x2, x3⟩ := bC this.1 this.2
    have hx := ht.edge _ x x2
    simp only [x1, Option.bind_some, vR ht hk ha, vR ht hk hb, mQ ht hk ha hx.1, mQ ht hk hb hx.2.2.1, eo, jy, Bool.not_true, Bool.or_self, bne_self_eq_false, cond_false, Bool.and_self, Bool.true_and, and_self]
def qJ (t : ad) (g : ah) (i : Int) : Bool := match aF g.nodes i with | some x => (match aF t.nodes x with | some n => n.abstract | none => false) | none => false
def qY (t : ad) (g : ah) (i : Int) : Bool := match aF g.edges i with | some x => vk t x.typ ((aF g.nodes x.frm).getD 0) ((aF g.nodes x.to).getD 0) | none => false
def tB (t : ad) (g : ah) (nodes edges : List Int) : Bool := !nodes.any (qJ t g) && !edges.any fun i => !qY t g i
theorem wu {k : Nat} {t : ad} {g : ah} (h : jo t g) {nodes edges : List Int} (hn : ∀ x ∈ nodes, 0 ≤ x ∧ x < g.nodes.length) (he : ∀ x ∈ edges, 0 ≤ x ∧ x < g.edges.length) (ln : nodes.length ≤ 1000) (le : edges.length ≤ 1000) (hk : 20000 < k) :
  eU k t g nodes edges = some (tB t g nodes edges, ()) ∧ scarfjointref24_proper k t g nodes edges = some (tB t g nodes edges, ()) := by
 have N : ∀ x ∈ nodes, ∃ a b, aF g.nodes x = some a ∧ aF t.nodes a = some b := fun x hx => by
  obtain ⟨a, a1, _, a3⟩ := bC (hn x hx).1 (hn x hx).2
  have := kV h a3
  simp [jJ] at this
  obtain ⟨b, b1, _, _⟩ := bC this.1 this.2
  exact ⟨a, b, a1, b1⟩
 have X : ∀ x ∈ edges, ∃ e a b, aF g.edges x = some e ∧ aF g.nodes e.frm = some a ∧ aF g.nodes e.to = some b := fun x hx => by
  obtain ⟨e, e1, _, e3⟩ := bC (he x hx).1 (he x hx).2
  have := h.gr.edge e e3
  obtain ⟨a, a1, _, _⟩ := bC (l := g.nodes) (i := e.frm) (by omega) (by omega)
  obtain ⟨b, b1, _, _⟩ := bC (l := g.nodes) (i := e.to) (by omega) (by omega)
  exact ⟨e, a, b, e1, a1, b1⟩
 constructor
 ·have c1 := bG (l := nodes) (q := fun z1 => dO z1.1 t g) (p := qJ t g) (fun x hx => by
   obtain ⟨a, b, a1, b1⟩ := N x hx
   simp only [dO, qJ, a1, b1, Option.bind_some]) (cS ln (by omega))
  have c2 := bG (l := edges) (q := fun z3 => dU k z3.1 g t) (p := fun i => !qY t g i) (fun x hx => by
   obtain ⟨e, a, b, e1, a1, b1⟩ := X x hx
   simp only [dU, qY, e1, a1, b1, Option.bind_some, (tU h.ok h.e hk _ _ _).1, Option.getD_some]) (cS le (by omega))
  simp only [eU, m9, c1, c2, Option.bind_some, eo, jy, tB]
 ·have l1 := cl (F := scarfjointref24_proper.l0 nodes edges t g) nodes (edges, t, g, ()) (fun _ x => cond (qJ t g x) (some (false, ())) none) k (fun n => by simp only [scarfjointref24_proper.l0, aD, cond_false]) (fun n i x hx _ => by
   obtain ⟨a, b, a1, b1⟩ := N x (dF hx)
   simp only [scarfjointref24_proper.l0, qJ, aX (aN hx), cond_true, idx_some hx, a1, b1, Option.bind_some, de, wS (show i < 4611686018427387904 by have := aN hx; omega)]) (by omega)
  have l2 := cl (F := scarfjointref24_proper.l2 k edges t g) edges () (fun _ x => cond (!qY t g x) (some (false, ())) none) k (fun n => by simp only [scarfjointref24_proper.l2, aD, cond_false]) (fun n i x hx _ => by
   obtain ⟨e, a, b, e1, a1, b1⟩ := X x (dF hx)
   simp only [scarfjointref24_proper.l2, qY, aX (aN hx), cond_true, idx_some hx, e1, a1, b1, Option.bind_some, (tU h.ok h.e hk _ _ _).2, Option.getD_some, de, wS (show i < 4611686018427387904 by have := aN hx; omega)]) (by omega)
  rw [bZ (qJ t g)] at l1
  rw [bZ (fun x => !qY t g x)] at l2
  simp only [scarfjointref24_proper, l1, Option.bind_some, fN, tB]
  cases nodes.any (qJ t g) with
  | true => rfl
  | false =>
   simp only [cond_false, aG, l2, Option.bind_some, fN]
   cases edges.any (fun x => !qY t g x) <;> rfl
def pF (r : aL) : Int :=
 cond (jP r.left.graph r.keep != 0) (jP r.left.graph r.keep) (cond (kn (sP r.left.graph r.keep) r.right.graph r.into != 0) (kn (sP r.left.graph r.keep) r.right.graph r.into)
  (cond (!(dst r.into.nodes && dst r.into.edges)) 11 0))
theorem vV (g : ah) : (⟨g.nodes, g.edges⟩ : ah) = g := rfl
structure BM (m : aK) : Prop where
 n : m.nodes.length ≤ 140
 e : m.edges.length ≤ 140
theorem tq {k : Nat} {a b : ah} {m : aK} (ha : BG a) (hb : BG b) (hm : BM m) (h0 : kn a b m = 0) (hk : 20000 < k) : bJ k a b m = some (dst m.nodes && dst m.edges, ()) := by
 have h1 := hm.n
 have h2 := hm.e
 obtain ⟨p, p1, p2⟩ := nE (k := k) (l := m.nodes) (by omega) hk
 obtain ⟨q, q1, q2⟩ := nE (k := k) (l := m.edges) (by omega) hk
 simp only [bJ, (nS (m := m) ha hb hk).1, h0, beq_self_eq_true, cond_true, Option.bind_some, p1, q1, p2, q2, eo, jy, Bool.true_and]
theorem uX {k : Nat} {r : aL} (hl : BG r.left.graph) (hr : BG r.right.graph) (hk' : lG r.keep) (hm : BM r.into) (hk : 20000 < k) : gP k r = some (pF r, ()) := by
 simp only [gP, (vZ hl hk' hk).1, Option.bind_some, xz, pF]
 cases h1 : (jP r.left.graph r.keep != 0) with
 | true => simp only [cond_true, h1]
 | false =>
  simp only [cond_false, bne_self_eq_false, vV, (nS (m := r.into) (tH hk') hr hk).1, Option.bind_some]
  cases h2 : (kn (sP r.left.graph r.keep) r.right.graph r.into != 0) with
  | true => rfl
  | false => simp only [cond_false, tq (tH hk') hr hm (show kn (sP r.left.graph r.keep) r.right.graph r.into = 0 by simpa using h2) hk, Option.bind_some, eo]
theorem vj {k : Nat} {r : aL} (hl : BG r.left.graph) (hr : BG r.right.graph) (hk' : lG r.keep) (hk : 20000 < k) : cj k r = some (cond (jP r.left.graph r.keep != 0) (jP r.left.graph r.keep) (kn (sP r.left.graph r.keep) r.right.graph r.into), ()) := by
 simp only [cj, (ro hl hk' hk).2, (vZ hl hk' hk).2, Option.bind_some, xz]
 cases h1 : (jP r.left.graph r.keep != 0) with
 | true => rfl
 | false => simp only [cond_false, vV, (nS (m := r.into) (tH hk') hr hk).2, Option.bind_some]
end Go.Ev.Pl
end
section
set_option linter.unusedVariables false
namespace Go.Ev.Pl
theorem qg {α S R : Type} {F : Nat → S → Int → Option R} (l : List α) (out : S → Option R) (st : α → S → S) (fuel : Nat) (s : S)
  (h0 : ∀ n s, F (n + 1) s (l.length : Int) = out s)
  (h1 : ∀ n s (i : Nat) x, l[i]? = some x → F (n + 1) s (i : Int) = F n (st x s) ((i + 1 : Nat) : Int))
  (hf : l.length < fuel) : F fuel s 0 = out (l.foldl (fun s x => st x s) s) := by
 suffices H : ∀ c i fuel s, l.length - i = c → i ≤ l.length → l.length - i < fuel → F fuel s (i : Int) = out ((l.drop i).foldl (fun s x => st x s) s) by
  have := H _ 0 fuel s rfl (by omega) (by omega)
  simpa using this
 intro c
 induction c with
 | zero =>
  intro i fuel s hc hi hf
  obtain rfl : i = l.length := by omega
  cases fuel with
  | zero => omega
  | succ n => rw [h0 n s]; simp
 | succ c ih =>
  intro i fuel s hc hi hf
  cases fuel with
  | zero => omega
  | succ n =>
   have hlt : i < l.length := by omega
   rw [h1 n s i _ (List.getElem?_eq_getElem hlt), List.drop_eq_getElem_cons hlt, List.foldl_cons]
   exact ih (i + 1) n _ (by omega) (by omega) (by omega)
def BC : Nat → ae → Prop
 | 0, _ => False
 | n + 1, c => BP c.pattern ∧ BM c.map ∧ c.kids.length ≤ 1000 ∧ ∀ d ∈ c.kids, BC n d
theorem qG {a b : Nat} (h : a + b ≤ 1000000) : IntKind.i64.wrap ((a : Int) + (b : Int)) = ((a + b : Nat) : Int) := by rw [jO (by omega) (by omega)]; omega
def m3 (c : ae) : Bool :=
 decide (c.map.nodes.length + c.map.edges.length + c.pattern.graph.nodes.length + c.pattern.graph.edges.length + c.pattern.slots.length + c.pattern.tests.length = 0) && (c.pattern.vars == 0)
theorem sr {c : ae} {n : Nat} (h : BC n c) : co c = some (m3 c, ()) ∧ aJ c = some (m3 c, ()) := by
 match n, h with
 | n + 1, ⟨⟨⟨h1, h2⟩, h3, h4⟩, ⟨h5, h6⟩, _⟩ =>
  simp only [co, aJ, m3]
  rw [qG, qG, qG, qG, qG, qG] <;> try omega
  simp only [eo, jy, Option.bind_some]
  constructor
  ·congr 2
   congr 1
   rw [Bool.eq_iff_iff]; simp only [decide_eq_true_eq, beq_iff_eq, Bool.and_eq_true]; omega
  ·rw [← Bool.and_assoc]
   congr 2
   congr 1
   rw [Bool.eq_iff_iff]; simp only [decide_eq_true_eq, beq_iff_eq, Bool.and_eq_true]; omega
def wZ (c : ae) : Bool :=
 cond (c.kind == 1) (((c.kids.length : Int) == 0) && m3 c) (cond (c.kind == 2) (((c.kids.length : Int) == 1) && m3 c) (cond (c.kind == 3) (decide ((c.kids.length : Int) ≥ 1) && m3 c)
  (cond (c.kind == 4) (decide ((c.kids.length : Int) ≥ 1) && m3 c) (cond (c.kind == 5) ((c.kids.length : Int) == 1) false))))
theorem uS {c : ae} {n : Nat} (h : BC n c) : bU c = some (wZ c, ()) := by
 have e : decide ((c.kids.length : Int) > 0) = decide ((c.kids.length : Int) ≥ 1) := decide_eq_decide.2 (by omega)
 simp only [bU, (sr h).2, Option.bind_some, eo, jy, wZ, e]
 cases (c.kind == 1) <;> cases (c.kind == 2) <;> cases (c.kind == 3) <;> cases (c.kind == 4) <;> cases (c.kind == 5) <;> rfl
def uJ : Nat → ae → Bool
 | 0, _ => false
 | n + 1, c => wZ c && !(c.kids.any fun d => !uJ n d)
theorem uw : ∀ (n : Nat) (c : ae), BC n c → ∀ k, 20000 + n < k → ap k c = some (uJ n c, ()) ∧ scarfjointref22_allRight k c = some (uJ n c, ())
 | 0, c, h, _, _ => h.elim
 | n + 1, c, h, 0, hk => by omega
 | n + 1, c, h, k + 1, hk => by
  have hkids := h.2.2.2
  have hlen := h.2.2.1
  have ih : ∀ d ∈ c.kids, _ := fun d hd => uw n d (hkids d hd) k (by omega)
  have c1 := bG (l := c.kids) (q := fun z => aC (ap k) z.1) (p := fun d => !uJ n d) (fun d hd => by simp only [aC, (ih d hd).1, Option.bind_some]) (cS hlen (by omega))
  have l1 := cl (F := scarfjointref22_allRight.l0 (scarfjointref22_allRight k) c) c.kids () (fun _ d => cond (!uJ n d) (some (false, ())) none) k (fun m => by simp only [scarfjointref22_allRight.l0, aD, cond_false]) (fun m i x hx _ => by
   simp only [scarfjointref22_allRight.l0, aX (aN hx), cond_true, idx_some hx, (ih x (dF hx)).2, Option.bind_some, de, wS (show i < 4611686018427387904 by have := aN hx; omega)]) (by omega)
  rw [bZ (fun d => !uJ n d)] at l1
  constructor
  ·simp only [ap, (sr h).1, vi, c1, Option.bind_some, eo, jy, uJ, wZ]
   cases (c.kind == 1) <;> cases (c.kind == 2) <;> cases (c.kind == 3) <;> cases (c.kind == 4) <;> cases (c.kind == 5) <;> rfl
  ·simp only [scarfjointref22_allRight, uS h, l1, Option.bind_some, uJ, fN]
   cases wZ c <;> cases (c.kids.any fun d => !uJ n d) <;> rfl
def gw : Nat → ae → Int × Int
 | 0, _ => (0, 0)
 | n + 1, c => cond (c.kind == 5) ((c.kids.foldl (fun s d => (IntKind.i64.wrap (s.1 + (gw n d).1), oD s.2 (gw n d).2)) ((1, 0) : Int × Int)).1, IntKind.i64.wrap ((c.kids.foldl (fun s d => (IntKind.i64.wrap (s.1 + (gw n d).1), oD s.2 (gw n d).2)) ((1, 0) : Int × Int)).2 + 1))
   (c.kids.foldl (fun s d => (IntKind.i64.wrap (s.1 + (gw n d).1), oD s.2 (gw n d).2)) ((1, 0) : Int × Int))
theorem od : ∀ (n : Nat) (c : ae), BC n c → ∀ k, 20000 + n < k → condition_measure k c = some ((gw n c).1, (gw n c).2, ()) ∧ scarfjointref22_Measure k c = some ((gw n c).1, (gw n c).2, ())
 | 0, c, h, _, _ => h.elim
 | n + 1, c, h, 0, hk => by omega
 | n + 1, c, h, k + 1, hk => by
  have hkids := h.2.2.2
  have hlen := h.2.2.1
  have ih : ∀ d ∈ c.kids, _ := fun d hd => od n d (hkids d hd) k (by omega)
  have l1 := qg (F := fun m (s : Int × Int) i => condition_measure.l0 (condition_measure k) c c.kids c.kids.length m s.1 s.2 i) c.kids (fun s => some (c, s.1, s.2, ())) (fun d s => (IntKind.i64.wrap (s.1 + (gw n d).1), oD s.2 (gw n d).2)) (Int.toNat (c.kids.length : Int) + 1) (1, 0) (fun m s => by simp only [condition_measure.l0, aD, cond_false]) (fun m s i x hx => by
   simp only [condition_measure.l0, aX (aN hx), cond_true, idx_some hx, (ih x (dF hx)).1, Option.bind_some, wS (show i < 4611686018427387904 by have := aN hx; omega)]) (by omega)
  have l2 := qg (F := fun m (s : Int × Int) i => scarfjointref22_Measure.l0 (scarfjointref22_Measure k) c m s.1 s.2 i) c.kids (fun s => some (c, s.1, s.2, ())) (fun d s => (IntKind.i64.wrap (s.1 + (gw n d).1), oD s.2 (gw n d).2)) k (1, 0) (fun m s => by simp only [scarfjointref22_Measure.l0, aD, cond_false]) (fun m s i x hx => by
   simp only [scarfjointref22_Measure.l0, aX (aN hx), cond_true, idx_some hx, (ih x (dF hx)).2, Option.bind_some, wS (show i < 4611686018427387904 by have := aN hx; omega)]) (by omega)
  dsimp only at l1 l2
  simp only [condition_measure, scarfjointref22_Measure, l1, l2, Option.bind_some, gw]
  cases (c.kind == 5) <;> (refine ⟨?_, ?_⟩ <;> first | rfl | trivial)
def wV (n : Nat) (c : ae) : Int := cond (!uJ n c) 1 (cond (decide ((gw n c).1 > 12) || decide ((gw n c).2 > 3)) 3 0)
theorem vW {n : Nat} {c : ae} (h : BC n c) {k : Nat} (hk : 20000 + n < k) : dn k c = some (wV n c, ()) ∧ bR k c = some (wV n c, ()) := by
 simp only [dn, bR, (uw n c h k hk).1, (uw n c h k hk).2, (od n c h k hk).1, (od n c h k hk).2, Option.bind_some, eo, gN, wV, and_self]
def PV (p : aj) : Prop := 0 ≤ p.vars ∧ p.vars ≤ 12
theorem jA {t : ad} {p : aj} (h : iv t p = 0 ∨ iv t p = 9 ∧ j6 t = 0) : PV p := by
 have key : j6 t = 0 → iv t p = 0 ∨ iv t p = 9 → PV p := fun h0 h => by
  simp only [iv, h0, bne_self_eq_false, cond_false] at h
  cases h6 : (decide (p.vars < 0) || decide (p.vars > 12)) with
  | false => simp at h6; exact ⟨by omega, by omega⟩
  | true =>
   rw [h6] at h
   have hg : ks p.graph = 0 ∨ ks p.graph = 3 ∨ ks p.graph = 6 := by
    simp only [ks]
    cases (decide ((p.graph.nodes.length : Int) > 40) || decide ((p.graph.edges.length : Int) > 80)) <;> cases (p.graph.nodes.any fun n => !fx n) <;> cases (p.graph.edges.any fun e => !gF p.graph.nodes.length e) <;> simp
   exfalso
   revert h
   rcases hg with e | e | e <;> rw [e] <;> cases rh t p.graph <;> simp
 rcases h with h | ⟨h, h0⟩
 ·exact key (th h).1 (.inl h)
 ·exact key h0 (.inr h)
def pG (t : ad) (q : aj) (v : Nat) : Int := cond (iv t q != 9) (iv t q) (cond (!gU q v) 9 0)
theorem ue (q : aj) (e : Int) (v : Nat) : ∀ c, cP (fun i => cond (!nJ q i) (some (e, ())) none) v c = cond (!(List.range' v c).all (nJ q)) (some (e, ())) none := by
 intro c
 induction c generalizing v with
 | zero => rfl
 | succ c ih =>
  rw [cP, List.range'_succ, List.all_cons]
  cases nJ q v with
  | false => rfl
  | true => simp only [Bool.not_true, cond_false, Bool.true_and]; exact ih (v + 1)
theorem wg {k : Nat} {t : ad} (ht : BT t) (h0 : j6 t = 0) {q : aj} (hq : BP q) (v : Nat) (hk : 20000 < k) : condition_pattern k t q v = some (pG t q v, ()) ∧
  (decide (q.vars < (v : Int)) = false → scarfjointref22_inner k t v q = some (pG t q v, ())) := by
 have hs := hq.s
 simp only [condition_pattern, scarfjointref22_inner, qN ht hq (show 2000 < k by omega), nQ ht hq (show 2000 < k by omega), Option.bind_some, pG]
 cases h9 : (iv t q != 9) with
 | true => exact ⟨rfl, fun h => by rw [h]; rfl⟩
 | false =>
  have h9' : iv t q = 9 := by simpa using h9
  obtain ⟨v1, v2⟩ := jA (.inr ⟨h9', h0⟩)
  obtain ⟨V, hV⟩ : ∃ V : Nat, q.vars = V := ⟨q.vars.toNat, by omega⟩
  have e9 : ∀ j, gU q j = (List.range' j (V - j)).all (nJ q) := fun j => by simp [gU, hV]
  have l1 := lw (F := condition_pattern.l0 q 9) V () (fun i => cond (!nJ q i) (some (9, ())) none) v (fun n i hi => by
   have : ¬ ((i : Int) < q.vars) := by omega
   simp [condition_pattern.l0, this]) (fun n i _ hi _ => by
   have : (i : Int) < q.vars := by omega
   have c1 := bG (l := q.slots) (q := fun z4 => cQ z4.1 i) (p := fun s => s.term.var == (i : Int)) (fun _ _ => rfl) (cS hs (by omega))
   simp only [condition_pattern.l0, this, decide_true, cond_true, rK, c1, Option.bind_some, wS (show i < 4611686018427387904 by omega), nJ]
   cases (q.slots.any fun s => s.term.var == (i : Int)) <;> rfl) k (by omega)
  have oc : ∀ i : Nat, scarfjointref22_occurs k q i = some (nJ q i, ()) := fun i => by
   have := cl (F := scarfjointref22_occurs.l0 i q) q.slots () (fun _ x => cond (x.term.var == (i : Int)) (some (true, ())) none) k (fun n => by simp only [scarfjointref22_occurs.l0, aD, cond_false]) (fun n j x hx _ => by
    simp only [scarfjointref22_occurs.l0, aX (aN hx), cond_true, idx_some hx, Option.bind_some, de, wS (show j < 4611686018427387904 by have := aN hx; omega)]) (by omega)
   rw [scarfjointref22_occurs, this, bZ (fun x : dD => x.term.var == (i : Int))]
   simp only [Option.bind_some, nJ]
   cases (q.slots.any fun x => x.term.var == (i : Int)) <;> rfl
  have l2 := lw (F := scarfjointref22_inner.l0 k q 9) V () (fun i => cond (!nJ q i) (some (9, ())) none) v (fun n i hi => by
   have : ¬ ((i : Int) < q.vars) := by omega
   simp [scarfjointref22_inner.l0, this]) (fun n i _ hi _ => by
   have : (i : Int) < q.vars := by omega
   simp only [scarfjointref22_inner.l0, this, decide_true, cond_true, oc, Option.bind_some, wS (show i < 4611686018427387904 by omega)]
   cases nJ q i <;> rfl) k (by omega)
  rw [ue, ← e9] at l1 l2
  simp only [h9', cond_false, l1, l2, Option.bind_some, fN]
  cases gU q v with
  | true => exact ⟨rfl, fun h => by rw [h]; rfl⟩
  | false => exact ⟨rfl, fun h => by rw [h]; rfl⟩
def lN : Nat → ad → aj → ae → Int
 | 0, _, _, _ => 0
 | n + 1, t, p, c =>
  cond (c.kind == 5)
   (cond (decide (c.pattern.vars < p.vars)) 20 (cond (pG t c.pattern p.vars.toNat != 0) (pG t c.pattern p.vars.toNat) (cond (kn p.graph c.pattern.graph c.map != 0) (kn p.graph c.pattern.graph c.map) (cond (!(dst c.map.nodes && dst c.map.edges)) 1
    (kP (cm (fun _ d => cond (lN n t c.pattern d != 0) (some (lN n t c.pattern d, ())) none) c.kids))))))
   (kP (cm (fun _ d => cond (lN n t p d != 0) (some (lN n t p d, ())) none) c.kids))
theorem oh {t : ad} (ht : BT t) (h0 : j6 t = 0) : ∀ (n : Nat) (c : ae) (p : aj), BC n c → BP p → PV p → ∀ k, 20000 + n < k → condition_inside k t p c = some (lN n t p c, ()) ∧ scarfjointref22_over k t p c = some (lN n t p c, ())
 | 0, c, p, h, _, _, _, _ => h.elim
 | n + 1, c, p, h, _, _, 0, hk => by omega
 | n + 1, c, p, h, hp, hv, k + 1, hk => by
  have hkids := h.2.2.2
  have hlen := h.2.2.1
  have hq := h.1
  have hm := h.2.1
  have l1 : ∀ q, BP q → PV q → _ := fun q bq vq => cl (F := condition_inside.l0 (condition_inside k) t q c.kids c.kids.length) c.kids () (fun _ d => cond (lN n t q d != 0) (some (lN n t q d, ())) none) (c.kids.length + 1) (fun m => by simp only [condition_inside.l0, aD, cond_false]) (fun m i x hx _ => by
   simp only [condition_inside.l0, aX (aN hx), cond_true, idx_some hx, (oh ht h0 n x q (hkids x (dF hx)) bq vq k (by omega)).1, Option.bind_some, de, wS (show i < 4611686018427387904 by have := aN hx; omega)]) (by omega)
  have l2 : ∀ q, BP q → PV q → _ := fun q bq vq => cl (F := scarfjointref22_over.l0 (scarfjointref22_over k) t c q) c.kids () (fun _ d => cond (lN n t q d != 0) (some (lN n t q d, ())) none) k (fun m => by simp only [scarfjointref22_over.l0, aD, cond_false]) (fun m i x hx _ => by
   simp only [scarfjointref22_over.l0, aX (aN hx), cond_true, idx_some hx, (oh ht h0 n x q (hkids x (dF hx)) bq vq k (by omega)).2, Option.bind_some, de, wS (show i < 4611686018427387904 by have := aN hx; omega)]) (by omega)
  obtain ⟨V, hV⟩ : ∃ V : Nat, p.vars = V := ⟨p.vars.toNat, by have := hv.1; omega⟩
  obtain ⟨p1, p2⟩ := wg (k := k) ht h0 hq V (by omega)
  obtain ⟨m1, m2⟩ := nS (k := k) (m := c.map) hp.g hq.g (by omega)
  have hn1 := hm.n
  have hn2 := hm.e
  simp only [condition_inside, scarfjointref22_over, lN, hV, Int.toNat_natCast]
  cases hk5 : (c.kind == 5) with
  | false =>
   simp only [cond_false, l1 p hp hv, l2 p hp hv]
   exact ⟨ke _, ke _⟩
  | true =>
   simp only [cond_true, p1, m1, m2]
   cases hlt : decide (c.pattern.vars < (V : Int)) with
   | true => simp only [scarfjointref22_inner, hlt, cond_true]; (refine ⟨?_, ?_⟩ <;> first | rfl | trivial)
   | false =>
    simp only [cond_false, p2 hlt, Option.bind_some]
    cases h1 : (pG t c.pattern V != 0) with
    | true => (refine ⟨?_, ?_⟩ <;> first | rfl | trivial)
    | false =>
     cases h2 : (kn p.graph c.pattern.graph c.map != 0) with
     | true => (refine ⟨?_, ?_⟩ <;> first | rfl | trivial)
     | false =>
      have hm0 : kn p.graph c.pattern.graph c.map = 0 := by simpa using h2
      have hpv : PV c.pattern := by
       have : pG t c.pattern V = 0 := by simpa using h1
       simp only [pG] at this
       cases h9 : (iv t c.pattern != 9) with
       | true => rw [h9] at this; exact jA (.inl this)
       | false => exact jA (.inr ⟨by simpa using h9, h0⟩)
      simp only [cond_false, tq (k := k) hp.g hq.g hm hm0 (by omega), bM, m2, hm0, beq_self_eq_true, cond_true, ij (k := k) (l := c.map.nodes) (by omega) (by omega), ij (k := k) (l := c.map.edges) (by omega) (by omega), Option.bind_some, eo, jy, Bool.true_and, l1 _ hq hpv, l2 _ hq hpv]
      cases (dst c.map.nodes && dst c.map.edges) with
      | false => (refine ⟨?_, ?_⟩ <;> first | rfl | trivial)
      | true => exact ⟨ke _, ke _⟩
def sv (n : Nat) (t : ad) (p : aj) (c : ae) : Int := cond (iv t p != 0) (iv t p) (cond (wV n c != 0) (wV n c) (lN n t p c))
theorem vK {t : ad} (ht : BT t) (h0 : j6 t = 0) {n : Nat} {c : ae} {p : aj} (h : BC n c) (hp : BP p) {k : Nat} (hk : 20000 + n < k) : dq k t p c = some (sv n t p c, ()) ∧ bS k t p c = some (sv n t p c, ()) := by
 simp only [dq, bS, sv, qN ht hp (show 2000 < k by omega), nQ ht hp (show 2000 < k by omega), (vW h hk).1, (vW h hk).2, Option.bind_some]
 cases h1 : (iv t p != 0) with
 | true => (refine ⟨?_, ?_⟩ <;> first | rfl | trivial)
 | false =>
  have hv := jA (t := t) (p := p) (.inl (by simpa using h1))
  simp only [cond_false, (oh ht h0 n c p h hp hv k hk).1, (oh ht h0 n c p h hp hv k hk).2, Option.bind_some, eo, and_self]
end Go.Ev.Pl
end
section
set_option linter.unusedVariables false
namespace Go.Ev.Pl
structure s7 (n : Nat) (r : aL) : Prop where
 name : r.name.size ≤ 60
 left : BP r.left
 right : BP r.right
 keep : lG r.keep
 into : BM r.into
 cnd : BC n r.condition
def gD (r : aL) : List Int := kq r.keep.nodes r.left.graph.nodes.length
def lP (r : aL) : List Int := kq r.keep.edges r.left.graph.edges.length
def kZ (r : aL) : List Int := kq r.into.nodes r.right.graph.nodes.length
def ld (r : aL) : List Int := kq r.into.edges r.right.graph.edges.length
def fF (n : Nat) (t : ad) (r : aL) : Int :=
 cond (j6 t != 0) (j6 t) (cond (!iF r.name) 2 (cond (iv t r.left != 0) (iv t r.left) (cond (jp t r != 0) (jp t r) (cond (pF r != 0) (pF r)
  (cond (!tB t r.right.graph (kZ r) (ld r)) 13 (sv n t r.left r.condition))))))
theorem uN {t : ad} {p : aj} (ht : BT t) (h : iv t p = 0) : jo t p.graph := by
 obtain ⟨h1, h⟩ := th h
 obtain ⟨h2, h⟩ := th h
 obtain ⟨h3, h⟩ := xf h (by decide)
 exact ⟨l8 ht h1, h1, jq h2, by simpa using h3⟩
theorem nN {t : ad} {r : aL} (ht : BT t) (h1 : j6 t = 0) (h : jp t r = 0) : jo t r.right.graph := by
 obtain ⟨h2, h⟩ := th h
 obtain ⟨h3, h⟩ := xf h (by decide)
 exact ⟨l8 ht h1, h1, jq h2, by simpa using h3⟩
theorem ux {k n : Nat} {r : aL} (hr : s7 n r) (hk : 20000 < k) : eP r = some (gD r, lP r, ()) ∧ bI k r = some (gD r, lP r, ()) := by
 have h1 := hr.keep.n
 have h2 := hr.keep.e
 have h3 := hr.left.g.n
 have h4 := hr.left.g.e
 simp only [eP, bI, (ik (k := k) (l := r.keep.nodes) (n := r.left.graph.nodes.length) (by omega) (by omega) hk).1, (ik (k := k) (l := r.keep.nodes) (n := r.left.graph.nodes.length) (by omega) (by omega) hk).2, (ik (k := k) (l := r.keep.edges) (n := r.left.graph.edges.length) (by omega) (by omega) hk).1, (ik (k := k) (l := r.keep.edges) (n := r.left.graph.edges.length) (by omega) (by omega) hk).2, Option.bind_some, gD, lP, and_self]
theorem qK {k n : Nat} {r : aL} (hr : s7 n r) (hk : 20000 < k) : dA r = some (kZ r, ld r, ()) ∧ aS k r = some (kZ r, ld r, ()) := by
 have h1 := hr.into.n
 have h2 := hr.into.e
 have h3 := hr.right.g.n
 have h4 := hr.right.g.e
 simp only [dA, aS, (ik (k := k) (l := r.into.nodes) (n := r.right.graph.nodes.length) (by omega) (by omega) hk).1, (ik (k := k) (l := r.into.nodes) (n := r.right.graph.nodes.length) (by omega) (by omega) hk).2, (ik (k := k) (l := r.into.edges) (n := r.right.graph.edges.length) (by omega) (by omega) hk).1, (ik (k := k) (l := r.into.edges) (n := r.right.graph.edges.length) (by omega) (by omega) hk).2, Option.bind_some, kZ, ld, and_self]
theorem lS {k n : Nat} {t : ad} {r : aL} (ht : BT t) (hr : s7 n r) (hk : 20000 + n < k) : eI k t r = some (fF n t r, ()) ∧ bi k t r = some (fF n t r, ()) := by
 have hnm := hr.name
 have hm1 := hr.into.n
 have hm2 := hr.into.e
 have h3 := hr.right.g.n
 have h4 := hr.right.g.e
 have hc := qK (k := k) hr (by omega)
 simp only [eI, bi, fF, (gp ht (show 2000 < k by omega)).1, (gp ht (show 2000 < k by omega)).2, wY (s := r.name) (cS hnm (by omega)) (show r.name.size < k by omega), xu (s := r.name) (cS hnm (by omega)) (show r.name.size < k by omega) (by omega), qN ht hr.left (show 2000 < k by omega), nQ ht hr.left (show 2000 < k by omega), Option.bind_some]
 cases h0 : (j6 t != 0) with
 | true => (refine ⟨?_, ?_⟩ <;> first | rfl | trivial)
 | false =>
  have t0 : j6 t = 0 := by simpa using h0
  simp only [cond_false, (nw (k := k) (r := r) (l8 ht t0) t0 hr.right (by omega)).1, (nw (k := k) (r := r) (l8 ht t0) t0 hr.right (by omega)).2, Option.bind_some]
  cases iF r.name with
  | false => (refine ⟨?_, ?_⟩ <;> first | rfl | trivial)
  | true =>
   cases ha : (iv t r.left != 0) with
   | true => (refine ⟨?_, ?_⟩ <;> first | rfl | trivial)
   | false =>
    cases hr' : (jp t r != 0) with
    | true => (refine ⟨?_, ?_⟩ <;> first | rfl | trivial)
    | false =>
     have hR := nN ht t0 (show jp t r = 0 by simpa using hr')
     have l1 := dT r.into.nodes r.right.graph.nodes.length
     have l2 := dT r.into.edges r.right.graph.edges.length
     have hmak := wu (k := k) hR (nodes := kZ r) (edges := ld r) (fun x hx => cx hx) (fun x hx => cx hx) (by simp only [kZ]; omega) (by simp only [ld]; omega) (by omega)
     have hcnd := vK (k := k) ht t0 hr.cnd hr.left (by omega)
     simp only [cond_false, Bool.not_true, uX (k := k) (r := r) hr.left.g hr.right.g hr.keep hr.into (by omega), vj (k := k) (r := r) hr.left.g hr.right.g hr.keep (by omega), ij (k := k) (l := r.into.nodes) (by omega) (by omega), ij (k := k) (l := r.into.edges) (by omega) (by omega), hc.1, hc.2, hmak.1, hmak.2, hcnd.1, hcnd.2, Option.bind_some, eo, gN]
     refine ⟨trivial, ?_⟩
     simp only [pF]
     cases h5 : (jP r.left.graph r.keep != 0) with
     | true => simp only [cond_true, h5]
     | false =>
      simp only [cond_false]
      cases h6 : (kn (sP r.left.graph r.keep) r.right.graph r.into != 0) with
      | true => simp only [cond_true, h6]
      | false => cases dst r.into.nodes <;> cases dst r.into.edges <;> rfl
structure xX (t : ad) (r : aL) : Prop where
 left : jo t r.left.graph
 right : jo t r.right.graph
theorem mo {n : Nat} {t : ad} {r : aL} (ht : BT t) (h : fF n t r = 0) : xX t r := by
 obtain ⟨h1, h⟩ := th h
 obtain ⟨h2, h⟩ := xf h (by decide)
 obtain ⟨h3, h⟩ := th h
 obtain ⟨h4, h⟩ := th h
 exact ⟨uN ht h3, nN ht h1 h4⟩
theorem qo {k n : Nat} {t : ad} {r : aL} (ht : BT t) (hr : s7 n r) (hk : 20000 + n < k) : eO k t r = some (cond (fF n t r != 0) ([], [], fF n t r, ()) (gD r, lP r, 0, ())) ∧ aR k t r = some (cond (fF n t r != 0) ([], [], fF n t r, ()) (gD r, lP r, 0, ())) := by
 simp only [eO, aR, (lS ht hr hk).1, (lS ht hr hk).2, (ux (k := k) hr (by omega)).1, (ux (k := k) hr (by omega)).2, Option.bind_some, tK, and_self]
theorem uf {k n : Nat} {t : ad} {r : aL} (ht : BT t) (hr : s7 n r) (hk : 20000 + n < k) : eS k t r = some (cond (fF n t r != 0) ([], [], fF n t r, ()) (kZ r, ld r, 0, ())) ∧ bF k t r = some (cond (fF n t r != 0) ([], [], fF n t r, ()) (kZ r, ld r, 0, ())) := by
 simp only [eS, bF, (lS ht hr hk).1, (lS ht hr hk).2, (qK (k := k) hr (by omega)).1, (qK (k := k) hr (by omega)).2, Option.bind_some, tK, and_self]
def lI (g : ah) (i : Int) : Int := (aF g.nodes i).getD 0
def oZ (t : ad) (g : ah) (i : Int) : Int := match aF g.edges i with | some e => (t.nodes.length : Int) + e.typ | none => 0
def sA (t : ad) (g : ah) (nodes edges : List Int) : List Int := nodes.map (lI g) ++ edges.map (oZ t g)
def plS (t : ad) (g : ah) (nodes edges : List Int) : List Int := eY (cq (sA t g nodes edges)) (cq (sA t g nodes edges)).length
def vP (t : ad) (g : ah) (nodes edges : List Int) (p : Nat) : List Int := cond (nodes.any (fun i => lI g i == (p : Int)) || edges.any (fun i => oZ t g i == (p : Int))) [(p : Int)] []
theorem m7 {f : Nat → List Int} (hf : ∀ i, f i = [(i : Int)] ∨ f i = []) : ∀ n, ((List.range n).flatMap f).Pairwise (· < ·) ∧ ∀ x ∈ (List.range n).flatMap f, x < n
 | 0 => by simp
 | n + 1 => by
  obtain ⟨h1, h2⟩ := m7 hf n
  rw [List.range_succ, List.flatMap_append, show List.flatMap f [n] = f n by simp]
  rcases hf n with e | e
  ·rw [e]
   refine ⟨List.pairwise_append.2 ⟨h1, by simp, fun a ha b hb => ?_⟩, fun x hx => ?_⟩
   ·simp at hb; subst hb; exact h2 a ha
   ·rcases List.mem_append.1 hx with h | h
    ·have := h2 x h; omega
    ·simp at h; omega
  ·rw [e, List.append_nil]
   exact ⟨h1, fun x hx => by have := h2 x hx; omega⟩
theorem vc {l m : List Int} (hl : l.Pairwise (· < ·)) (hm : m.Pairwise (· < ·)) (h : ∀ x, x ∈ l ↔ x ∈ m) : l = m := by
 have nl : l.Nodup := hl.imp fun h => Int.ne_of_lt h
 have nm : m.Nodup := hm.imp fun h => Int.ne_of_lt h
 exact List.Perm.eq_of_pairwise (le := (· ≤ ·)) (fun a b _ _ h1 h2 => Int.le_antisymm h1 h2) (hl.imp fun h => Int.le_of_lt h) (hm.imp fun h => Int.le_of_lt h) ((List.perm_ext_iff_of_nodup nl nm).2 h)
theorem rJ {t : ad} {g : ah} (h : jo t g) {nodes edges : List Int} (hn : ∀ x ∈ nodes, 0 ≤ x ∧ x < g.nodes.length) (he : ∀ x ∈ edges, 0 ≤ x ∧ x < g.edges.length) :
  (List.range (t.nodes.length + t.edges.length)).flatMap (vP t g nodes edges) = plS t g nodes edges := by
 have hs := fR (sA t g nodes edges)
 refine vc (m7 (fun i => ?_) _).1 (mG (ko _) _ (Nat.le_refl _)) fun x => ?_
 ·unfold vP; cases (nodes.any (fun j => lI g j == (i : Int)) || edges.any (fun j => oZ t g j == (i : Int))) <;> simp
 ·have m1 : x ∈ plS t g nodes edges ↔ x ∈ sA t g nodes edges := by
   rw [← hs.mem_iff]
   constructor
   ·intro hx
    have := (kE _ _ (Nat.le_refl _)).subset hx
    rwa [List.take_length] at this
   ·exact uE
  rw [m1]
  have ran : ∀ x ∈ sA t g nodes edges, 0 ≤ x ∧ x < (t.nodes.length + t.edges.length : Nat) := by
   intro x hx
   rcases List.mem_append.1 hx with h1 | h1
   ·obtain ⟨i, hi, rfl⟩ := List.mem_map.1 h1
    obtain ⟨y, y1, _, y3⟩ := bC (hn i hi).1 (hn i hi).2
    have := kV h y3
    simp [jJ] at this
    simp only [lI, y1, Option.getD_some]; omega
   ·obtain ⟨i, hi, rfl⟩ := List.mem_map.1 h1
    obtain ⟨y, y1, _, y3⟩ := bC (he i hi).1 (he i hi).2
    have := (ow h.ty).2 y y3
    have := h.gr.edge y y3
    simp only [oZ, y1]; omega
  constructor
  ·intro hx
   obtain ⟨p, hp, hx⟩ := List.mem_flatMap.1 hx
   unfold vP at hx
   cases hc : (nodes.any (fun i => lI g i == (p : Int)) || edges.any (fun i => oZ t g i == (p : Int))) with
   | false => rw [hc] at hx; simp at hx
   | true =>
    rw [hc] at hx
    simp at hx
    subst hx
    rcases Bool.or_eq_true_iff.1 hc with h1 | h1
    ·obtain ⟨i, hi, e⟩ := List.any_eq_true.1 h1
     exact List.mem_append_left _ (List.mem_map.2 ⟨i, hi, by simpa using e⟩)
    ·obtain ⟨i, hi, e⟩ := List.any_eq_true.1 h1
     exact List.mem_append_right _ (List.mem_map.2 ⟨i, hi, by simpa using e⟩)
  ·intro hx
   obtain ⟨r1, r2⟩ := ran x hx
   refine List.mem_flatMap.2 ⟨x.toNat, by simp; omega, ?_⟩
   have e : ((x.toNat : Nat) : Int) = x := by omega
   have hc : (nodes.any (fun i => lI g i == ((x.toNat : Nat) : Int)) || edges.any (fun i => oZ t g i == ((x.toNat : Nat) : Int))) = true := by
    rw [e, Bool.or_eq_true_iff]
    rcases List.mem_append.1 hx with h1 | h1
    ·obtain ⟨i, hi, e⟩ := List.mem_map.1 h1
     exact .inl (List.any_eq_true.2 ⟨i, hi, by simpa using e⟩)
    ·obtain ⟨i, hi, e⟩ := List.mem_map.1 h1
     exact .inr (List.any_eq_true.2 ⟨i, hi, by simpa using e⟩)
   rw [vP, hc, cond_true, e]; simp
theorem w9 {k : Nat} {t : ad} {g : ah} (h : jo t g) {nodes edges : List Int} (hn : ∀ x ∈ nodes, 0 ≤ x ∧ x < g.nodes.length) (he : ∀ x ∈ edges, 0 ≤ x ∧ x < g.edges.length) (ln : nodes.length ≤ 200) (le : edges.length ≤ 200) (hk : 20000 < k) :
  layering_places k t g nodes edges = some (plS t g nodes edges, ()) := by
 have hT := h.ok.n
 have hTE := h.ok.e
 have l1 := gx (F := layering_places.l0 edges t g nodes nodes.length) nodes.length (fun i => (nodes[i]?).elim [] fun x => [lI g x]) (fun acc => some (edges, t, g, acc, ())) [] (nodes.length + 1) (fun n acc => by simp only [layering_places.l0, aD, cond_false]) (fun n acc i hi hacc => by
  have hx : nodes[i]? = some nodes[i] := List.getElem?_eq_getElem hi
  obtain ⟨y, y1, _, y3⟩ := bC (hn _ (List.getElem_mem hi)).1 (hn _ (List.getElem_mem hi)).2
  have hb : acc.length ≤ 1 * i := by rw [hacc, List.nil_append]; exact cr (fun j => by cases nodes[j]? <;> simp) i
  simp only [layering_places.l0, aX hi, cond_true, idx_some hx, hx, lI, y1, Option.bind_some, Option.getD_some, Option.elim, List.length_cons, List.length_nil, Nat.zero_add, bP (show acc.length + 1 ≤ 1000000 by omega), wS (show i < 4611686018427387904 by omega)]) (by omega)
 have l2 := gx (F := layering_places.l2 t g edges edges.length) edges.length (fun i => (edges[i]?).elim [] fun x => [oZ t g x]) (fun acc => some (acc, ())) (nodes.map (lI g)) (edges.length + 1) (fun n acc => by simp only [layering_places.l2, aD, cond_false]) (fun n acc i hi hacc => by
  have hx : edges[i]? = some edges[i] := List.getElem?_eq_getElem hi
  obtain ⟨y, y1, _, y3⟩ := bC (he _ (List.getElem_mem hi)).1 (he _ (List.getElem_mem hi)).2
  have hr := (ow h.ty).2 y y3
  have hr' := h.gr.edge y y3
  have hb : acc.length ≤ 200 + 1 * i := by
   have := cr (f := fun i => (edges[i]?).elim [] fun x => [oZ t g x]) (c := 1) (fun j => by cases edges[j]? <;> simp) i
   rw [hacc, List.length_append, List.length_map]; omega
  have ew : IntKind.i64.wrap ((t.nodes.length : Int) + y.typ) = (t.nodes.length : Int) + y.typ := jO (by omega) (by omega)
  simp only [layering_places.l2, aX hi, cond_true, idx_some hx, hx, oZ, y1, ew, Option.bind_some, Option.elim, List.length_cons, List.length_nil, Nat.zero_add, bP (show acc.length + 1 ≤ 1000000 by omega), wS (show i < 4611686018427387904 by omega)]) (by omega)
 rw [fY (lI g), List.nil_append] at l1
 rw [fY (oZ t g)] at l2
 have hl : (sA t g nodes edges).length ≤ 400 := by simp [sA]; omega
 have hs := (fR (sA t g nodes edges)).length_eq
 obtain ⟨r, r1, r2⟩ := mu (k := k) (s := cq (sA t g nodes edges)) (by omega) (by omega)
 have hm : (eY (cq (sA t g nodes edges)) (cq (sA t g nodes edges)).length).length ≤ r.length := by
  have := congrArg List.length r2
  rw [List.length_take] at this; omega
 have z : Int.toNat 0 = 0 := rfl
 simp only [layering_places, l1, l2, Option.bind_some, slices_Sort_int, show List.map (lI g) nodes ++ List.map (oZ t g) edges = sA t g nodes edges from rfl, bP (show (sA t g nodes edges).length ≤ 1000000 by omega), cond_true, r1, z, Int.toNat_natCast, xW, uu hm, Bool.and_self, sY, r2]
 rfl
theorem lU {α : Type} (p : α → Bool) : ∀ (l : List α) (s : Bool), l.foldl (fun s x => cond s true (p x)) s = (s || l.any p)
 | [], s => by simp
 | x :: l, s => by
  rw [List.foldl_cons, lU p l, List.any_cons]
  cases s <;> simp
theorem uF {k : Nat} {t : ad} {g : ah} (h : jo t g) {nodes edges : List Int} (hn : ∀ x ∈ nodes, 0 ≤ x ∧ x < g.nodes.length) (he : ∀ x ∈ edges, 0 ≤ x ∧ x < g.edges.length) (ln : nodes.length ≤ 200) (le : edges.length ≤ 200) (hk : 20000 < k) :
  scarfjointref40_places k t g nodes edges = some (plS t g nodes edges, ()) := by
 have hT := h.ok.n
 have hTE := h.ok.e
 have l2 : ∀ (acc : List Int) (p : Nat) (s : Bool), _ := fun acc p s => qg (F := scarfjointref40_places.l2 nodes edges t g acc p) nodes (fun s => some (nodes, edges, t, g, acc, (p : Int), s, ())) (fun x s => cond s true (lI g x == (p : Int))) k s (fun n s => by simp only [scarfjointref40_places.l2, aD, cond_false]) (fun n s i x hx => by
  obtain ⟨y, y1, _, y3⟩ := bC (hn _ (dF hx)).1 (hn _ (dF hx)).2
  simp only [scarfjointref40_places.l2, aX (aN hx), cond_true, idx_some hx, y1, lI, Option.getD_some, Option.bind_some, eo, wS (show i < 4611686018427387904 by have := aN hx; omega)]) (by omega)
 have l4 : ∀ (acc : List Int) (p : Nat) (s : Bool), _ := fun acc p s => qg (F := scarfjointref40_places.l4 nodes edges t g acc p) edges (fun s => some (nodes, edges, t, g, acc, (p : Int), s, ())) (fun x s => cond s true (oZ t g x == (p : Int))) k s (fun n s => by simp only [scarfjointref40_places.l4, aD, cond_false]) (fun n s i x hx => by
  obtain ⟨y, y1, _, y3⟩ := bC (he _ (dF hx)).1 (he _ (dF hx)).2
  have hr := (ow h.ty).2 y y3
  have hr' := h.gr.edge y y3
  have ew : IntKind.i64.wrap ((t.nodes.length : Int) + y.typ) = (t.nodes.length : Int) + y.typ := jO (by omega) (by omega)
  simp only [scarfjointref40_places.l4, aX (aN hx), cond_true, idx_some hx, y1, oZ, ew, Option.bind_some, eo, wS (show i < 4611686018427387904 by have := aN hx; omega)]) (by omega)
 have ew : IntKind.i64.wrap ((t.nodes.length : Int) + (t.edges.length : Int)) = ((t.nodes.length + t.edges.length : Nat) : Int) := qG (by omega)
 have l0 := gx (F := fun n acc i => scarfjointref40_places.l0 k n nodes edges t g acc i) (t.nodes.length + t.edges.length) (vP t g nodes edges) (fun acc => some (acc, ())) [] k (fun n acc => by simp only [scarfjointref40_places.l0, ew, aD, cond_false]) (fun n acc i hi hacc => by
  have hb : acc.length ≤ 1 * i := by
   rw [hacc, List.nil_append]; exact cr (fun j => by unfold vP; cases (nodes.any (fun i => lI g i == (j : Int)) || edges.any (fun i => oZ t g i == (j : Int))) <;> simp) i
  simp only [scarfjointref40_places.l0, ew, aX hi, cond_true, l2 acc i false, l4 acc i, lU (fun x => lI g x == (i : Int)), lU (fun x => oZ t g x == (i : Int)), Bool.false_or, Option.bind_some, List.length_cons, List.length_nil, Nat.zero_add, bP (show acc.length + 1 ≤ 1000000 by omega), wS (show i < 4611686018427387904 by omega), vP]
  cases (nodes.any (fun j => lI g j == (i : Int)) || edges.any (fun j => oZ t g j == (i : Int))) <;> simp) (by omega)
 rw [scarfjointref40_places, l0, List.nil_append, rJ h hn he]
 rfl
end Go.Ev.Pl
end
section
set_option linter.unusedVariables false
namespace Go.Ev.Pl
def n9 (t : ad) (x : Int) : Bool := t.nodes.any fun n => n.parent == x
theorem sg {t : ad} {x : Int} : ∀ n j, x ∈ pt n t j → j = x ∨ n9 t x = true
 | 0, j, h => by simp [pt] at h
 | n + 1, j, h => by
  rw [pt] at h
  cases hd : decide (j < 0) with
  | true => rw [hd] at h; simp at h
  | false =>
   rw [hd, cond_false] at h
   cases hi : aF t.nodes j with
   | none => rw [hi] at h; simp at h
   | some y =>
    rw [hi] at h
    rcases List.mem_cons.1 h with e | h'
    ·exact .inl e.symm
    ·rcases sg n y.parent h' with e | e
     ·exact .inr (List.any_eq_true.2 ⟨y, rq hi, by simpa using e⟩)
     ·exact .inr e
theorem sQ {t : ad} (ht : sM t) {x : Int} (hx : jJ t x = true) : decide ((((List.range t.nodes.length).flatMap fun (j : Nat) => cond (oQ t j x) [(j : Int)] []).length : Int) > 1) = n9 t x := by
 have hn := ht.n
 simp [jJ] at hx
 generalize hL : (List.range t.nodes.length).flatMap (fun (j : Nat) => cond (oQ t j x) [(j : Int)] []) = L
 have mem : ∀ j : Nat, j < t.nodes.length → oQ t j x = true → (j : Int) ∈ L := fun j hj h => by
  rw [← hL]; exact List.mem_flatMap.2 ⟨j, by simpa using hj, by rw [h]; simp⟩
 have hd : ∀ n, x ∈ pt (n + 1) t x := fun n => by
  obtain ⟨y, y1, _, _⟩ := bC hx.1 hx.2
  have : ¬ x < 0 := by omega
  simp [pt, this, y1]
 have self : oQ t (x.toNat : Nat) x = true := by
  have e : ((x.toNat : Nat) : Int) = x := by omega
  rw [oQ, e]; exact List.any_eq_true.2 ⟨x, hd 31, by simp⟩
 have mx := mem x.toNat (by omega) self
 have e : ((x.toNat : Nat) : Int) = x := by omega
 rw [e] at mx
 rw [Bool.eq_iff_iff, decide_eq_true_iff]
 constructor
 ·intro h
  have : ∃ y ∈ L, y ≠ x := by
   apply Classical.byContradiction
   intro hno
   have all : ∀ y ∈ L, y = x := fun y hy => Classical.byContradiction fun h2 => hno ⟨y, hy, h2⟩
   have pw := (m7 (f := fun j => cond (oQ t j x) [(j : Int)] []) (fun i => by cases oQ t i x <;> simp) t.nodes.length).1
   rw [hL] at pw
   match L, pw, h, all with
   | [], _, h, _ => simp at h
   | [a], _, h, _ => simp at h
   | a :: b :: r, pw, _, all =>
    have h1 := all a (by simp)
    have h2 := all b (by simp)
    have := (List.pairwise_cons.1 pw).1 b (by simp)
    omega
  obtain ⟨y, hy, hne⟩ := this
  rw [← hL] at hy
  obtain ⟨j, hj, hy⟩ := List.mem_flatMap.1 hy
  cases hi : oQ t j x with
  | false => rw [hi] at hy; simp at hy
  | true =>
   rw [hi] at hy
   simp at hy
   obtain ⟨z, z1, z2⟩ := List.any_eq_true.1 hi
   have z3 : x = z := by simpa using z2
   subst z3
   rcases sg 32 (j : Int) z1 with e | e
   ·exact absurd (by omega) hne
   ·exact e
 ·intro h
  obtain ⟨m, hm, e2⟩ := List.any_eq_true.1 h
  have e2 : m.parent = x := by simpa using e2
  obtain ⟨j, hj, rfl⟩ := List.getElem_of_mem hm
  have hg : t.nodes[j]? = some t.nodes[j] := List.getElem?_eq_getElem hj
  have hp := ht.par j _ hg
  have hjx : oQ t j x = true := by
   refine List.any_eq_true.2 ⟨x, ?_, by simp⟩
   have : ¬ ((j : Int) < 0) := by omega
   rw [ns, pt]
   simp only [this, decide_false, cond_false, idx_some hg, e2]
   exact List.mem_cons_of_mem _ (hd 30)
  have mj := mem j hj hjx
  match L, mx, mj with
  | [], mx, _ => simp at mx
  | [a], mx, mj => simp at mx mj; omega
  | a :: b :: r, _, _ => simp; omega
theorem tP {k : Nat} {t : ad} (ht : sM t) (h0 : j6 t = 0) {x : Int} (hx : jJ t x = true) (hk : 20000 < k) : scarfjointref04_Below k t x = some ((List.range t.nodes.length).flatMap (fun (j : Nat) => cond (oQ t j x) [(j : Int)] []), 0, ()) := by
 have hn := ht.n
 have hx' := hx
 simp [jJ] at hx'
 have l1 := gx (F := scarfjointref04_Below.l0 k x t) t.nodes.length (fun (j : Nat) => cond (oQ t j x) [(j : Int)] []) (fun acc => some (acc, ())) [] k (fun n acc => by simp only [scarfjointref04_Below.l0, aD, cond_false]) (fun n acc i hi hacc => by
  have hb : acc.length ≤ 1 * i := by rw [hacc, List.nil_append]; exact cr (fun j => by cases oQ t j x <;> simp) i
  have hin : jJ t i = true := by simp [jJ]; omega
  simp only [scarfjointref04_Below.l0, aX hi, cond_true, mQ ht hk hin hx'.1, Option.bind_some, List.length_cons, List.length_nil, Nat.zero_add, bP (show acc.length + 1 ≤ 1000000 by omega), wS (show i < 4611686018427387904 by omega)]
  cases oQ t i x <;> simp) (by omega)
 simp only [scarfjointref04_Below, kS ht.b (show 2000 < k by omega), h0, hx, bne_self_eq_false, cond_false, Bool.not_true, Bool.or_self, Option.bind_some, l1, List.nil_append]
def ii (n : Nat) (t : ad) (r : aL) : Int := cond (fF n t r != 0) (fF n t r) (cond ((gD r).any fun i => n9 t (lI r.left.graph i)) 13 0)
def mX (t : ad) (r : aL) : a8 := ⟨plS t r.left.graph (gD r) (lP r), plS t r.right.graph (kZ r) (ld r)⟩
def xD (n : Nat) (t : ad) (r : aL) : a8 := cond (ii n t r != 0) ⟨[], []⟩ (mX t r)
theorem xg {k n : Nat} {t : ad} {r : aL} (ht : BT t) (hr : s7 n r) (hk : 20000 + n < k) : layering_of k t r = some (xD n t r, ii n t r, ()) := by
 simp only [layering_of, (qo ht hr hk).1, Option.bind_some, xD, ii]
 cases h1 : (fF n t r != 0) with
 | true => simp only [cond_true, h1]
 | false =>
  have ok := mo (n := n) ht (show fF n t r = 0 by simpa using h1)
  have d1 := dT r.keep.nodes r.left.graph.nodes.length
  have d2 := dT r.keep.edges r.left.graph.edges.length
  have d3 := dT r.into.nodes r.right.graph.nodes.length
  have d4 := dT r.into.edges r.right.graph.edges.length
  have b1 := hr.left.g.n
  have b2 := hr.left.g.e
  have b3 := hr.right.g.n
  have b4 := hr.right.g.e
  have tn := ok.left.ok.n
  have l1 := cl (F := layering_of.l0 t r [] [] (gD r) (lP r) (gD r).length) (gD r) (t, r, ([], [], ()), gD r, lP r, ()) (fun _ x => cond (n9 t (lI r.left.graph x)) (some (([], [], ()), 13, ())) none) ((gD r).length + 1) (fun m => by simp only [layering_of.l0, aD, cond_false]) (fun m i x hx _ => by
   have hi := aN hx
   have hm := cx (dF hx)
   obtain ⟨y, y1, _, y3⟩ := bC hm.1 hm.2
   have hil : (gD r).length ≤ 200 := by simp only [gD]; omega
   have c1 := bG (l := t.nodes) (q := fun z6 => ep z6.1 r x) (p := fun m => m.parent == y) (fun z _ => by simp only [ep, y1, Option.bind_some]) (cS (m := 12) tn (by omega))
   simp only [layering_of.l0, aX hi, jF, Bool.and_true, cond_true, Int.toNat_natCast, fm hx, vU, c1, Option.bind_some, lI, y1, Option.getD_some, n9, de, wS (show i < 4611686018427387904 by omega)]) (by omega)
  rw [bZ (fun x => n9 t (lI r.left.graph x))] at l1
  simp only [cond_false, Int.toNat_natCast, bne_self_eq_false, l1, Option.bind_some, fN]
  cases h2 : ((gD r).any fun i => n9 t (lI r.left.graph i)) with
  | true => rfl
  | false =>
   simp only [cond_false, aG, (uf ht hr hk).1, h1, Option.bind_some, w9 ok.left (nodes := gD r) (edges := lP r) (k := k) (fun x hx => cx hx) (fun x hx => cx hx) (by simp only [gD]; omega) (by simp only [lP]; omega) (by omega),
    w9 ok.right (nodes := kZ r) (edges := ld r) (k := k) (fun x hx => cx hx) (fun x hx => cx hx) (by simp only [kZ]; omega) (by simp only [ld]; omega) (by omega)]
   rfl
def pQ (n : Nat) (t : ad) (rs : List aL) : Int := cond (j6 t != 0) (j6 t) (cond (decide ((rs.length : Int) > 6)) 3 (kP (cm (fun _ r => cond (ii n t r != 0) (some (ii n t r, ())) none) rs)))
theorem nv {α β : Type} (f : α → β) : ∀ (l : List α) (s : List β), l.foldl (fun s x => s ++ [f x]) s = s ++ l.map f
 | [], s => by simp
 | x :: l, s => by rw [List.foldl_cons, nv f l]; simp
theorem sB {α B B' : Type} (h : B → B') (p : α → Bool) (v : α → B) (l : List α) : cm (fun _ x => cond (p x) (some (h (v x))) none) l = (cm (fun _ x => cond (p x) (some (v x)) none) l).map h := by
 unfold cm
 generalize 0 = i
 generalize l.length = c
 induction c generalizing i with
 | zero => rfl
 | succ c ih =>
  rw [cP, cP]
  cases l[i]? with
  | none => exact ih (i + 1)
  | some x =>
   simp only [Option.bind_some]
   cases p x with
   | true => rfl
   | false => exact ih (i + 1)
theorem vo {k n : Nat} {t : ad} {rs : List aL} (ht : BT t) (hr : ∀ r ∈ rs, s7 n r) (hl : rs.length ≤ 1000) (hk : 20000 + n < k) :
  layering_given k t rs = some (cond (pQ n t rs != 0) [] (rs.map (mX t)), pQ n t rs, ()) := by
 have L := tv (F := layering_given.l0 k t rs rs.length) rs (fun s => (s, ())) (fun r => cond (ii n t r != 0) (some (([] : List a8), ii n t r, ())) none) (fun r s => s ++ [xD n t r]) (fun i s => s.length = i) (rs.length + 1) [] rfl
  (fun m s _ => by simp only [layering_given.l0, aD, cond_false]) (fun m s i x hx hs => by
   have hi := aN hx
   simp only [layering_given.l0, aX hi, cond_true, idx_some hx, xg ht (hr x (dF hx)) hk, Option.bind_some, List.length_cons, List.length_nil, Nat.zero_add, bP (show s.length + 1 ≤ 1000000 by omega), de, wS (show i < 4611686018427387904 by omega)]) (fun s i x _ _ h => by simp [h]) (by omega)
 rw [nv, sB (fun e => (([] : List a8), e)) (fun r => ii n t r != 0) (fun r => (ii n t r, ()))] at L
 simp only [layering_given, (gp ht (show 2000 < k by omega)).1, Option.bind_some, pQ, Int.toNat_natCast, L]
 cases h0 : (j6 t != 0) with
 | true => simp only [cond_true, h0]
 | false =>
  cases decide ((rs.length : Int) > 6) with
  | true => rfl
  | false =>
   simp only [cond_false]
   cases hf : cm (fun _ r => cond (ii n t r != 0) (some (ii n t r, ())) none) rs with
   | some z =>
    have : (z.1 != 0) = true := by
     obtain ⟨j, _, _, j3, _⟩ := eh hf
     obtain ⟨x, _, j5⟩ := Option.bind_eq_some_iff.1 j3
     dsimp only at j5
     cases hc : (ii n t x != 0) with
     | false => rw [hc] at j5; cases j5
     | true => rw [hc] at j5; cases j5; exact hc
    simp only [Option.map_some, Option.elim, aG, kP, this, cond_true]
   | none =>
    simp only [Option.map_none, Option.elim, aG, kP, bne_self_eq_false, cond_false, List.nil_append]
    congr 2
    refine List.map_congr_left fun r hr => ?_
    obtain ⟨i, hi, rfl⟩ := List.getElem_of_mem hr
    have := xe (fU.1 hf i _ (List.getElem?_eq_getElem hi))
    simp only [xD, this, bne_self_eq_false, cond_false]
theorem vf {k n : Nat} {t : ad} {rs : List aL} (ht : BT t) (hr : ∀ r ∈ rs, s7 n r) (hl : rs.length ≤ 1000) (hk : 20000 + n < k) : scarfjointref40_Given k t rs = some (pQ n t rs, ()) := by
 simp only [scarfjointref40_Given, (gp ht (show 2000 < k by omega)).2, Option.bind_some, pQ]
 cases h0 : (j6 t != 0) with
 | true => rfl
 | false =>
  cases decide ((rs.length : Int) > 6) with
  | true => rfl
  | false =>
   have t0 : j6 t = 0 := by simpa using h0
   rw [cond_false, cond_false, cl (F := fun m i => scarfjointref40_Given.l0 k m rs t i) rs () (fun _ r => cond (ii n t r != 0) (some (ii n t r, ())) none) k (fun m => by simp only [scarfjointref40_Given.l0, aD, cond_false]) (fun m i x hx _ => by
    have hi := aN hx
    have hru := hr x (dF hx)
    simp only [scarfjointref40_Given.l0, aX hi, cond_true, idx_some hx, (qo ht hru hk).2, Option.bind_some, ii]
    cases h1 : (fF n t x != 0) with
    | true => simp only [cond_true, h1]; rfl
    | false =>
     have ok := mo (n := n) ht (show fF n t x = 0 by simpa using h1)
     have d1 := dT x.keep.nodes x.left.graph.nodes.length
     have b1 := hru.left.g.n
     have l2 := cl (F := scarfjointref40_Given.l2 k rs t i (gD x)) (gD x) (rs, t, (i : Int), ()) (fun _ y => cond (n9 t (lI x.left.graph y)) (some (13, ())) none) k (fun m => by simp only [scarfjointref40_Given.l2, aD, cond_false]) (fun m j y hy _ => by
      have hj := aN hy
      have hm := cx (dF hy)
      have hil : (gD x).length ≤ 200 := by simp only [gD]; omega
      obtain ⟨z, z1, _, z3⟩ := bC hm.1 hm.2
      have hz := kV ok.left z3
      simp only [scarfjointref40_Given.l2, aX hj, jF, Bool.and_true, cond_true, idx_some hx, Int.toNat_natCast, fm hy, z1, tP ok.left.ok t0 hz (show 20000 < k by omega), Option.bind_some, sQ ok.left.ok hz, lI, Option.getD_some, de, wS (show j < 4611686018427387904 by omega)]) (by simp only [gD]; omega)
     rw [bZ (fun y => n9 t (lI x.left.graph y))] at l2
     simp only [cond_false, bne_self_eq_false, l2, Option.bind_some, fN]
     cases ((gD x).any fun y => n9 t (lI x.left.graph y)) with
     | true => rfl
     | false => simp only [cond_false, aG, wS (show i < 4611686018427387904 by omega)]; rfl) (by omega)]
   exact ke _
structure wT (n : Nat) (t : ad) (rs : List aL) : Prop where
 t0 : j6 t = 0
 l : rs.length ≤ 6
 e : ∀ r ∈ rs, ii n t r = 0
theorem uO {n : Nat} {t : ad} {rs : List aL} (h : pQ n t rs = 0) : wT n t rs := by
 obtain ⟨h1, h⟩ := th h
 obtain ⟨h2, h⟩ := xf h (by decide)
 refine ⟨h1, by simp at h2; omega, fun r hr => ?_⟩
 cases hf : cm (fun _ r => cond (ii n t r != 0) (some (ii n t r, ())) none) rs with
 | some z =>
  rw [hf] at h
  obtain ⟨j, _, _, j3, _⟩ := eh hf
  obtain ⟨x, _, j5⟩ := Option.bind_eq_some_iff.1 j3
  dsimp only at j5
  cases hc : (ii n t x != 0) with
  | false => rw [hc] at j5; cases j5
  | true => rw [hc] at j5; cases j5; simp only [kP] at h; simp only [bne, h] at hc; cases hc
 | none =>
  obtain ⟨i, hi, rfl⟩ := List.getElem_of_mem hr
  exact xe (fU.1 hf i _ (List.getElem?_eq_getElem hi))
theorem sa {n : Nat} {t : ad} {r : aL} (ht : BT t) (h : ii n t r = 0) : fF n t r = 0 ∧ xX t r := by
 obtain ⟨h1, _⟩ := th h
 exact ⟨h1, mo ht h1⟩
theorem mK {k n : Nat} {t : ad} {r : aL} (ht : BT t) (hr : s7 n r) (h : ii n t r = 0) (hk : 20000 + n < k) : aP k t r = some ((mX t r).deletes, ()) ∧ bH k t r = some ((mX t r).creates, ()) := by
  obtain ⟨h1, ok⟩ := sa ht h
  have d1 := dT r.keep.nodes r.left.graph.nodes.length
  have d2 := dT r.keep.edges r.left.graph.edges.length
  have d3 := dT r.into.nodes r.right.graph.nodes.length
  have d4 := dT r.into.edges r.right.graph.edges.length
  have b1 := hr.left.g.n
  have b2 := hr.left.g.e
  have b3 := hr.right.g.n
  have b4 := hr.right.g.e
  simp only [aP, bH, (qo ht hr hk).2, (uf ht hr hk).2, h1, bne_self_eq_false, cond_false, Option.bind_some, uF ok.left (nodes := gD r) (edges := lP r) (k := k) (fun x hx => cx hx) (fun x hx => cx hx) (by simp only [gD]; omega) (by simp only [lP]; omega) (by omega),
        uF ok.right (nodes := kZ r) (edges := ld r) (k := k) (fun x hx => cx hx) (fun x hx => cx hx) (by simp only [kZ]; omega) (by simp only [ld]; omega) (by omega), mX, and_self]
end Go.Ev.Pl
end
section
set_option linter.unusedVariables false
namespace Go.Ev.Pl
def lF : Nat := 140737488355328
theorem mH {α S A : Type} {F : Nat → S → Int → Option (Sum A (Bool × Unit))} (l : List α) (Q : α → Prop) (gW : Nat → S → Prop) (fin : S → A) (fuel : Nat) (s : S) (hs : gW 0 s)
  (h0 : ∀ n s, gW l.length s → F (n + 1) s (l.length : Int) = some (.inl (fin s)))
  (h1 : ∀ n s (i : Nat) x, l[i]? = some x → gW i s → F (n + 1) s (i : Int) = some (.inr (false, ())) ∨ ∃ s', gW (i + 1) s' ∧ Q x ∧ F (n + 1) s (i : Int) = F n s' ((i + 1 : Nat) : Int))
  (hf : l.length < fuel) : F fuel s 0 = some (.inr (false, ())) ∨ ∃ s', gW l.length s' ∧ F fuel s 0 = some (.inl (fin s')) ∧ ∀ x ∈ l, Q x := by
 suffices H : ∀ c i fuel s, l.length - i = c → i ≤ l.length → l.length - i < fuel → gW i s → (∀ j x, j < i → l[j]? = some x → Q x) → F fuel s (i : Int) = some (.inr (false, ())) ∨ ∃ s', gW l.length s' ∧ F fuel s (i : Int) = some (.inl (fin s')) ∧ ∀ x ∈ l, Q x from
  H _ 0 fuel s rfl (by omega) (by omega) hs (fun j x h => by omega)
 intro c
 induction c with
 | zero =>
  intro i fuel s hc hi hf hs hq
  obtain rfl : i = l.length := by omega
  cases fuel with
  | zero => omega
  | succ n =>
   refine .inr ⟨s, hs, h0 n s hs, fun x hx => ?_⟩
   obtain ⟨j, hj, rfl⟩ := List.getElem_of_mem hx
   exact hq j _ hj (List.getElem?_eq_getElem hj)
 | succ c ih =>
  intro i fuel s hc hi hf hs hq
  cases fuel with
  | zero => omega
  | succ n =>
   have hlt : i < l.length := by omega
   have hx : l[i]? = some l[i] := List.getElem?_eq_getElem hlt
   rcases h1 n s i _ hx hs with e | ⟨s', i', q', e⟩
   ·exact .inl e
   ·rw [e]
    exact ih (i + 1) n s' (by omega) (by omega) (by omega) i' fun j x h h2 => by
     by_cases e : j = i
     ·subst e; rw [hx] at h2; cases h2; exact q'
     ·exact hq j x (by omega) h2
theorem xi {k : Nat} {t : ad} (hs : ∀ x ∈ t.nodes, x.attrs.length ≤ lF) (hk : 2000 < k) : ∃ b, scarfjointref04_Few k t = some (b, ()) ∧ (b = true → BT t) := by
 simp only [scarfjointref04_Few, eo, gN, Option.bind_some]
 cases h1 : (decide ((t.nodes.length : Int) > 20) || decide ((t.edges.length : Int) > 30)) with
 | true => exact ⟨false, rfl, fun h => by cases h⟩
 | false =>
  have b1 : t.nodes.length ≤ 20 ∧ t.edges.length ≤ 30 := by simp at h1; omega
  have L := mH (F := fun n s i => scarfjointref04_Few.l0 k n t s i) t.nodes (fun x => x.name.size ≤ 40 ∧ x.attrs.length ≤ 30 ∧ ∀ a ∈ x.attrs, BA a) (fun _ (s : Int) => 0 ≤ s ∧ s ≤ 30) (fun s => (t, ())) k 0 (by omega) (fun n s _ => by simp only [scarfjointref04_Few.l0, aD, cond_false]) (fun n s i x hx hI => by
   have hi := aN hx
   have hax := hs x (dF hx)
   simp only [lF] at hax
   have ew : IntKind.i64.wrap (s + (x.attrs.length : Int)) = s + (x.attrs.length : Int) := jO (by omega) (by omega)
   simp only [scarfjointref04_Few.l0, aX hi, cond_true, idx_some hx, Option.bind_some, eo, gN, ew]
   cases h2 : (decide (s + (x.attrs.length : Int) > 30) || decide ((x.name.size : Int) > 40)) with
   | true => exact .inl rfl
   | false =>
    have b2 : s + (x.attrs.length : Int) ≤ 30 ∧ x.name.size ≤ 40 := by simp at h2; omega
    have L2 := mH (F := fun n (_ : Unit) j => scarfjointref04_Few.l2 k n t (s + (x.attrs.length : Int)) i j) x.attrs BA (fun _ _ => True) (fun _ => (t, s + (x.attrs.length : Int), (i : Int), ())) k () trivial (fun n _ _ => by simp only [scarfjointref04_Few.l2, idx_some hx, Option.bind_some, aD, cond_false]) (fun n _ j a ha _ => by
     have hj := aN ha
     simp only [scarfjointref04_Few.l2, idx_some hx, idx_some ha, Option.bind_some, aX hj, cond_true, eo, gN]
     cases h3 : (decide ((a.name.size : Int) > 40) || decide ((a.names.length : Int) > 25)) with
     | true => exact .inl rfl
     | false =>
      have b3 : a.name.size ≤ 40 ∧ a.names.length ≤ 25 := by simp at h3; omega
      have L4 := mH (F := fun n (_ : Unit) q => scarfjointref04_Few.l4 t (s + (x.attrs.length : Int)) i j a n q) a.names (fun z => z.size ≤ 40) (fun _ _ => True) (fun _ => (t, s + (x.attrs.length : Int), (i : Int), (j : Int), ())) k () trivial (fun n _ _ => by simp only [scarfjointref04_Few.l4, aD, cond_false]) (fun n _ q z hz _ => by
       simp only [scarfjointref04_Few.l4, idx_some hz, Option.bind_some, aX (aN hz), cond_true, wS (show q < 4611686018427387904 by have := aN hz; omega)]
       by_cases h4 : (z.size : Int) > 40
       ·simp [h4]
       ·refine .inr ⟨(), trivial, by omega, ?_⟩; simp [h4]) (by omega)
      simp only [cond_false]
      rcases L4 with e | ⟨_, _, e, q4⟩
      ·rw [e]; exact .inl rfl
      ·rw [e]
       refine .inr ⟨(), trivial, ⟨b3.1, b3.2, q4⟩, ?_⟩
       simp only [Option.bind_some, aG, wS (show j < 4611686018427387904 by omega)]) (by omega)
    simp only [cond_false]
    rcases L2 with e | ⟨_, _, e, q2⟩
    ·rw [e]; exact .inl rfl
    ·rw [e]
     refine .inr ⟨s + (x.attrs.length : Int), by omega, ⟨b2.2, by omega, q2⟩, ?_⟩
     simp only [Option.bind_some, aG, wS (show i < 4611686018427387904 by omega)]) (by omega)
  simp only [cond_false]
  rcases L with e | ⟨_, _, e, q⟩
  ·rw [e]; exact ⟨false, rfl, fun h => by cases h⟩
  ·have L6 := mH (F := fun n (_ : Unit) j => scarfjointref04_Few.l6 t n j) t.edges (fun z => z.name.size ≤ 40) (fun _ _ => True) (fun _ => ()) k () trivial (fun n _ _ => by simp only [scarfjointref04_Few.l6, aD, cond_false]) (fun n _ j z hz _ => by
    simp only [scarfjointref04_Few.l6, idx_some hz, Option.bind_some, aX (aN hz), cond_true, wS (show j < 4611686018427387904 by have := aN hz; omega)]
    by_cases h4 : (z.name.size : Int) > 40
    ·simp [h4]
    ·refine .inr ⟨(), trivial, by omega, ?_⟩; simp [h4]) (by omega)
   rw [e]
   simp only [Option.bind_some, aG]
   rcases L6 with e6 | ⟨_, _, e6, q6⟩
   ·rw [e6]; exact ⟨false, rfl, fun h => by cases h⟩
   ·rw [e6]
    exact ⟨true, rfl, fun _ => ⟨b1.1, b1.2, fun x hx => (q x hx).1, fun x hx => (q x hx).2.1, fun x hx => (q x hx).2.2, q6⟩⟩
theorem tR (p : aj) : ∃ b, bk p = some (b, ()) ∧ (b = true → BP p) := by
 simp only [bk, cN, eo, jy, Option.bind_some]
 refine ⟨_, rfl, fun h => ?_⟩
 simp at h
 exact ⟨⟨by omega, by omega⟩, by omega, by omega⟩
theorem w7 {m : aK} (h1 : m.nodes.length ≤ lF) (h2 : m.edges.length ≤ lF) : ∃ b, bN m 140 = some (b, ()) ∧ (b = true → BM m) := by
 simp only [lF] at h1 h2
 refine ⟨_, rfl, fun h => ?_⟩
 rw [jO (by omega) (by omega)] at h
 simp at h
 exact ⟨by omega, by omega⟩
theorem wX {m : dS} (h1 : m.nodes.length ≤ lF) (h2 : m.edges.length ≤ lF) : ∃ b, cO m 140 = some (b, ()) ∧ (b = true → lG m) := by
 simp only [lF] at h1 h2
 refine ⟨_, rfl, fun h => ?_⟩
 rw [jO (by omega) (by omega)] at h
 simp at h
 exact ⟨by omega, by omega⟩
inductive xk : ae → Prop where
 | mk (c : ae) (h1 : c.map.nodes.length ≤ lF) (h2 : c.map.edges.length ≤ lF) (h3 : c.kids.length ≤ lF) (h : ∀ d ∈ c.kids, xk d) : xk c
theorem rD : ∀ {n n' : Nat} {c : ae}, BC n c → n ≤ n' → BC n' c
 | 0, _, c, h, _ => h.elim
 | n + 1, 0, c, _, h => by omega
 | n + 1, n' + 1, c, h, hn => ⟨h.1, h.2.1, h.2.2.1, fun d hd => rD (h.2.2.2 d hd) (by omega)⟩
theorem s6 {m : Nat} {c : ae} {rec_ : ae → Int → Option (Int × Unit)} (hk : c.kids.length ≤ lF)
  (hr : ∀ d ∈ c.kids, ∀ q : Nat, q < m → ∃ r, rec_ d q = some (r, ()) ∧ -1 ≤ r ∧ r ≤ (q : Int) - 1 ∧ (0 ≤ r → BC m d)) :
  ∀ (fuel : Nat) (q : Int) (i : Nat), -1 ≤ q → q < m → q + 1 < fuel → i ≤ c.kids.length → (0 ≤ q → ∀ j d, j < i → c.kids[j]? = some d → BC m d) →
   ∃ r, scarfjointref22_left.l0 rec_ c fuel q i = some (r, ()) ∧ -1 ≤ r ∧ r ≤ q ∧ (0 ≤ r → (∀ d ∈ c.kids, BC m d) ∧ (c.kids.length : Int) + r ≤ i + q)
 | 0, q, i, h, _, h2, _, _ => by omega
 | fuel + 1, q, i, h, h1, h2, hi, hp => by
  simp only [lF] at hk
  by_cases hc : (i : Int) < c.kids.length ∧ q ≥ 0
  ·have hlt : i < c.kids.length := by omega
   have hx : c.kids[i]? = some c.kids[i] := List.getElem?_eq_getElem hlt
   obtain ⟨Q, rfl⟩ : ∃ Q : Nat, q = Q := ⟨q.toNat, by omega⟩
   obtain ⟨r, r1, r2, r3, r4⟩ := hr _ (List.getElem_mem hlt) Q (by omega)
   obtain ⟨z, z1, z2, z3, z4⟩ := s6 (by simp only [lF]; omega) hr fuel r (i + 1) r2 (by omega) (by omega) (by omega) (fun h0 j d hj hd => by
    by_cases e : j = i
    ·subst e; rw [hx] at hd; cases hd; exact r4 h0
    ·exact hp hc.2 j d (by omega) hd)
   refine ⟨z, ?_, z2, by omega, fun h0 => ?_⟩
   ·have d1 : decide ((Q : Int) ≥ 0) = true := decide_eq_true hc.2
    simp only [scarfjointref22_left.l0, aX hlt, d1, cond_true, Option.bind_some, idx_some hx, r1, wS (show i < 4611686018427387904 by omega)]
    exact z1
   ·have := (z4 h0).2; exact ⟨(z4 h0).1, by omega⟩
  ·refine ⟨q, ?_, h, Int.le_refl _, fun h0 => ⟨fun d hd => ?_, by omega⟩⟩
   ·simp only [scarfjointref22_left.l0, eo, jy]
    have : (decide ((i : Int) < (c.kids.length : Int)) && decide (q ≥ 0)) = false := by simp; omega
    rw [this]; rfl
   ·obtain ⟨j, hj, rfl⟩ := List.getElem_of_mem hd
    exact hp h0 j _ (by omega) (List.getElem?_eq_getElem hj)
theorem rY : ∀ (m k : Nat) (c : ae), m ≤ 40 → xk c → 200 + m < k → ∃ r, scarfjointref22_left k c m = some (r, ()) ∧ -1 ≤ r ∧ r ≤ (m : Int) - 1 ∧ (0 ≤ r → BC (m + 1) c)
 | m, 0, c, _, _, h => by omega
 | m, k + 1, c, hm, hs, hk => by
  cases hs with
  | mk c h1 h2 h3 h4 =>
   obtain ⟨b1, e1, p1⟩ := tR c.pattern
   obtain ⟨b2, e2, p2⟩ := w7 h1 h2
   simp only [scarfjointref22_left, e1, e2, Option.bind_some, eo, gN]
   cases hb : (!b1 || !b2) with
   | true => exact ⟨-1, rfl, by omega, by omega, fun h => by omega⟩
   | false =>
    have hb' : b1 = true ∧ b2 = true := by simpa using hb
    have ew : IntKind.i64.wrap ((m : Int) - 1) = (m : Int) - 1 := jO (by omega) (by omega)
    obtain ⟨r, r1, r2, r3, r4⟩ := s6 (m := m) (c := c) (rec_ := scarfjointref22_left k) h3 (fun d hd q hq => by
     obtain ⟨r, r1, r2, r3, r4⟩ := rY q k d (by omega) (h4 d hd) (by omega)
     exact ⟨r, r1, r2, r3, fun h => rD (r4 h) (by omega)⟩) k ((m : Int) - 1) 0 (by omega) (by omega) (by omega) (by omega) (fun _ j d h => by omega)
    rw [show ((0 : Nat) : Int) = 0 from rfl] at r1
    simp only [cond_false, ew, r1, Option.bind_some]
    refine ⟨r, rfl, r2, r3, fun h => ?_⟩
    obtain ⟨z1, z2⟩ := r4 h
    exact ⟨p1 hb'.1, p2 hb'.2, by omega, z1⟩
structure wR (r : aL) : Prop where
 k1 : r.keep.nodes.length ≤ lF
 k2 : r.keep.edges.length ≤ lF
 i1 : r.into.nodes.length ≤ lF
 i2 : r.into.edges.length ≤ lF
 c : xk r.condition
theorem xw {k : Nat} {r : aL} (hs : wR r) (hk : 20000 < k) : ∃ b, cy k r = some (b, ()) ∧ (b = true → s7 41 r) := by
 obtain ⟨b1, e1, p1⟩ := tR r.left
 obtain ⟨b2, e2, p2⟩ := tR r.right
 obtain ⟨b3, e3, p3⟩ := wX hs.k1 hs.k2
 obtain ⟨b4, e4, p4⟩ := w7 hs.i1 hs.i2
 obtain ⟨z, e5, z1, z2, p5⟩ := rY 40 k r.condition (by omega) hs.c (by omega)
 rw [show ((40 : Nat) : Int) = 40 from rfl] at e5
 simp only [cy, cT, e1, e2, e3, e4, e5, Option.bind_some, eo, jy]
 refine ⟨_, rfl, fun h => ?_⟩
 simp at h
 exact ⟨by omega, p1 h.2.1, p2 h.2.2.1, p3 h.2.2.2.1, p4 h.2.2.2.2.1, p5 (by omega)⟩
theorem wO {k : Nat} {t : ad} {rs : List aL} (ht : ∀ x ∈ t.nodes, x.attrs.length ≤ lF) (hr : ∀ r ∈ rs, wR r) (hk : 20000 < k) : ∃ b, scarfjointref40_Few k t rs = some (b, ()) ∧ (b = true → BT t ∧ rs.length ≤ 8 ∧ ∀ r ∈ rs, s7 41 r) := by
 obtain ⟨b1, e1, p1⟩ := xi (k := k) ht (by omega)
 simp only [scarfjointref40_Few, e1, Option.bind_some, eo, gN]
 cases hb : (!b1 || decide ((rs.length : Int) > 8)) with
 | true => exact ⟨false, rfl, fun h => by cases h⟩
 | false =>
  have hb' : b1 = true ∧ rs.length ≤ 8 := by simp at hb; exact ⟨hb.1, by omega⟩
  have L := mH (F := fun n (_ : Unit) i => scarfjointref40_Few.l0 k rs n i) rs (s7 41) (fun _ _ => True) (fun _ => ()) k () trivial (fun n _ _ => by simp only [scarfjointref40_Few.l0, aD, cond_false]) (fun n _ i x hx _ => by
   obtain ⟨b, e, p⟩ := xw (k := k) (hr x (dF hx)) hk
   simp only [scarfjointref40_Few.l0, aX (aN hx), cond_true, idx_some hx, e, Option.bind_some, wS (show i < 4611686018427387904 by have := aN hx; omega)]
   cases b with
   | false => exact .inl rfl
   | true => exact .inr ⟨(), trivial, p rfl, rfl⟩) (by omega)
  simp only [cond_false]
  rcases L with e | ⟨_, _, e, q⟩
  ·rw [e]; exact ⟨false, rfl, fun h => by cases h⟩
  ·rw [e]; exact ⟨true, rfl, fun _ => ⟨p1 hb'.1, hb'.2, q⟩⟩
theorem xp : bA 40000 = some (true, ()) := by kernel_rfl
end Go.Ev.Pl
end
section
namespace Go.Ev.Pl
theorem kN {E : dg} {n : Nat} {x : an E.C (.nm n)} (h : im E (.nm n) x) : im E (E.fld n) (E.proj n x) := by
 cases h; assumption
theorem bd {E : dg} {a b : Ty} {p : an E.C a × an E.C b} (h : im E (.pair a b) p) : im E a p.1 ∧ im E b p.2 := by
 cases h; exact ⟨by assumption, by assumption⟩
theorem ft {E : dg} {e : Ty} {l : List (an E.C e)} (h : im E (.slice e) l) : l.length ≤ lF ∧ ∀ x ∈ l, im E e x := by
 cases h with
 | slice _ _ hl h =>
  refine ⟨Nat.le_trans hl (by decide), fun x hx => ?_⟩
  obtain ⟨i, hi, rfl⟩ := List.getElem_of_mem hx
  exact h i _ (List.getElem?_eq_getElem hi)
theorem szT {t : ad} (h : im env (.nm 3) t) : ∀ x ∈ t.nodes, x.attrs.length ≤ lF := by
 have h1 : im env (.pair (.slice (.nm 1)) (.pair (.slice (.nm 2)) .unit)) (t.nodes, t.edges, ()) := kN h
 have h2 := (ft (bd h1).1).2
 intro x hx
 have h3 : im env (.pair .str (.pair (.int .i64) (.pair .bool (.pair (.slice (.nm 0)) .unit)))) (x.name, x.parent, x.abstract, x.attrs, ()) := kN (h2 x hx)
 exact (ft (bd (bd (bd (bd h3).2).2).2).1).1
theorem xU {m : aK} (h : im env (.nm 11) m) : m.nodes.length ≤ lF ∧ m.edges.length ≤ lF := by
 have h1 : im env (.pair (.slice (.int .i64)) (.pair (.slice (.int .i64)) .unit)) (m.nodes, m.edges, ()) := kN h
 exact ⟨(ft (bd h1).1).1, (ft (bd (bd h1).2).1).1⟩
theorem y0 {m : dS} (h : im env (.nm 10) m) : m.nodes.length ≤ lF ∧ m.edges.length ≤ lF := by
 have h1 : im env (.pair (.slice (.int .i64)) (.pair (.slice (.int .i64)) .unit)) (m.nodes, m.edges, ()) := kN h
 exact ⟨(ft (bd h1).1).1, (ft (bd (bd h1).2).1).1⟩
theorem xV : ∀ c : ae, im env (.nm 12) c → xk c
 | ⟨kind, kids, map, pattern⟩, h => by
  have h1 : im env (.pair (.int .i64) (.pair (.slice (.nm 12)) (.pair (.nm 11) (.pair (.nm 9) .unit)))) (kind, kids, map, pattern, ()) := kN h
  obtain ⟨k1, k2⟩ := ft (bd (bd h1).2).1
  obtain ⟨m1, m2⟩ := xU (bd (bd (bd h1).2).2).1
  exact .mk _ m1 m2 k1 fun d hd => xV d (k2 d hd)
termination_by c => SizeOf.sizeOf c
decreasing_by
 have hd : d ∈ kids := hd
 have := List.sizeOf_lt_of_mem hd
 simp
 omega
theorem yc {r : aL} (h : im env (.nm 13) r) : wR r := by
 have h1 : im env (.pair .str (.pair (.nm 9) (.pair (.nm 9) (.pair (.nm 10) (.pair (.nm 11) (.pair .bool (.pair (.nm 12) .unit))))))) (r.name, r.left, r.right, r.keep, r.into, r.injective, r.condition, ()) := kN h
 have h2 := (bd (bd (bd h1).2).2).2
 obtain ⟨p1, p2⟩ := y0 (bd h2).1
 obtain ⟨m1, m2⟩ := xU (bd (bd h2).2).1
 exact ⟨p1, p2, m1, m2, xV _ (bd (bd (bd (bd h2).2).2).2).1⟩
theorem xT {rs : List aL} (h : im env (.slice (.nm 13)) rs) : ∀ r ∈ rs, wR r := fun r hr => yc ((ft h).2 r hr)
end Go.Ev.Pl
end
section
set_option linter.unusedVariables false
namespace Go.Ev.Pl
theorem qX {α β : Type} (g : α → List β) (l : List α) : (List.range l.length).flatMap (fun i => (l[i]?).elim [] g) = l.flatMap g := by
 have h := congrArg (List.flatMap g) (kX l)
 rw [← h, List.flatMap_assoc]
 congr 1
 funext i
 cases l[i]? <;> simp
def pN (i : Nat) (e : a8) (x : Int) : List af := e.creates.map fun y => ⟨(i : Int), x, y, 1⟩
def tD (i : Nat) (e : a8) : List af := e.deletes.flatMap (pN i e)
def p0 (es : List a8) (i : Nat) : List af := (es[i]?).elim [] (tD i)
def mT (es : List a8) : List af := (List.range es.length).flatMap (p0 es)
def BE (e : a8) : Prop := e.deletes.length ≤ 32 ∧ e.creates.length ≤ 32
theorem s5 {t : ad} {g : ah} (h : jo t g) {nodes edges : List Int} (hn : ∀ x ∈ nodes, 0 ≤ x ∧ x < g.nodes.length) (he : ∀ x ∈ edges, 0 ≤ x ∧ x < g.edges.length) : (plS t g nodes edges).length ≤ 32 := by
 rw [← rJ h hn he]
 have h1 := h.ok.n
 have h2 := h.ok.e
 have := cr (f := vP t g nodes edges) (c := 1) (fun j => by unfold vP; cases (nodes.any (fun i => lI g i == (j : Int)) || edges.any (fun i => oZ t g i == (j : Int))) <;> simp) (t.nodes.length + t.edges.length)
 omega
theorem ug {n : Nat} {t : ad} {r : aL} (ht : BT t) (h : ii n t r = 0) : BE (mX t r) := by
 obtain ⟨_, ok⟩ := sa ht h
 exact ⟨s5 ok.left (fun x hx => cx hx) (fun x hx => cx hx), s5 ok.right (fun x hx => cx hx) (fun x hx => cx hx)⟩
theorem mI {e : a8} (h : BE e) (i : Nat) (x : Int) : (pN i e x).length ≤ 32 := by simp only [pN, List.length_map]; exact h.2
theorem tT {e : a8} (h : BE e) (i : Nat) : (tD i e).length ≤ 1024 := by
 have h1 := h.1
 have := cr (f := fun j => (e.deletes[j]?).elim [] (pN i e)) (c := 32) (fun j => by cases e.deletes[j]? with
  | none => simp
  | some x => exact mI h i x) e.deletes.length
 rw [qX] at this
 simp only [tD]; omega
theorem mD {es : List a8} (h : ∀ e ∈ es, BE e) (i : Nat) : (p0 es i).length ≤ 1024 := by
 unfold p0
 cases he : es[i]? with
 | none => simp
 | some e => exact tT (h e (dF he)) i
theorem tQ {es : List a8} (h : ∀ e ∈ es, BE e) (hl : es.length ≤ 6) : (mT es).length ≤ 6144 := by
 have := cr (mD h) es.length
 simp only [mT]; omega
theorem wU {k : Nat} {es : List a8} (h : ∀ e ∈ es, BE e) (hl : es.length ≤ 6) (hk : 20000 < k) : layering_demands k es = some (mT es, ()) := by
 have l0 := gx (F := fun n acc i => layering_demands.l0 k n acc es es.length i) es.length (p0 es) (fun acc => some (acc, ())) [] k (fun n acc => by simp only [layering_demands.l0, aD, cond_false]) (fun n acc i hi hacc => by
  have hx : es[i]? = some es[i] := List.getElem?_eq_getElem hi
  have hb := h _ (List.getElem_mem hi)
  have ha : acc.length ≤ 1024 * i := by rw [hacc, List.nil_append]; exact cr (mD h) i
  have hb1 := hb.1
  have hb2 := hb.2
  have l2 := gx (F := fun n acc j => layering_demands.l2 n acc i es[i] es es.length i es[i].deletes es[i].deletes.length j) es[i].deletes.length (fun j => (es[i].deletes[j]?).elim [] (pN i es[i])) (fun acc => some (acc, es, (es.length : Int), (i : Int), ())) acc k (fun n acc => by simp only [layering_demands.l2, aD, cond_false]) (fun n acc' j hj hacc' => by
   have hy : es[i].deletes[j]? = some es[i].deletes[j] := List.getElem?_eq_getElem hj
   have ha' : acc'.length ≤ 1024 * i + 32 * j := by
    have := cr (f := fun j => (es[i].deletes[j]?).elim [] (pN i es[i])) (c := 32) (fun j => by cases es[i].deletes[j]? with
     | none => simp
     | some x => exact mI hb i x) j
    rw [hacc', List.length_append]; omega
   have l4 := gx (F := layering_demands.l4 i es[i] es[i].deletes[j] es es.length i es[i].deletes es[i].deletes.length j es[i].creates es[i].creates.length) es[i].creates.length (fun q => (es[i].creates[q]?).elim [] fun y => [(⟨(i : Int), es[i].deletes[j], y, 1⟩ : af)]) (fun acc => some (acc, (i : Int), es[i], es, (es.length : Int), (i : Int), es[i].deletes, (es[i].deletes.length : Int), (j : Int), ())) acc' (Int.toNat (es[i].creates.length : Int) + 1) (fun n acc => by simp only [layering_demands.l4, aD, cond_false]) (fun n a q hq hqa => by
    have hz : es[i].creates[q]? = some es[i].creates[q] := List.getElem?_eq_getElem hq
    have haa : a.length ≤ 1024 * i + 32 * j + 1 * q := by
     have := cr (f := fun q => (es[i].creates[q]?).elim [] fun y => [(⟨(i : Int), es[i].deletes[j], y, 1⟩ : af)]) (c := 1) (fun q => by cases es[i].creates[q]? <;> simp) q
     rw [hqa, List.length_append]; omega
    simp only [layering_demands.l4, aX hq, cond_true, idx_some hz, hz, Option.bind_some, Option.elim, List.length_cons, List.length_nil, Nat.zero_add, bP (show a.length + 1 ≤ 1000000 by omega), wS (show q < 4611686018427387904 by omega)]) (by omega)
   rw [fY (fun y => (⟨(i : Int), es[i].deletes[j], y, 1⟩ : af))] at l4
   simp only [layering_demands.l2, aX hj, cond_true, idx_some hy, hy, l4, Option.bind_some, Option.elim, wS (show j < 4611686018427387904 by omega)]
   rfl) (by omega)
  rw [qX] at l2
  simp only [layering_demands.l0, aX hi, cond_true, idx_some hx, l2, Option.bind_some, p0, hx, Option.elim, tD, wS (show i < 4611686018427387904 by omega)]) (by omega)
 rw [layering_demands, l0]
 rfl
theorem xd {k n : Nat} {t : ad} {rs : List aL} (ht : BT t) (hr : ∀ r ∈ rs, s7 n r) (ok : wT n t rs) (hk : 20000 + n < k) : scarfjointref40_demands k t rs = some (mT (rs.map (mX t)), ()) := by
 have hl := ok.l
 have h : ∀ e ∈ rs.map (mX t), BE e := fun e he => by
  obtain ⟨r, hr, rfl⟩ := List.mem_map.1 he
  exact ug ht (ok.e r hr)
 have l0 := gx (F := fun n acc i => scarfjointref40_demands.l0 k n rs t acc i) rs.length (p0 (rs.map (mX t))) (fun acc => some (acc, ())) [] k (fun n acc => by simp only [scarfjointref40_demands.l0, aD, cond_false]) (fun n' acc i hi hacc => by
  have hx : rs[i]? = some rs[i] := List.getElem?_eq_getElem hi
  have hmem := List.getElem_mem hi
  have hb := ug ht (ok.e _ hmem)
  have ha : acc.length ≤ 1024 * i := by rw [hacc, List.nil_append]; exact cr (mD h) i
  have hD := mK (k := k) ht (hr _ hmem) (ok.e _ hmem) hk
  have hm : (rs.map (mX t))[i]? = some (mX t rs[i]) := by simp [hx]
  generalize hE : mX t rs[i] = E at *
  have hb1 := hb.1
  have hb2 := hb.2
  have l2 := gx (F := fun n acc j => scarfjointref40_demands.l2 k n rs t acc i E.deletes E.creates j) E.deletes.length (fun j => (E.deletes[j]?).elim [] (pN i E)) (fun acc => some (rs, t, acc, (i : Int), ())) acc k (fun n acc => by simp only [scarfjointref40_demands.l2, aD, cond_false]) (fun n acc' j hj hacc' => by
   have hy : E.deletes[j]? = some E.deletes[j] := List.getElem?_eq_getElem hj
   have ha' : acc'.length ≤ 1024 * i + 32 * j := by
    have := cr (f := fun j => (E.deletes[j]?).elim [] (pN i E)) (c := 32) (fun j => by cases E.deletes[j]? with
     | none => simp
     | some x => exact mI hb i x) j
    rw [hacc', List.length_append]; omega
   have l4 := gx (F := scarfjointref40_demands.l4 rs t i E.deletes E.creates j) E.creates.length (fun q => (E.creates[q]?).elim [] fun y => [(⟨(i : Int), E.deletes[j], y, 1⟩ : af)]) (fun acc => some (rs, t, acc, (i : Int), E.deletes, E.creates, (j : Int), ())) acc' k (fun n acc => by simp only [scarfjointref40_demands.l4, aD, cond_false]) (fun n a q hq hqa => by
    have hz : E.creates[q]? = some E.creates[q] := List.getElem?_eq_getElem hq
    have haa : a.length ≤ 1024 * i + 32 * j + 1 * q := by
     have := cr (f := fun q => (E.creates[q]?).elim [] fun y => [(⟨(i : Int), E.deletes[j], y, 1⟩ : af)]) (c := 1) (fun q => by cases E.creates[q]? <;> simp) q
     rw [hqa, List.length_append]; omega
    simp only [scarfjointref40_demands.l4, aX hq, aX hj, jF, Bool.and_true, cond_true, Int.toNat_natCast, fm hz, fm hy, hz, Option.bind_some, Option.elim, List.length_cons, List.length_nil, Nat.zero_add, bP (show a.length + 1 ≤ 1000000 by omega), wS (show q < 4611686018427387904 by omega)]) (by omega)
   rw [fY (fun y => (⟨(i : Int), E.deletes[j], y, 1⟩ : af))] at l4
   simp only [scarfjointref40_demands.l2, aX hj, cond_true, hy, l4, Option.bind_some, Option.elim, wS (show j < 4611686018427387904 by omega)]
   rfl) (by omega)
  rw [qX] at l2
  simp only [scarfjointref40_demands.l0, aX hi, cond_true, idx_some hx, hD.1, hD.2, l2, Option.bind_some, p0, hm, Option.elim, tD, wS (show i < 4611686018427387904 by omega)]) (by omega)
 rw [scarfjointref40_demands, l0, mT, List.length_map]
 rfl
def uA (x y : af) : Bool := (x.rule == y.rule) && ((x.frm == y.frm) && ((x.to == y.to) && ((x.strict == y.strict) && true)))
theorem wv (l : List af) (x : af) : eZ l x = g8 l (fun y => some (uA x y.1)) := by kernel_rfl
def kH (l : List af) (last : af) : Nat → af
 | 0 => last
 | j + 1 => (l[j]?).getD last
def nY (all l : List af) (last : af) (i : Nat) (x : af) : Option (Bool × Unit) := cond (!(all.any (uA x)) || x.frm != (kH l last i).to) (some (false, ())) none
theorem wP {all l : List af} (last : af) (ha : all.length ≤ 10000) (hl : l.length ≤ 1000) : layering_CheckReason.l0 all l l.length (Int.toNat (l.length : Int) + 1) last.to 0 = some ((cm (nY all l last) l).elim (.inl ()) .inr) := by
 have := cl (F := fun n q => layering_CheckReason.l0 all l l.length n (kH l last q.toNat).to q) l () (nY all l last) (Int.toNat (l.length : Int) + 1) (fun n => by simp only [layering_CheckReason.l0, aD, cond_false]) (fun n i x hx _ => by
  have hi := aN hx
  have e : (kH l last (i + 1)) = x := by simp [kH, hx]
  simp only [layering_CheckReason.l0, nY, aX hi, cond_true, idx_some hx, Option.bind_some, wv, bG (l := all) (q := fun y => some (uA x y.1)) (p := uA x) (fun _ _ => rfl) (cS ha (by omega)), eo, gN, de, Int.toNat_natCast, e, wS (show i < 4611686018427387904 by omega)]) (by omega)
 exact this
theorem wW {k : Nat} {all l : List af} (last : af) (ha : all.length ≤ 10000) (hl : l.length ≤ 1000) (hk : 20000 < k) : scarfjointref40_CheckReason.l0 k k l all last 0 = some ((cm (nY all l last) l).elim (.inl ()) .inr) := by
 have := cl (F := fun n q => scarfjointref40_CheckReason.l0 k n l all (kH l last q.toNat) q) l () (nY all l last) k (fun n => by simp only [scarfjointref40_CheckReason.l0, aD, cond_false]) (fun n i x hx _ => by
  have hi := aN hx
  have e : (kH l last (i + 1)) = x := by simp [kH, hx]
  have l2 := qg (F := scarfjointref40_CheckReason.l2 l all (kH l last i) i) all (fun s => some (l, all, kH l last i, (i : Int), s, ())) (fun y s => cond s true (uA y x)) k false (fun n s => by simp only [scarfjointref40_CheckReason.l2, aD, cond_false]) (fun n s j y hy => by
   simp only [scarfjointref40_CheckReason.l2, aX (aN hy), jF, Bool.and_true, cond_true, Int.toNat_natCast, fm hy, idx_some hx, Option.bind_some, eo, wS (show j < 4611686018427387904 by have := aN hy; omega), uA]) (by omega)
  rw [lU (fun y => uA y x), Bool.false_or, jE (q := uA x) (fun y _ => by simp only [uA]; rw [Bool.eq_iff_iff]; simp; intros; constructor <;> (rintro ⟨a, b, c, d⟩; exact ⟨a.symm, b.symm, c.symm, d.symm⟩))] at l2
  simp only [scarfjointref40_CheckReason.l0, nY, aX hi, cond_true, l2, idx_some hx, Option.bind_some, eo, gN, de, Int.toNat_natCast, e, wS (show i < 4611686018427387904 by omega)]) (by omega)
 exact this
theorem qP {es : List a8} {y : af} (h : y ∈ mT es) : y.strict = 1 := by
 obtain ⟨i, _, hy⟩ := List.mem_flatMap.1 h
 unfold p0 at hy
 cases he : es[i]? with
 | none => rw [he] at hy; simp at hy
 | some e =>
  rw [he] at hy
  obtain ⟨x, _, hy⟩ := List.mem_flatMap.1 hy
  obtain ⟨z, _, rfl⟩ := List.mem_map.1 hy
  rfl
theorem qF {α B : Type} {g : Nat → α → Option B} {l : List α} {x : α} {b : B} (h : l[0]? = some x) (hg : g 0 x = some b) : cm g l = some b := by
 cases l with
 | nil => cases h
 | cons y r => cases h; rw [cm, List.length_cons, cP]; simp only [List.getElem?_cons_zero, Option.bind_some, hg]
theorem t7 {k n : Nat} {t : ad} {rs : List aL} {l : List af} (ht : BT t) (hr : ∀ r ∈ rs, s7 n r) (hrl : rs.length ≤ 1000) (hl : l.length ≤ 1000) (hk : 20000 + n < k) :
  ∃ b, layering_CheckReason k t rs l = some (b, ()) ∧ scarfjointref40_CheckReason k t rs l = some (b, ()) := by
 simp only [layering_CheckReason, scarfjointref40_CheckReason, vo ht hr hrl hk, vf ht hr hrl hk, Option.bind_some, eo, gN]
 cases h0 : (pQ n t rs != 0) with
 | true => exact ⟨false, rfl, rfl⟩
 | false =>
  have ok := uO (show pQ n t rs = 0 by simpa using h0)
  have hes : ∀ e ∈ rs.map (mX t), BE e := fun e he => by
   obtain ⟨r, hr, rfl⟩ := List.mem_map.1 he
   exact ug ht (ok.e r hr)
  have hesl : (rs.map (mX t)).length ≤ 6 := by rw [List.length_map]; exact ok.l
  have hdl := tQ hes hesl
  cases h1 : (((l.length : Int) == 0) || decide ((l.length : Int) > 40)) with
  | true => exact ⟨false, rfl, rfl⟩
  | false =>
   have hl1 : 0 < l.length := by
    cases l with
    | nil => cases h1
    | cons x r => simp
   have hx : l[0]? = some l[0] := List.getElem?_eq_getElem hl1
   have hx0 : aF l 0 = some l[0] := idx_some (i := 0) hx
   have ew : IntKind.i64.wrap ((l.length : Int) - 1) = ((l.length - 1 : Nat) : Int) := by rw [jO (by omega) (by omega)]; omega
   have hlast : l[l.length - 1]? = some l[l.length - 1] := List.getElem?_eq_getElem (by omega)
   simp only [Bool.false_or, cond_false, hx0, Option.bind_some, jy, wU hes hesl (show 20000 < k by omega), xd ht hr ok hk, ew, idx_some hlast, wP (all := mT (rs.map (mX t))) l[l.length - 1] (by omega) hl, wW (k := k) (all := mT (rs.map (mX t))) l[l.length - 1] (by omega) hl (by omega)]
   have fin : ∀ o : Option (Bool × Unit), ∃ b, ((some (o.elim (Sum.inl ()) Sum.inr)).bind fun o => aG o (fun _ => some (true, ())) (fun z => some (z.1, ()))) = some (b, ()) := fun o => by cases o <;> exact ⟨_, rfl⟩
   obtain ⟨b, hb⟩ := fin (cm (nY (mT (rs.map (mX t))) l l[l.length - 1]) l)
   cases hs : (l[0].strict == 0) with
   | false =>
    rw [Bool.and_false, cond_false, cond_false]
    exact ⟨b, hb, hb⟩
   | true =>
    rw [Bool.and_true, cond_true]
    cases hl2 : ((l.length : Int) == 1) with
    | true =>
     rw [cond_true, cond_true]
     by_cases hru : 0 ≤ l[0].rule ∧ l[0].rule < rs.length
     ·obtain ⟨r, r1, r2, r3⟩ := bC hru.1 hru.2
      have d1 : decide (l[0].rule ≥ 0) = true := decide_eq_true hru.1
      have d2 : decide (l[0].rule < (rs.length : Int)) = true := decide_eq_true hru.2
      have d3 : decide (0 ≤ l[0].rule) = true := decide_eq_true hru.1
      have e1 : nth (rs.map (mX t)) (Int.toNat l[0].rule) = some (mX t r) := by simp [nth, r2]
      have hD := mK (k := k) ht (hr r r3) (ok.e r r3) hk
      simp only [List.length_map, d1, d2, d3, Bool.and_self, cond_true, e1, r1, hD.1, Option.bind_some, eo, jy]
      exact ⟨_, rfl, rfl⟩
     ·have d1 : (decide (l[0].rule ≥ 0) && decide (l[0].rule < (rs.length : Int))) = false := by simp; omega
      rcases Bool.and_eq_false_iff.1 d1 with d | d
      ·simp only [d, cond_false, Option.bind_some]
       refine ⟨false, ?_, rfl⟩
       cases (l[0].frm == -1) <;> cases (l[0].to == -1) <;> rfl
      ·simp only [List.length_map, d, cond_false, Option.bind_some]
       refine ⟨false, ?_, ?_⟩
       ·cases (l[0].frm == -1) <;> cases (l[0].to == -1) <;> cases decide (l[0].rule ≥ 0) <;> rfl
       ·cases decide (l[0].rule ≥ 0) <;> rfl
    | false =>
     rw [cond_false, cond_false]
     refine ⟨false, ?_, rfl⟩
     have hf : (mT (rs.map (mX t))).any (uA l[0]) = false := by
      rw [List.any_eq_false]
      intro y hy
      have h1 := qP hy
      have h2 : l[0].strict = 0 := by simpa using hs
      simp [uA, h1, h2]
     have : cm (nY (mT (rs.map (mX t))) l l[l.length - 1]) l = some (false, ()) := by
      exact qF hx (by simp only [nY, hf, Bool.not_false, Bool.true_or, cond_true])
     rw [this]; rfl
theorem n7 {k : Nat} {t : ad} {rs : List aL} {l : List af} (ht : ∀ x ∈ t.nodes, x.attrs.length ≤ lF) (hr : ∀ r ∈ rs, wR r) (hk : 30000 < k) (aw : bA k = some (true, ())) : ay k t rs l = some (true, ()) := by
 obtain ⟨b, e1, p1⟩ := wO (k := k) ht hr (by omega)
 simp only [ay, aw, e1, Option.bind_some, Bool.not_true, cond_false, eo, gN]
 cases h : (!b || decide ((l.length : Int) > 50)) with
 | true => rfl
 | false =>
  have hb : b = true ∧ l.length ≤ 50 := by simp at h; exact ⟨h.1, by omega⟩
  obtain ⟨bt, rl, br⟩ := p1 hb.1
  obtain ⟨c, c1, c2⟩ := t7 (k := k) (l := l) bt br (by omega) (by omega) (by omega)
  simp only [cond_false, jf (show l.length ≤ 1000000 by omega), c1, c2, Option.bind_some, beq_self_eq_true]
  rfl
end Go.Ev.Pl
end
