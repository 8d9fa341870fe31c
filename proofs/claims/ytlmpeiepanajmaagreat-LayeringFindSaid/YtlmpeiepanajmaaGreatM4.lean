import Derived.Shelf.Small.Strs
import Derived.Shelf.Sort.Plain
import Derived.Shelf.Slices.In.SortNone
import Derived.Test.YtlmpeiepanajmaaGreatProg
import Derived.Test.YtlmpeiepanajmaaGreatM3
set_option linter.all false
section
namespace Go.Ev
def je : Code → Nat → List (Nat × Code)
 | .seq a b, i => je a i ++ je b i
 | .cond _ a b, i => je a i ++ je b i
 | .block id c, _ => je c id
 | .loop c, i => (i, c) :: je c i
 | _, _ => []
def zu : List (Nat × Code) → Bool
 | [] => true
 | (b, _) :: r => r.all (fun q => !(Nat.beq b q.1)) && zu r
def iC (b : Nat) : List (Nat × Code) → Option Code
 | [] => none
 | (i, c) :: r => cond (Nat.beq i b) (some c) (iC b r)
theorem m4 (b : Nat) : ∀ l m : List (Nat × Code), iC b (l ++ m) = match iC b l with | some c => some c | none => iC b m
 | [], m => rfl
 | (i, c) :: r, m => by
  rw [List.cons_append, iC, iC]
  cases Nat.beq i b with
  | true => rfl
  | false => exact m4 b r m
theorem k0 (b : Nat) : ∀ (c : Code) (i : Nat), hG b c i = iC b (je c i) := by
 intro c
 induction c with
 | seq x y ih1 ih2 => intro i; rw [hG, je, m4, ih1, ih2]; cases iC b (je x i) <;> rfl
 | cond c x y ih1 ih2 => intro i; rw [hG, je, m4, ih1, ih2]; cases iC b (je x i) <;> rfl
 | block id c ih => intro i; rw [hG, je, ih]
 | loop c ih => intro i; rw [hG, je, iC, ih]
 | _ => intro i; rfl
theorem nQ {b : Nat} {c : Code} : ∀ {l : List (Nat × Code)}, iC b l = some c → (b, c) ∈ l
 | [], h => by cases h
 | (i, d) :: r, h => by
  rw [iC] at h
  cases hb : Nat.beq i b with
  | true => rw [hb] at h; cases h; rw [Nat.eq_of_beq_eq_true hb]; simp
  | false => rw [hb] at h; exact List.mem_cons_of_mem _ (nQ h)
theorem lT {b : Nat} {c : Code} : ∀ {l : List (Nat × Code)}, zu l = true → (b, c) ∈ l → iC b l = some c
 | [], _, h => by simp at h
 | (i, d) :: r, hn, h => by
  simp only [zu, Bool.and_eq_true] at hn
  rw [iC]
  rcases List.mem_cons.1 h with e | h
  ·cases e; rw [show Nat.beq b b = true by simp]; rfl
  ·have := List.all_eq_true.1 hn.1 _ h
   cases hb : Nat.beq i b with
   | true => rw [hb] at this; cases this
   | false => exact lT hn.2 h
theorem mS : ∀ (c : Code) (i : Nat), ∀ q ∈ gh c i, q ∈ je c i := by
 intro c
 induction c with
 | seq x y ih1 ih2 => intro i q h; exact (List.mem_append.1 h).elim (fun h => List.mem_append_left _ (ih1 i q h)) fun h => List.mem_append_right _ (ih2 i q h)
 | cond c x y ih1 ih2 => intro i q h; exact (List.mem_append.1 h).elim (fun h => List.mem_append_left _ (ih1 i q h)) fun h => List.mem_append_right _ (ih2 i q h)
 | block id c ih => intro i q h; exact ih id q h
 | loop c ih => intro i q h; simp only [gh, List.mem_singleton] at h; subst h; simp [je]
 | _ => intro i q h; cases h
theorem wq : ∀ (c : Code) (i b : Nat) (d : Code), (b, d) ∈ je c i → ∀ q ∈ je d b, q ∈ je c i := by
 intro c
 induction c with
 | seq x y ih1 ih2 => intro i b d h q hq; exact (List.mem_append.1 h).elim (fun h => List.mem_append_left _ (ih1 i b d h q hq)) fun h => List.mem_append_right _ (ih2 i b d h q hq)
 | cond c x y ih1 ih2 => intro i b d h q hq; exact (List.mem_append.1 h).elim (fun h => List.mem_append_left _ (ih1 i b d h q hq)) fun h => List.mem_append_right _ (ih2 i b d h q hq)
 | block id c ih => intro i b d h q hq; exact ih id b d h q hq
 | loop c ih =>
  intro i b d h q hq
  rcases List.mem_cons.1 h with e | h
  ·cases e; exact List.mem_cons_of_mem _ hq
  ·exact List.mem_cons_of_mem _ (ih i b d h q hq)
 | _ => intro i b d h; cases h
def ze (f : Func) : Bool := zu (je (eL f) 0)
section
variable {P : Program} {E : dD} {F : List (Nat × cm E.C)}
structure Cs (P : Program) (E : dD) (F : List (Nat × cm E.C)) : Prop where
 t : eQ P E
 m : P.follows .mixedOrders = true
 f : jb P E F
 c : dm P F
theorem cf {f : Nat} {sp : l7 E.C} (h : fT P E f sp) (k : Cs P E F) : Cs P E ((f, .f sp) :: F) := ⟨k.t, k.m, wF h k.f, xq k.c⟩
theorem cc {f : Nat} {sp : ma E.C} (h : mO P E f sp) (k : Cs P E F) : Cs P E ((f, .c sp) :: F) := ⟨k.t, k.m, wK k.f, wV h k.c⟩
structure rk (P : Program) (E : dD) (f : Func) (pins : List Nat) (Ls : List (Nat × ro E)) : Prop where
 i : ze f = true
 h : ∀ b p, qW b Ls = some p → gf pins p.head.at_ p.head.sh = true ∧ lf P E pins f.ntmps (jJ f b) p
variable {f : Func} {pins : List Nat} {Ls : List (Nat × ro E)}
theorem rk.top (l : rk P E f pins Ls) (js : List (Nat × List (Nat × Ty))) : dZ P E ⟨Ls, js, pins⟩ f.ntmps (eL f) 0 := by
 refine im fun b c hm p hp => ?_
 have h1 := lT l.i (mS _ _ _ hm)
 have := l.h b p hp
 rwa [jJ, k0, h1] at this
theorem rk.at (l : rk P E f pins Ls) (js : List (Nat × List (Nat × Ty))) (b : Nat) : dZ P E ⟨Ls, js, pins⟩ f.ntmps (jJ f b) b := by
 rw [jJ, k0]
 cases h0 : iC b (je (eL f) 0) with
 | none => trivial
 | some d =>
  refine im fun b' c hm p hp => ?_
  have h1 := lT l.i (wq _ _ _ _ (nQ h0) _ (mS _ _ _ hm))
  have := l.h b' p hp
  rwa [jJ, k0, h1] at this
theorem ln (c : Cs P E F) (f : Func) (pins : List Nat) (h : ze f = true) : rk P E f pins [] := ⟨h, fun b p h => by cases h⟩
theorem lc (c : Cs P E F) (l : rk P E f pins Ls) (js : List (Nat × List (Nat × Ty))) (b : Nat) (hd : pW) (ws : List (rX × pW)) (call : Nat → an E.C hd.ty → Option (an E.C (kv ws))) (fuel : an E.C hd.ty → Nat)
  (h0 : ∀ x, none = call 0 x) (hs : ∀ n x, kD E F ⟨Ls, js, pins⟩ f.ntmps (jJ f b) b hd ws (call n) some x = call (n + 1) x) (h1 : (gf pins hd.at_ hd.sh && lR pins ws) = true) :
  rk P E f pins ((b, ⟨hd, ws, fun x => call (fuel x) x⟩) :: Ls) := by
 rw [Bool.and_eq_true] at h1
 refine ⟨l.i, fun b' p hp => ?_⟩
 rw [qW] at hp
 cases hb : Nat.beq b' b with
 | false => rw [hb] at hp; exact l.h b' p hp
 | true =>
  rw [hb] at hp
  cases hp
  obtain rfl := Nat.eq_of_beq_eq_true hb
  refine ⟨h1.1, qd c.t c.c c.f c.m (A := ⟨Ls, js, pins⟩) (b := b') fuel (fun x => ?_) (l.at js b') h1.1 h1.2⟩
  have key : ∀ n, ql (fun next x => kD E F ⟨Ls, js, pins⟩ f.ntmps (jJ f b') b' hd ws next some x) n = call n := by
   intro n
   induction n with
   | zero => exact funext fun x => h0 x
   | succ n ih => exact funext fun x => (congrArg (fun g => kD E F ⟨Ls, js, pins⟩ f.ntmps (jJ f b') b' hd ws g some x) ih).trans (hs n x)
  exact (congrFun (key (fuel x)) x).symm
def fB (f : Func) (pins : List Nat) (ins outs : List Sh) : Bool := f.body.isSome && (!(f.name == "runtime.NumGoroutine") && sl pins f.ntmps ins outs)
theorem p8 {f : Func} (h : f.body.isSome = true) : f.body = some (eL f) := by
 unfold eL
 cases hb : f.body with
 | none => rw [hb] at h; cases h
 | some c => rfl
theorem fo (c : Cs P E F) (l : rk P E f pins Ls) (js : List (Nat × List (Nat × Ty))) {i : FuncId} (hf : P.funcs[i]? = some f) {ins outs : List Sh} {fn : an E.C (bf ins) → Option (an E.C (bf outs))}
  (h : fB f pins ins outs = true) (he : ∀ x, yd E F ⟨Ls, js, pins⟩ f ins outs x = fn x) : fT P E i ⟨ins, outs, fn⟩ := by
 simp only [fB, Bool.and_eq_true, Bool.not_eq_true'] at h
 exact rj c.t c.c c.f c.m (A := ⟨Ls, js, pins⟩) hf (p8 h.1) h.2.1 h.2.2 (l.top js) he
theorem f0 (c : Cs P E F) (pins : List Nat) (js : List (Nat × List (Nat × Ty))) {i : FuncId} (hf : P.funcs[i]? = some f) {ins outs : List Sh} {fn : an E.C (bf ins) → Option (an E.C (bf outs))}
  (h : fB f pins ins outs = true) (he : ∀ x, yd E F ⟨[], js, pins⟩ f ins outs x = fn x) : fT P E i ⟨ins, outs, fn⟩ := by
 simp only [fB, Bool.and_eq_true, Bool.not_eq_true'] at h
 exact rj c.t c.c c.f c.m (A := ⟨[], js, pins⟩) hf (p8 h.1) h.2.1 h.2.2 (im fun b c _ p hp => by cases hp) he
def cB (f : Func) (caps d c : Ty) : Bool := f.body.isSome && (!(f.name == "runtime.NumGoroutine") && (Nat.ble (aY d ++ aY caps).length f.ntmps && (gp caps && (gp d && gp c))))
theorem c0 (c : Cs P E F) (js : List (Nat × List (Nat × Ty))) {i : FuncId} (hf : P.funcs[i]? = some f) {caps d cc : Ty} {fn : an E.C caps → an E.C d → Option (an E.C cc)}
  (h : cB f caps d cc = true) (he : ∀ x y, xF E F ⟨[], js, []⟩ f (aY d ++ aY caps) cc (nz E caps y d x) = fn y x) : mO P E i ⟨caps, d, cc, fn⟩ := by
 simp only [cB, Bool.and_eq_true, Bool.not_eq_true'] at h
 exact uW c.t c.c c.f c.m (A := ⟨[], js, []⟩) hf (p8 h.1) h.2.1 h.2.2.1 (im fun b c _ p hp => by cases hp) h.2.2.2.1 h.2.2.2.2.1 h.2.2.2.2.2 he
end
abbrev HI : Sh := .hole (.int .i64)
abbrev HB : Sh := .hole .bool
abbrev HS : Sh := .hole .str
abbrev HN (n : Nat) : Sh := .hole (.nm n)
abbrev HL (t : Ty) : Sh := .hole (.slice t)
abbrev RI : Sh := .rowh (.int .i64)
abbrev RN (n : Nat) : Sh := .rowh (.nm n)
end Go.Ev
end
section
namespace Go.Ev
structure bX where
 name : ByteArray
 low : Int
 high : Int
 names : List ByteArray
structure bi where
 name : ByteArray
 parent : Int
 abstract : Bool
 attrs : List bX
structure bu where
 name : ByteArray
 frm : Int
 to : Int
 outLow : Int
 outHigh : Int
 inLow : Int
 inHigh : Int
structure ad where
 nodes : List bi
 edges : List bu
structure Edge where
 typ : Int
 frm : Int
 to : Int
structure ah where
 nodes : List Int
 edges : List Edge
structure nj where
 var : Int
 add : Int
structure dV where
 node : Int
 attr : Int
 term : nj
structure dN where
 kind : Int
 left : nj
 right : nj
structure aj where
 graph : ah
 slots : List dV
 vars : Int
 tests : List dN
structure eB where
 nodes : List Int
 edges : List Int
structure aP where
 nodes : List Int
 edges : List Int
structure ae where
 kind : Int
 kids : List ae
 map : aP
 pattern : aj
structure aH where
 name : ByteArray
 left : aj
 right : aj
 keep : eB
 into : aP
 injective : Bool
 condition : ae
structure aO where
 rule : Int
 frm : Int
 to : Int
 strict : Int
structure bM where
 rules : List Int
 nodes : List Int
 edges : List Int
structure iH where
 nodes : List (List Int)
 edges : List (List Int)
structure iF where
 nodes : List Int
 edges : List (List Int)
structure gz where
 graph : iF
 slots : List (List Int)
 tests : List (List Int)
structure cY where
 left : gz
 keep : Int
 nodes : List Int
 edges : List (List Int)
 slots : List (List Int)
 plain : Bool
 injective : Bool
 forbid : List Int
 order : List Int
structure gH where
 nodes : List (List Int)
 edges : List (List Int)
 rules : List cY
 host : iH
structure wn where
 graph : ah
 values : List (List Int)
structure a8 where
 deletes : List Int
 creates : List Int
structure eE where
 kind : Int
 text : ByteArray
 line : Int
def yL : Nat → Type
 | 0 => bX
 | 1 => bi
 | 2 => bu
 | 3 => ad
 | 4 => Edge
 | 5 => ah
 | 6 => nj
 | 7 => dV
 | 8 => dN
 | 9 => aj
 | 10 => eB
 | 11 => aP
 | 12 => ae
 | 13 => aH
 | 14 => aO
 | 15 => bM
 | 16 => iH
 | 17 => iF
 | 18 => gz
 | 19 => cY
 | 20 => gH
 | 21 => wn
 | 22 => a8
 | 23 => eE
 | _ + 24 => Unit
def rU : Nat → Ty
 | 0 => (.pair .str (.pair (.int .i64) (.pair (.int .i64) (.pair (.slice .str) .unit))))
 | 1 => (.pair .str (.pair (.int .i64) (.pair .bool (.pair (.slice (.nm 0)) .unit))))
 | 2 => (.pair .str (.pair (.int .i64) (.pair (.int .i64) (.pair (.int .i64) (.pair (.int .i64) (.pair (.int .i64) (.pair (.int .i64) .unit)))))))
 | 3 => (.pair (.slice (.nm 1)) (.pair (.slice (.nm 2)) .unit))
 | 4 => (.pair (.int .i64) (.pair (.int .i64) (.pair (.int .i64) .unit)))
 | 5 => (.pair (.slice (.int .i64)) (.pair (.slice (.nm 4)) .unit))
 | 6 => (.pair (.int .i64) (.pair (.int .i64) .unit))
 | 7 => (.pair (.int .i64) (.pair (.int .i64) (.pair (.nm 6) .unit)))
 | 8 => (.pair (.int .i64) (.pair (.nm 6) (.pair (.nm 6) .unit)))
 | 9 => (.pair (.nm 5) (.pair (.slice (.nm 7)) (.pair (.int .i64) (.pair (.slice (.nm 8)) .unit))))
 | 10 => (.pair (.slice (.int .i64)) (.pair (.slice (.int .i64)) .unit))
 | 11 => (.pair (.slice (.int .i64)) (.pair (.slice (.int .i64)) .unit))
 | 12 => (.pair (.int .i64) (.pair (.slice (.nm 12)) (.pair (.nm 11) (.pair (.nm 9) .unit))))
 | 13 => (.pair .str (.pair (.nm 9) (.pair (.nm 9) (.pair (.nm 10) (.pair (.nm 11) (.pair .bool (.pair (.nm 12) .unit)))))))
 | 14 => (.pair (.int .i64) (.pair (.int .i64) (.pair (.int .i64) (.pair (.int .i64) .unit))))
 | 15 => (.pair (.slice (.int .i64)) (.pair (.slice (.int .i64)) (.pair (.slice (.int .i64)) .unit)))
 | 16 => (.pair (.slice (.arr 2 (.int .u8))) (.pair (.slice (.arr 3 (.int .u8))) .unit))
 | 17 => (.pair (.slice (.int .u8)) (.pair (.slice (.arr 3 (.int .u8))) .unit))
 | 18 => (.pair (.nm 17) (.pair (.slice (.arr 3 (.int .u8))) (.pair (.slice (.arr 4 (.int .i8))) .unit)))
 | 19 => (.pair (.nm 18) (.pair (.int .u64) (.pair (.slice (.int .u8)) (.pair (.slice (.arr 3 (.int .u8))) (.pair (.slice (.arr 3 (.int .u8))) (.pair .bool (.pair .bool (.pair (.arr 4 (.int .u8)) (.pair (.slice (.int .u8)) .unit)))))))))
 | 20 => (.pair (.slice (.arr 2 (.int .u8))) (.pair (.slice (.arr 2 (.int .u8))) (.pair (.slice (.nm 19)) (.pair (.nm 16) .unit))))
 | 21 => (.pair (.nm 5) (.pair (.slice (.slice (.int .i64))) .unit))
 | 22 => (.pair (.slice (.int .i64)) (.pair (.slice (.int .i64)) .unit))
 | 23 => (.pair (.int .i64) (.pair .str (.pair (.int .i64) .unit)))
 | _ + 24 => .unit
def wm : (n : Nat) → yL n → an yL (rU n)
 | 0, x => (bX.name x, bX.low x, bX.high x, bX.names x, ())
 | 1, x => (bi.name x, bi.parent x, bi.abstract x, bi.attrs x, ())
 | 2, x => (bu.name x, bu.frm x, bu.to x, bu.outLow x, bu.outHigh x, bu.inLow x, bu.inHigh x, ())
 | 3, x => (ad.nodes x, ad.edges x, ())
 | 4, x => (Edge.typ x, Edge.frm x, Edge.to x, ())
 | 5, x => (ah.nodes x, ah.edges x, ())
 | 6, x => (nj.var x, nj.add x, ())
 | 7, x => (dV.node x, dV.attr x, dV.term x, ())
 | 8, x => (dN.kind x, dN.left x, dN.right x, ())
 | 9, x => (aj.graph x, aj.slots x, aj.vars x, aj.tests x, ())
 | 10, x => (eB.nodes x, eB.edges x, ())
 | 11, x => (aP.nodes x, aP.edges x, ())
 | 12, x => (ae.kind x, ae.kids x, ae.map x, ae.pattern x, ())
 | 13, x => (aH.name x, aH.left x, aH.right x, aH.keep x, aH.into x, aH.injective x, aH.condition x, ())
 | 14, x => (aO.rule x, aO.frm x, aO.to x, aO.strict x, ())
 | 15, x => (bM.rules x, bM.nodes x, bM.edges x, ())
 | 16, x => (iH.nodes x, iH.edges x, ())
 | 17, x => (iF.nodes x, iF.edges x, ())
 | 18, x => (gz.graph x, gz.slots x, gz.tests x, ())
 | 19, x => (cY.left x, cY.keep x, cY.nodes x, cY.edges x, cY.slots x, cY.plain x, cY.injective x, cY.forbid x, cY.order x, ())
 | 20, x => (gH.nodes x, gH.edges x, gH.rules x, gH.host x, ())
 | 21, x => (wn.graph x, wn.values x, ())
 | 22, x => (a8.deletes x, a8.creates x, ())
 | 23, x => (eE.kind x, eE.text x, eE.line x, ())
 | _ + 24, _ => ()
def yi : (n : Nat) → an yL (rU n) → yL n
 | 0, x => (⟨x.1, x.2.1, x.2.2.1, x.2.2.2.1⟩ : bX)
 | 1, x => (⟨x.1, x.2.1, x.2.2.1, x.2.2.2.1⟩ : bi)
 | 2, x => (⟨x.1, x.2.1, x.2.2.1, x.2.2.2.1, x.2.2.2.2.1, x.2.2.2.2.2.1, x.2.2.2.2.2.2.1⟩ : bu)
 | 3, x => (⟨x.1, x.2.1⟩ : ad)
 | 4, x => (⟨x.1, x.2.1, x.2.2.1⟩ : Edge)
 | 5, x => (⟨x.1, x.2.1⟩ : ah)
 | 6, x => (⟨x.1, x.2.1⟩ : nj)
 | 7, x => (⟨x.1, x.2.1, x.2.2.1⟩ : dV)
 | 8, x => (⟨x.1, x.2.1, x.2.2.1⟩ : dN)
 | 9, x => (⟨x.1, x.2.1, x.2.2.1, x.2.2.2.1⟩ : aj)
 | 10, x => (⟨x.1, x.2.1⟩ : eB)
 | 11, x => (⟨x.1, x.2.1⟩ : aP)
 | 12, x => (⟨x.1, x.2.1, x.2.2.1, x.2.2.2.1⟩ : ae)
 | 13, x => (⟨x.1, x.2.1, x.2.2.1, x.2.2.2.1, x.2.2.2.2.1, x.2.2.2.2.2.1, x.2.2.2.2.2.2.1⟩ : aH)
 | 14, x => (⟨x.1, x.2.1, x.2.2.1, x.2.2.2.1⟩ : aO)
 | 15, x => (⟨x.1, x.2.1, x.2.2.1⟩ : bM)
 | 16, x => (⟨x.1, x.2.1⟩ : iH)
 | 17, x => (⟨x.1, x.2.1⟩ : iF)
 | 18, x => (⟨x.1, x.2.1, x.2.2.1⟩ : gz)
 | 19, x => (⟨x.1, x.2.1, x.2.2.1, x.2.2.2.1, x.2.2.2.2.1, x.2.2.2.2.2.1, x.2.2.2.2.2.2.1, x.2.2.2.2.2.2.2.1, x.2.2.2.2.2.2.2.2.1⟩ : cY)
 | 20, x => (⟨x.1, x.2.1, x.2.2.1, x.2.2.2.1⟩ : gH)
 | 21, x => (⟨x.1, x.2.1⟩ : wn)
 | 22, x => (⟨x.1, x.2.1⟩ : a8)
 | 23, x => (⟨x.1, x.2.1, x.2.2.1⟩ : eE)
 | _ + 24, _ => ()
def yh : Nat → Nat
 | 0 => 4
 | 1 => 4
 | 2 => 7
 | 3 => 2
 | 4 => 3
 | 5 => 2
 | 6 => 2
 | 7 => 4
 | 8 => 5
 | 9 => 5
 | 10 => 2
 | 11 => 2
 | 12 => 9
 | 13 => 25
 | 14 => 4
 | 15 => 3
 | 16 => 2
 | 17 => 2
 | 18 => 4
 | 19 => 15
 | 20 => 5
 | 21 => 3
 | 22 => 2
 | 23 => 3
 | _ + 24 => 0
def xI (tid : List (Option Ty)) (eqs : Nat → Bool) : dD := ⟨yL, rU, wm, yi, yh, tid, eqs⟩
end Go.Ev
end
section
namespace Go.Ev
theorem uP (tid : List (Option Ty)) (eqs : Nat → Bool) : ik (xI tid eqs) where
 siz := fun n => match n with
  | 0 => rfl
  | 1 => rfl
  | 2 => rfl
  | 3 => rfl
  | 4 => rfl
  | 5 => rfl
  | 6 => rfl
  | 7 => rfl
  | 8 => rfl
  | 9 => rfl
  | 10 => rfl
  | 11 => rfl
  | 12 => rfl
  | 13 => rfl
  | 14 => rfl
  | 15 => rfl
  | 16 => rfl
  | 17 => rfl
  | 18 => rfl
  | 19 => rfl
  | 20 => rfl
  | 21 => rfl
  | 22 => rfl
  | 23 => rfl
  | _ + 24 => rfl
 new := fun n x => match n, x with
  | 0, _ => rfl
  | 1, _ => rfl
  | 2, _ => rfl
  | 3, _ => rfl
  | 4, _ => rfl
  | 5, _ => rfl
  | 6, _ => rfl
  | 7, _ => rfl
  | 8, _ => rfl
  | 9, _ => rfl
  | 10, _ => rfl
  | 11, _ => rfl
  | 12, _ => rfl
  | 13, _ => rfl
  | 14, _ => rfl
  | 15, _ => rfl
  | 16, _ => rfl
  | 17, _ => rfl
  | 18, _ => rfl
  | 19, _ => rfl
  | 20, _ => rfl
  | 21, _ => rfl
  | 22, _ => rfl
  | 23, _ => rfl
  | _ + 24, _ => rfl
 chn := fun n => match n with
  | 0 => rfl
  | 1 => rfl
  | 2 => rfl
  | 3 => rfl
  | 4 => rfl
  | 5 => rfl
  | 6 => rfl
  | 7 => rfl
  | 8 => rfl
  | 9 => rfl
  | 10 => rfl
  | 11 => rfl
  | 12 => rfl
  | 13 => rfl
  | 14 => rfl
  | 15 => rfl
  | 16 => rfl
  | 17 => rfl
  | 18 => rfl
  | 19 => rfl
  | 20 => rfl
  | 21 => rfl
  | 22 => rfl
  | 23 => rfl
  | _ + 24 => rfl
end Go.Ev
end
section
namespace Go.Ev
def env : dD := xI [none, none,
 some (.int .i64),
 some (.int .i64),
 some .bool,
 some (.int .u8),
 some (.int .u8), none, none,
 some .str,
 some .str,
 some .str,
 some (.int .u64), none, none, none, none, none, none, none, none,
 some (.int .i32),
 some (.slice (.nm 1)),
 some (.slice (.nm 2)), none,
 some (.nm 3),
 some (.slice (.nm 13)), none, none,
 some (.slice (.nm 14)),
 some (.int .i64), none, none, none,
 some (.slice (.int .i64)),
 some (.slice (.nm 4)), none,
 some (.nm 5),
 some (.slice (.nm 7)),
 some (.slice (.nm 8)), none,
 some (.nm 9), none,
 some (.nm 10),
 some (.nm 11),
 some (.slice (.nm 12)), none,
 some (.nm 12), none,
 some (.nm 13), none, none,
 some (.nm 14), none,
 some (.nm 15), none, none, none, none, none, none, none,
 some (.slice (.arr 2 (.int .u8))),
 some (.slice (.nm 19)),
 some (.slice (.arr 3 (.int .u8))), none,
 some (.nm 16), none,
 some (.nm 20),
 some (.slice (.slice (.int .i64))), none,
 some (.nm 21), none, none, none, none, none, none, none, none,
 some (.slice (.nm 22)), none, none, none, none,
 some (.nm 22), none, none, none, none, none, none, none, none, none, none, none, none, none, none, none, none, none, none, none, none, none, none,
 some (.slice .str), none,
 some (.nm 0),
 some (.slice (.nm 0)), none,
 some (.nm 1), none,
 some (.nm 2), none,
 some (.nm 4), none, none, none, none, none, none, none, none, none, none, none, none, none, none, none, none, none, none, none, none, none, none,
 some (.arr 2 (.int .u8)), none,
 some (.slice (.int .u8)), none,
 some (.nm 17),
 some (.slice (.arr 4 (.int .i8))), none,
 some (.nm 18),
 some (.int .u64),
 some (.arr 4 (.int .u8)), none,
 some (.nm 19), none, none, none,
 some (.arr 3 (.int .u8)), none, none, none, none, none, none, none, none, none, none, none, none, none, none, none, none, none, none, none, none, none, none, none, none, none, none, none, none, none, none,
 some (.int .u64), none, none, none, none, none, none, none, none, none,
 some (.slice (.arr 2 (.int .i64))),
 some (.arr 2 (.int .i64)), none,
 some (.nm 6), none,
 some (.nm 7), none,
 some (.nm 8), none,
 some (.int .i8),
 some (.arr 4 (.int .i8)),
 some (.slice .bool), none, none, none, none, none, none, none, none, none, none, none,
 some (.nm 23), none, none, none, none, none, none,
 some (.int .u32), none, none, none, none, none, none, none, none, none, none, none, none, none, none, none, none, none, none, none, none, none, none, none, none, none, none, none, none, none,
 some (.int .i64), none, none, none, none, none, none, none, none, none, none, none, none, none, none, none, none, none, none, none, none, none, none, none, none, none, none, none, none, none,
 some (.int .u64), none, none, none,
 some (.ptr (.int .i64)), none, none, none, none, none, none, none, none, none, none,
 some (.ptr (.int .u64)), none, none, none, none, none, none, none, none, none,
 some (.int .u8),
 some (.int .u8), none,
 some (.ptr (.int .u8)),
 some (.int .i32),
 some (.int .i32), none, none, none] fun T => Nat.beq T 52
end Go.Ev
end
section
set_option linter.unusedVariables false
namespace Go.Proofs
open Go.Shelf
def Tryz.lays137_ren : Go.Shelf.Ren := ⟨fun | 137 => 226 | 217 => 264 | 266 => 278 | n => n, fun | 9 => 9 | 5 => 5 | 3 => 3 | n => n, fun | n => n⟩
theorem Tryz.lays137 : Go.Proofs.Lays.n137 Tryz.prog Tryz.lays137_ren where
 mixed := by kernel_rfl
 f137 := Tryz.func226.trans (congrArg some (by kernel_rfl))
 f217 := Tryz.func264.trans (congrArg some (by kernel_rfl))
 f266 := Tryz.func278.trans (congrArg some (by kernel_rfl))
 t3 := Tryz.underlying3
 a3 := Tryz.isAgg3
 z3 := Tryz.sizeOf3
 v3 := Tryz.zeroValue3
 t5 := Tryz.underlying5
 a5 := Tryz.isAgg5
 z5 := Tryz.sizeOf5
 v5 := Tryz.zeroValue5
 t9 := Tryz.underlying9
 a9 := Tryz.isAgg9
 z9 := Tryz.sizeOf9
 v9 := Tryz.zeroValue9
def Tryz.lays189_ren : Go.Shelf.Ren := ⟨fun | 189 => 120 | 125 => 156 | 257 => 155 | 128 => 209 | 129 => 210 | 294 => 200 | 295 => 201 | 296 => 202 | 297 => 203 | 298 => 204 | 299 => 205 | 216 => 206 | 300 => 207 | 301 => 208 | 328 => 249 | 329 => 250 | 330 => 251 | 331 => 252 | 332 => 253 | 215 => 254 | 343 => 276 | n => n, fun | 28 => 34 | 3 => 3 | 46 => 186 | 0 => 0 | 51 => 226 | 53 => 148 | 4 => 4 | 183 => 257 | 182 => 256 | 131 => 261 | 5 => 5 | 9 => 9 | 218 => 286 | 222 => 290 | 228 => 301 | 229 => 269 | n => n, fun | n => n⟩
theorem Tryz.lays189 : Go.Proofs.Lays.n189 Tryz.prog Tryz.lays189_ren where
 mixed := by kernel_rfl
 f125 := Tryz.func156.trans (congrArg some (by kernel_rfl))
 f128 := Tryz.func209.trans (congrArg some (by kernel_rfl))
 f129 := Tryz.func210.trans (congrArg some (by kernel_rfl))
 f189 := Tryz.func120.trans (congrArg some (by kernel_rfl))
 f215 := Tryz.func254.trans (congrArg some (by kernel_rfl))
 f216 := Tryz.func206.trans (congrArg some (by kernel_rfl))
 f257 := Tryz.func155.trans (congrArg some (by kernel_rfl))
 f294 := Tryz.func200.trans (congrArg some (by kernel_rfl))
 f295 := Tryz.func201.trans (congrArg some (by kernel_rfl))
 f296 := Tryz.func202.trans (congrArg some (by kernel_rfl))
 f297 := Tryz.func203.trans (congrArg some (by kernel_rfl))
 f298 := Tryz.func204.trans (congrArg some (by kernel_rfl))
 f299 := Tryz.func205.trans (congrArg some (by kernel_rfl))
 f300 := Tryz.func207.trans (congrArg some (by kernel_rfl))
 f301 := Tryz.func208.trans (congrArg some (by kernel_rfl))
 f328 := Tryz.func249.trans (congrArg some (by kernel_rfl))
 f329 := Tryz.func250.trans (congrArg some (by kernel_rfl))
 f330 := Tryz.func251.trans (congrArg some (by kernel_rfl))
 f331 := Tryz.func252.trans (congrArg some (by kernel_rfl))
 f332 := Tryz.func253.trans (congrArg some (by kernel_rfl))
 f343 := Tryz.func276.trans (congrArg some (by kernel_rfl))
 t0 := Tryz.underlying0
 a0 := Tryz.isAgg0
 z0 := Tryz.sizeOf0
 v0 := Tryz.zeroValue0
 t3 := Tryz.underlying3
 a3 := Tryz.isAgg3
 z3 := Tryz.sizeOf3
 v3 := Tryz.zeroValue3
 t4 := Tryz.underlying4
 a4 := Tryz.isAgg4
 z4 := Tryz.sizeOf4
 v4 := Tryz.zeroValue4
 t5 := Tryz.underlying5
 a5 := Tryz.isAgg5
 z5 := Tryz.sizeOf5
 v5 := Tryz.zeroValue5
 t9 := Tryz.underlying9
 a9 := Tryz.isAgg9
 z9 := Tryz.sizeOf9
 v9 := Tryz.zeroValue9
 t28 := Tryz.underlying34
 a28 := Tryz.isAgg34
 z28 := Tryz.sizeOf34
 v28 := Tryz.zeroValue34
 t46 := Tryz.underlying186
 a46 := Tryz.isAgg186
 z46 := Tryz.sizeOf186
 v46 := Tryz.zeroValue186
 t51 := Tryz.underlying226
 a51 := Tryz.isAgg226
 z51 := Tryz.sizeOf226
 v51 := Tryz.zeroValue226
 t53 := Tryz.underlying148
 a53 := Tryz.isAgg148
 z53 := Tryz.sizeOf148
 v53 := Tryz.zeroValue148
 t131 := Tryz.underlying261
 a131 := Tryz.isAgg261
 z131 := Tryz.sizeOf261
 v131 := Tryz.zeroValue261
 t182 := Tryz.underlying256
 a182 := Tryz.isAgg256
 z182 := Tryz.sizeOf256
 v182 := Tryz.zeroValue256
 t183 := Tryz.underlying257
 a183 := Tryz.isAgg257
 z183 := Tryz.sizeOf257
 v183 := Tryz.zeroValue257
 t218 := Tryz.underlying286
 a218 := Tryz.isAgg286
 z218 := Tryz.sizeOf286
 v218 := Tryz.zeroValue286
 t222 := Tryz.underlying290
 a222 := Tryz.isAgg290
 z222 := Tryz.sizeOf290
 v222 := Tryz.zeroValue290
 t228 := Tryz.underlying301
 a228 := Tryz.isAgg301
 z228 := Tryz.sizeOf301
 v228 := Tryz.zeroValue301
 t229 := Tryz.underlying269
 a229 := Tryz.isAgg269
 z229 := Tryz.sizeOf269
 v229 := Tryz.zeroValue269
end Go.Proofs
namespace Go.Ev
theorem yN : rp Go.Proofs.Tryz.prog env env.tid 0 = true := by kernel_rfl
theorem yr : eQ Go.Proofs.Tryz.prog env := eQ.of (uP _ _) yN fun T h => by
 have e : T = 52 := Nat.eq_of_beq_eq_true h
 subst e
 exact ⟨by kernel_rfl, by kernel_rfl⟩
theorem mixed : Go.Proofs.Tryz.prog.follows .mixedOrders = true := by kernel_rfl
theorem cn : Cs Go.Proofs.Tryz.prog env [] := ⟨yr, mixed, k8, jc⟩
abbrev G (n : Nat) (s : l7 env.C) : Prop := fT Go.Proofs.Tryz.prog env n s
abbrev GC (n : Nat) (s : ma env.C) : Prop := mO Go.Proofs.Tryz.prog env n s
theorem lib11.good (k : Nat) : fT Go.Proofs.Tryz.prog env 11 ⟨[(HL (.nm 13))], [(RN 13)], fun x => iM x.1⟩ := jq yr mixed (fun l => am (.pv (.slice _) l :: List.replicate 7 .undef) 2 .nils) Go.Proofs.Tryz.func11 rfl (by kernel_rfl) (by kernel_rfl) (by kernel_rfl) ⟨rfl, rfl, rfl⟩ ⟨rfl, rfl, rfl⟩ (fun _ => rfl) (fun l => by kernel_rfl) (dR (L := []) (by kernel_rfl) trivial) (dR (L := []) (by kernel_rfl) trivial) (fun l b => by cases b <;> kernel_rfl)
theorem lib16.good (k : Nat) : fT Go.Proofs.Tryz.prog env 16 ⟨[(HL (.nm 14))], [(RN 14)], fun x => iM x.1⟩ := jq yr mixed (fun l => am (.pv (.slice _) l :: List.replicate 7 .undef) 2 .nils) Go.Proofs.Tryz.func16 rfl (by kernel_rfl) (by kernel_rfl) (by kernel_rfl) ⟨rfl, rfl, rfl⟩ ⟨rfl, rfl, rfl⟩ (fun _ => rfl) (fun l => by kernel_rfl) (dR (L := []) (by kernel_rfl) trivial) (dR (L := []) (by kernel_rfl) trivial) (fun l b => by cases b <;> kernel_rfl)
theorem lib21.good (k : Nat) : fT Go.Proofs.Tryz.prog env 21 ⟨[(HL (.int .i64))], [RI], fun x => iM x.1⟩ := jq yr mixed (fun l => am (.pv (.slice _) l :: List.replicate 7 .undef) 2 .nils) Go.Proofs.Tryz.func21 rfl (by kernel_rfl) (by kernel_rfl) (by kernel_rfl) ⟨rfl, rfl, rfl⟩ ⟨rfl, rfl, rfl⟩ (fun _ => rfl) (fun l => by kernel_rfl) (dR (L := []) (by kernel_rfl) trivial) (dR (L := []) (by kernel_rfl) trivial) (fun l b => by cases b <;> kernel_rfl)
theorem lib120.good (k : Nat) : fT Go.Proofs.Tryz.prog env 120 ⟨[RI], [RI], fun x => slices_Sort_int x.1⟩ := tW (fun blk off cap zs w h1 h2 h3 => Go.Proofs.Any.slices_Sort_int Go.Proofs.Tryz.lays189 blk off cap zs w h1 h2 h3) (fun p cap w => Go.Proofs.Any.slices_Sort_int_none Go.Proofs.Tryz.lays189 p cap w) Go.Proofs.Tryz.func120 rfl (by kernel_rfl)
theorem lib226.good (k : Nat) : fT Go.Proofs.Tryz.prog env 226 ⟨[HS, (.hole (.int .u8))], [HI], fun x => indexByte x.1 x.2.1⟩ := mP (fun s c w => Go.Proofs.Any.strings_IndexByte Go.Proofs.Tryz.lays137 s c w) Go.Proofs.Tryz.func226 rfl (by kernel_rfl)
theorem lib265.good (k : Nat) : fT Go.Proofs.Tryz.prog env 265 ⟨[(HL .str)], [(.rowh .str)], fun x => iM x.1⟩ := jq yr mixed (fun l => am (.pv (.slice _) l :: List.replicate 7 .undef) 2 .nils) Go.Proofs.Tryz.func265 rfl (by kernel_rfl) (by kernel_rfl) (by kernel_rfl) ⟨rfl, rfl, rfl⟩ ⟨rfl, rfl, rfl⟩ (fun _ => rfl) (fun l => by kernel_rfl) (dR (L := []) (by kernel_rfl) trivial) (dR (L := []) (by kernel_rfl) trivial) (fun l b => by cases b <;> kernel_rfl)
end Go.Ev
end
section
set_option linter.unusedVariables false
namespace Go.Ev
def api_NodeType_118.l0 (q0 : List bi) (q1 : (bi × Unit) → Option Bool) (q2 : Int) : Nat → Int → Option (Sum Unit (Int × Unit))
 | 0, _ => none
 | n + 1, q3 =>
  cond (decide (q3 < q2))
  ((ay q0 q3).bind fun x3 =>
  (q1 (x3, ())).bind fun r4 =>
  cond r4
  (some (Sum.inr (q3, ())))
  (api_NodeType_118.l0 q0 q1 q2 n (IntKind.i64.wrap (q3 + (1 : Int)))))
  (some (Sum.inl (())))
def api_NodeType_118 (a0 : List bi) (a1 : (bi × Unit) → Option Bool) : Option (Int × Unit) :=
  (api_NodeType_118.l0 a0 a1 (a0.length : Int) (Int.toNat (a0.length : Int) + 1) (0 : Int)).bind fun o5 =>
  aG o5
  (fun y6 => some ((-1 : Int), ()))
  (fun z7 => some (z7.1, ()))
def cZ (a0 : List bi) (a1 : (bi × Unit) → Option Bool) : Option (Bool × Unit) :=
  (api_NodeType_118 a0 a1).bind fun r1 =>
  some ((decide (r1.1 ≥ (0 : Int))), ())
def dP (a0 : Int) : Option (Bool × Unit) :=
  (cond (decide (a0 ≥ (97 : Int))) (cond (decide (a0 ≤ (122 : Int))) (some (true, ())) (cond (decide (a0 ≥ (65 : Int))) (some ((decide (a0 ≤ (90 : Int))), ())) (some (false, ())))) (cond (decide (a0 ≥ (65 : Int))) (some ((decide (a0 ≤ (90 : Int))), ())) (some (false, ())))).bind fun b1 =>
  some (b1.1, ())
def token_run.l0 (q0 : ByteArray) (q1 : (Int × Unit) → Option Bool) : Nat → Int → Option (Int × Unit)
 | 0, _ => none
 | n + 1, q2 =>
  (cond (decide (q2 < (q0.size : Int))) ((ke q0 q2).bind fun c4 =>
  (q1 (c4, ())).bind fun r5 =>
  some (r5, ())) (some (false, ()))).bind fun b6 =>
  cond b6.1
  (token_run.l0 q0 q1 n (IntKind.i64.wrap (q2 + (1 : Int))))
  (some (q2, ()))
def token_run (k : Nat) (a0 : ByteArray) (a1 : (Int × Unit) → Option Bool) : Option (Int × Unit) :=
  (token_run.l0 a0 a1 k (0 : Int)).bind fun o7 =>
  some (o7.1, ())
def cR (a0 : Int) : Option (Bool × Unit) :=
  (cond (decide (a0 ≥ (48 : Int))) (some ((decide (a0 ≤ (57 : Int))), ())) (some (false, ()))).bind fun b1 =>
  some (b1.1, ())
def fk (a0 : Int) : Option (Bool × Unit) :=
  ((dP a0).bind fun r1 =>
  cond r1.1 (some (true, ())) ((cR a0).bind fun r2 =>
  cond r2.1 (some (true, ())) (some ((a0 == (95 : Int)), ())))).bind fun b3 =>
  some (b3.1, ())
def ef (a0 : Int) : Option Bool :=
  (cond (decide (a0 ≥ (32 : Int))) (cond (decide (a0 ≤ (126 : Int))) (some ((a0 != (34 : Int)), ())) (some (false, ()))) (some (false, ()))).bind fun b1 =>
  some b1.1
def fA (k : Nat) (a0 : ByteArray) : Option (Int × (Int × Unit)) :=
  cond (decide (0 ≤ (1 : Int)) && decide ((1 : Int) ≤ (a0.size : Int)) && decide ((a0.size : Int) ≤ (a0.size : Int))) ((token_run k (a0.extract 1 (Int.toNat (a0.size : Int))) (fun z1 => ef z1.1)).bind fun r2 =>
  (cond ((IntKind.i64.wrap ((1 : Int) + r2.1)) == (a0.size : Int)) (some (true, ())) ((ke a0 (IntKind.i64.wrap ((1 : Int) + r2.1))).bind fun c3 =>
  some ((c3 != (34 : Int)), ()))).bind fun b4 =>
  cond b4.1
  (some ((0 : Int), (2 : Int), ()))
  (cond (decide (r2.1 > (60 : Int)))
  (some ((0 : Int), (3 : Int), ()))
  (some (IntKind.i64.wrap (r2.1 + (2 : Int)), (0 : Int), ())))) none
def slices_Index_lstring.l0 (q0 : List ByteArray) (q1 : ByteArray) (q2 : Int) : Nat → Int → Option (Sum Unit (Int × Unit))
 | 0, _ => none
 | n + 1, q3 =>
  cond (decide (q3 < q2))
  ((ay q0 q3).bind fun x2 =>
  cond (dg q1 x2)
  (some (Sum.inr (q3, ())))
  (slices_Index_lstring.l0 q0 q1 q2 n (IntKind.i64.wrap (q3 + (1 : Int)))))
  (some (Sum.inl (())))
def slices_Index_lstring (a0 : List ByteArray) (a1 : ByteArray) : Option (Int × Unit) :=
  (slices_Index_lstring.l0 a0 a1 (a0.length : Int) (Int.toNat (a0.length : Int) + 1) (0 : Int)).bind fun o3 =>
  aG o3
  (fun y4 => some ((-1 : Int), ()))
  (fun z5 => some (z5.1, ()))
def aT (a0 : List ByteArray) (a1 : ByteArray) : Option (Bool × Unit) :=
  (slices_Index_lstring a0 a1).bind fun r1 =>
  some ((decide (r1.1 ≥ (0 : Int))), ())
def gy (a0 : ByteArray) : Option (Bool × Unit) :=
  (cond (decide ((a0.size : Int) ≥ (2 : Int))) (cond (decide (0 ≤ (0 : Int)) && decide ((0 : Int) ≤ (2 : Int)) && decide ((2 : Int) ≤ (a0.size : Int))) ((aT ([(⟨#[45, 62]⟩ : ByteArray), (⟨#[60, 61]⟩ : ByteArray), (⟨#[62, 61]⟩ : ByteArray), (⟨#[61, 61]⟩ : ByteArray), (⟨#[33, 61]⟩ : ByteArray)]) (a0.extract 0 2)).bind fun r1 =>
  some (r1.1, ())) none) (some (false, ()))).bind fun b2 =>
  some (b2.1, ())
def eP (k : Nat) (a0 : ByteArray) : Option (Int × (Int × (Int × Unit))) :=
  (ke a0 (0 : Int)).bind fun c1 =>
  (dP c1).bind fun r2 =>
  cond r2.1
  ((token_run k a0 (fun z3 => (fk z3.1).map (·.1))).bind fun r4 =>
  cond (decide (r4.1 > (20 : Int)))
  (some ((0 : Int), (0 : Int), (3 : Int), ()))
  (some ((1 : Int), r4.1, (0 : Int), ())))
  ((cR c1).bind fun r5 =>
  cond r5.1
  ((token_run k a0 (fun z6 => (cR z6.1).map (·.1))).bind fun r7 =>
  cond (decide (r7.1 > (9 : Int)))
  (some ((0 : Int), (0 : Int), (3 : Int), ()))
  (some ((2 : Int), r7.1, (0 : Int), ())))
  (cond (c1 == (34 : Int))
  ((fA k a0).bind fun r8 =>
  some ((3 : Int), r8.1, r8.2.1, ()))
  ((gy a0).bind fun r9 =>
  cond r9.1
  (some ((4 : Int), (2 : Int), (0 : Int), ()))
  ((indexByte (⟨#[123, 125, 40, 41, 91, 93, 44, 59, 58, 61, 43, 45, 42, 60, 62, 33, 38, 124, 46, 63]⟩ : ByteArray) c1).bind fun r10 =>
  cond (decide (r10.1 ≥ (0 : Int)))
  (some ((4 : Int), (1 : Int), (0 : Int), ()))
  (some ((0 : Int), (0 : Int), (2 : Int), ()))))))
def gR (k : Nat) (a0 : eE) : Option (ByteArray × (Bool × Unit)) :=
  cond (a0.kind == (3 : Int))
  (cond (cE ((⟨#[34]⟩ : ByteArray).size + a0.text.size)) (cond (cE (((⟨#[34]⟩ : ByteArray) ++ a0.text).size + (⟨#[34]⟩ : ByteArray).size)) (cond (dg (((⟨#[34]⟩ : ByteArray) ++ a0.text) ++ (⟨#[34]⟩ : ByteArray)) (⟨#[]⟩ : ByteArray))
  (some ((⟨#[]⟩ : ByteArray), false, ()))
  ((eP k (((⟨#[34]⟩ : ByteArray) ++ a0.text) ++ (⟨#[34]⟩ : ByteArray))).bind fun r1 =>
  (cond (r1.2.2.1 == (0 : Int)) (cond (r1.1 == a0.kind) (some ((((⟨#[34]⟩ : ByteArray) ++ a0.text) ++ (⟨#[34]⟩ : ByteArray)), (r1.2.1 == ((((⟨#[34]⟩ : ByteArray) ++ a0.text) ++ (⟨#[34]⟩ : ByteArray)).size : Int)), ())) (some ((((⟨#[34]⟩ : ByteArray) ++ a0.text) ++ (⟨#[34]⟩ : ByteArray)), false, ()))) (some ((((⟨#[34]⟩ : ByteArray) ++ a0.text) ++ (⟨#[34]⟩ : ByteArray)), false, ()))).bind fun b2 =>
  some (b2.1, b2.2.1, ()))) none) none)
  (cond (dg a0.text (⟨#[]⟩ : ByteArray))
  (some ((⟨#[]⟩ : ByteArray), false, ()))
  ((eP k a0.text).bind fun r3 =>
  (cond (r3.2.2.1 == (0 : Int)) (cond (r3.1 == a0.kind) (some (a0.text, (r3.2.1 == (a0.text.size : Int)), ())) (some (a0.text, false, ()))) (some (a0.text, false, ()))).bind fun b4 =>
  some (b4.1, b4.2.1, ())))
def bK (k : Nat) (a0 : ByteArray) : Option (Bool × Unit) :=
  (gR k (⟨(1 : Int), a0, (0 : Int)⟩ : eE)).bind fun r1 =>
  some (r1.2.1, ())
def cU : Nat → ad → Int → Option ((List bX) × Unit)
 | 0, _, _ => none
 | k + 1, a0, a1 =>
  (ay a0.nodes a1).bind fun x1 =>
  cond (decide (x1.parent ≥ (0 : Int)))
  ((cU k a0 x1.parent).bind fun r2 =>
  (ay a0.nodes a1).bind fun x3 =>
  cond (cE ((r2.1).length + (x3.attrs).length)) (some ((r2.1 ++ x3.attrs), ())) none)
  ((ay a0.nodes a1).bind fun x4 =>
  cond (cE ((([] : List bX)).length + (x4.attrs).length)) (some ((([] : List bX) ++ x4.attrs), ())) none)
def api_Attr_179.l0 (q0 : List bX) (q1 : (bX × Unit) → Option Bool) (q2 : Int) : Nat → Int → Option (Sum Unit (Int × Unit))
 | 0, _ => none
 | n + 1, q3 =>
  cond (decide (q3 < q2))
  ((ay q0 q3).bind fun x3 =>
  (q1 (x3, ())).bind fun r4 =>
  cond r4
  (some (Sum.inr (q3, ())))
  (api_Attr_179.l0 q0 q1 q2 n (IntKind.i64.wrap (q3 + (1 : Int)))))
  (some (Sum.inl (())))
def api_Attr_179 (a0 : List bX) (a1 : (bX × Unit) → Option Bool) : Option (Int × Unit) :=
  (api_Attr_179.l0 a0 a1 (a0.length : Int) (Int.toNat (a0.length : Int) + 1) (0 : Int)).bind fun o5 =>
  aG o5
  (fun y6 => some ((-1 : Int), ()))
  (fun z7 => some (z7.1, ()))
def gc (a0 : List bX) (a1 : (bX × Unit) → Option Bool) : Option (Bool × Unit) :=
  (api_Attr_179 a0 a1).bind fun r1 =>
  some ((decide (r1.1 ≥ (0 : Int))), ())
def types_names.l0 (k : Nat) (q0 : List ByteArray) (q1 : List ByteArray) (q2 : Int) : Nat → Int → Option (Sum Unit (Int × Unit))
 | 0, _ => none
 | n + 1, q3 =>
  cond (decide (q3 < q2))
  ((ay q1 q3).bind fun x7 =>
  (bK k x7).bind fun r8 =>
  cond (!r8.1)
  (some (Sum.inr ((2 : Int), ())))
  (cond (decide (0 ≤ (0 : Int)) && decide ((0 : Int) ≤ q3) && decide (q3 ≤ (q0.length : Int))) ((aT (slc q0 0 (Int.toNat q3)) x7).bind fun r9 =>
  cond r9.1
  (some (Sum.inr ((5 : Int), ())))
  (types_names.l0 k q0 q1 q2 n (IntKind.i64.wrap (q3 + (1 : Int))))) none))
  (some (Sum.inl (())))
def types_names (k : Nat) (a0 : List ByteArray) : Option (Int × Unit) :=
  cond (decide ((a0.length : Int) > (20 : Int)))
  (some ((3 : Int), ()))
  ((types_names.l0 k a0 a0 (a0.length : Int) (Int.toNat (a0.length : Int) + 1) (0 : Int)).bind fun o10 =>
  aG o10
  (fun y11 => some ((0 : Int), ()))
  (fun z12 => some (z12.1, ())))
def dT (a0 : bX) (a1 : bX) : Option Bool :=
  some (dg a0.name a1.name)
def dI (k : Nat) (a0 : bX) (a1 : List bX) : Option (Int × Unit) :=
  (bK k a0.name).bind fun r1 =>
  cond (!r1.1)
  (some ((2 : Int), ()))
  ((gc a1 (fun z2 => dT z2.1 a0)).bind fun r3 =>
  cond r3.1
  (some ((5 : Int), ()))
  ((types_names k a0.names).bind fun r4 =>
  cond (r4.1 != (0 : Int))
  (some (r4.1, ()))
  ((cond (decide ((-1000000 : Int) ≤ a0.low)) (cond (decide (a0.low ≤ a0.high)) (some ((decide (a0.high ≤ (1000000 : Int))), ())) (some (false, ()))) (some (false, ()))).bind fun b5 =>
  cond (decide ((a0.names.length : Int) > (0 : Int)))
  ((cond (a0.low == (0 : Int)) (some ((a0.high == (IntKind.i64.wrap ((a0.names.length : Int) - (1 : Int)))), ())) (some (false, ()))).bind fun b6 =>
  cond (!b6.1)
  (some ((6 : Int), ()))
  (some ((0 : Int), ())))
  (cond (!b5.1)
  (some ((6 : Int), ()))
  (some ((0 : Int), ()))))))
def g8 (a0 : bi) (a1 : bi) : Option Bool :=
  some (dg a0.name a1.name)
def types_node.l1 (k : Nat) (q0 : List bX) : Nat → Int → Option (Sum Unit (Int × Unit))
 | 0, _ => none
 | n + 1, q1 =>
  cond (decide (q1 < ((q0).length : Int)))
  (cond (decide (0 ≤ q1) && decide (q1 < ((q0).length : Int))) ((nth q0 (Int.toNat q1)).bind fun x11 =>
  cond (decide (0 ≤ (0 : Int)) && decide ((0 : Int) ≤ q1) && decide (q1 ≤ ((q0).length : Int))) (cond (decide (0 ≤ (Int.toNat q1)) && decide ((Int.toNat q1) ≤ (q0).length)) ((dI k x11 (slc q0 0 (Int.toNat q1))).bind fun r12 =>
  cond (r12.1 != (0 : Int))
  (some (Sum.inr (r12.1, ())))
  (types_node.l1 k q0 n (IntKind.i64.wrap (q1 + (1 : Int))))) none) none) none)
  (some (Sum.inl (())))
def types_node (k : Nat) (a0 : ad) (a1 : Int) : Option (Int × Unit) :=
  (ay a0.nodes a1).bind fun x1 =>
  (bK k x1.name).bind fun r2 =>
  cond (!r2.1)
  (some ((2 : Int), ()))
  (cond (decide (0 ≤ (0 : Int)) && decide ((0 : Int) ≤ a1) && decide (a1 ≤ (a0.nodes.length : Int))) ((cZ (slc a0.nodes 0 (Int.toNat a1)) (fun z3 => g8 z3.1 x1)).bind fun r4 =>
  cond r4.1
  (some ((5 : Int), ()))
  ((cond (decide (x1.parent < (-1 : Int))) (some (true, ())) (some ((decide (x1.parent ≥ a1)), ()))).bind fun b5 =>
  cond b5.1
  (some ((6 : Int), ()))
  (cond (decide ((x1.attrs.length : Int) > (4 : Int)))
  (some ((3 : Int), ()))
  ((cU k a0 a1).bind fun r6 =>
  cond (decide (((r6.1).length : Int) > (8 : Int)))
  (some ((3 : Int), ()))
  ((types_node.l1 k r6.1 k (IntKind.i64.wrap (((r6.1).length : Int) - (x1.attrs.length : Int)))).bind fun o13 =>
  aG o13
  (fun y14 => some ((0 : Int), ()))
  (fun z15 => some (z15.1, ()))))))) none)
def api_EdgeType_148.l0 (q0 : List bu) (q1 : (bu × Unit) → Option Bool) (q2 : Int) : Nat → Int → Option (Sum Unit (Int × Unit))
 | 0, _ => none
 | n + 1, q3 =>
  cond (decide (q3 < q2))
  ((ay q0 q3).bind fun x3 =>
  (q1 (x3, ())).bind fun r4 =>
  cond r4
  (some (Sum.inr (q3, ())))
  (api_EdgeType_148.l0 q0 q1 q2 n (IntKind.i64.wrap (q3 + (1 : Int)))))
  (some (Sum.inl (())))
def api_EdgeType_148 (a0 : List bu) (a1 : (bu × Unit) → Option Bool) : Option (Int × Unit) :=
  (api_EdgeType_148.l0 a0 a1 (a0.length : Int) (Int.toNat (a0.length : Int) + 1) (0 : Int)).bind fun o5 =>
  aG o5
  (fun y6 => some ((-1 : Int), ()))
  (fun z7 => some (z7.1, ()))
def ee (a0 : List bu) (a1 : (bu × Unit) → Option Bool) : Option (Bool × Unit) :=
  (api_EdgeType_148 a0 a1).bind fun r1 =>
  some ((decide (r1.1 ≥ (0 : Int))), ())
def dW (a0 : Int) (a1 : Int) : Option (Bool × Unit) :=
  (cond (decide (a0 ≥ (0 : Int))) (cond (decide (a0 ≤ (40 : Int))) (cond (a1 == (-1 : Int)) (some (true, ())) (cond (decide (a1 ≥ a0)) (some ((decide (a1 ≤ (40 : Int))), ())) (some (false, ())))) (some (false, ()))) (some (false, ()))).bind fun b1 =>
  some (b1.1, ())
def fY (a0 : bu) (a1 : bu) : Option Bool :=
  some (dg a0.name a1.name)
def fu (a0 : Int) (a1 : ad) : Option Bool :=
  (cond (decide (a0 ≥ (0 : Int))) (some ((decide (a0 < (a1.nodes.length : Int))), ())) (some (false, ()))).bind fun b1 =>
  some b1.1
def gG (k : Nat) (a0 : ad) (a1 : Int) : Option (Int × Unit) :=
  (ay a0.edges a1).bind fun x1 =>
  (bK k x1.name).bind fun r2 =>
  cond (!r2.1)
  (some ((2 : Int), ()))
  (cond (decide (0 ≤ (0 : Int)) && decide ((0 : Int) ≤ a1) && decide (a1 ≤ (a0.edges.length : Int))) ((ee (slc a0.edges 0 (Int.toNat a1)) (fun z3 => fY z3.1 x1)).bind fun r4 =>
  cond r4.1
  (some ((5 : Int), ()))
  (((fu x1.frm a0).bind fun r5 =>
  cond (!r5) (some (true, ())) ((fu x1.to a0).bind fun r6 =>
  some ((!r6), ()))).bind fun b7 =>
  cond b7.1
  (cond b7.1
  (some ((6 : Int), ()))
  (some ((0 : Int), ())))
  (((dW x1.outLow x1.outHigh).bind fun r8 =>
  cond (!r8.1) (some (true, ())) ((dW x1.inLow x1.inHigh).bind fun r9 =>
  some ((!r9.1), ()))).bind fun b10 =>
  cond b10.1
  (some ((6 : Int), ()))
  (some ((0 : Int), ()))))) none)
def types_Valid.l1 (k : Nat) (q0 : ad) (q1 : List bi) (q2 : Int) : Nat → Int → Option (Sum (ad × Unit) (ByteArray × (Int × Unit)))
 | 0, _ => none
 | n + 1, q3 =>
  cond (decide (q3 < q2))
  ((ay q1 q3).bind fun x6 =>
  (types_node k q0 q3).bind fun r7 =>
  cond (r7.1 != (0 : Int))
  (some (Sum.inr (x6.name, r7.1, ())))
  (types_Valid.l1 k q0 q1 q2 n (IntKind.i64.wrap (q3 + (1 : Int)))))
  (some (Sum.inl (q0, ())))
def types_Valid.l3 (k : Nat) (q0 : ad) (q1 : List bu) (q2 : Int) : Nat → Int → Option (Sum Unit (ByteArray × (Int × Unit)))
 | 0, _ => none
 | n + 1, q3 =>
  cond (decide (q3 < q2))
  ((ay q1 q3).bind fun x15 =>
  (gG k q0 q3).bind fun r16 =>
  cond (r16.1 != (0 : Int))
  (some (Sum.inr (x15.name, r16.1, ())))
  (types_Valid.l3 k q0 q1 q2 n (IntKind.i64.wrap (q3 + (1 : Int)))))
  (some (Sum.inl (())))
def types_Valid (k : Nat) (a0 : ad) : Option (ByteArray × (Int × Unit)) :=
  cond ((a0.nodes.length : Int) == (0 : Int))
  (some ((⟨#[]⟩ : ByteArray), (7 : Int), ()))
  ((cond (decide ((a0.nodes.length : Int) > (12 : Int))) (some (true, ())) (some ((decide ((a0.edges.length : Int) > (20 : Int))), ()))).bind fun b1 =>
  cond b1.1
  (some ((⟨#[]⟩ : ByteArray), (3 : Int), ()))
  ((types_Valid.l1 k a0 a0.nodes (a0.nodes.length : Int) (Int.toNat (a0.nodes.length : Int) + 1) (0 : Int)).bind fun o8 =>
  aG o8
  (fun y9 => (types_Valid.l3 k y9.1 y9.1.edges (y9.1.edges.length : Int) (Int.toNat (y9.1.edges.length : Int) + 1) (0 : Int)).bind fun o17 =>
  aG o17
  (fun y18 => some ((⟨#[]⟩ : ByteArray), (0 : Int), ()))
  (fun z19 => some (z19.1, z19.2.1, ())))
  (fun z10 => some (z10.1, z10.2.1, ()))))
def slices_Index_lint.l0 (q0 : List Int) (q1 : Int) (q2 : Int) : Nat → Int → Option (Sum Unit (Int × Unit))
 | 0, _ => none
 | n + 1, q3 =>
  cond (decide (q3 < q2))
  ((ay q0 q3).bind fun x2 =>
  cond (q1 == x2)
  (some (Sum.inr (q3, ())))
  (slices_Index_lint.l0 q0 q1 q2 n (IntKind.i64.wrap (q3 + (1 : Int)))))
  (some (Sum.inl (())))
def slices_Index_lint (a0 : List Int) (a1 : Int) : Option (Int × Unit) :=
  (slices_Index_lint.l0 a0 a1 (a0.length : Int) (Int.toNat (a0.length : Int) + 1) (0 : Int)).bind fun o3 =>
  aG o3
  (fun y4 => some ((-1 : Int), ()))
  (fun z5 => some (z5.1, ()))
def bC (a0 : List Int) (a1 : Int) : Option (Bool × Unit) :=
  (slices_Index_lint a0 a1).bind fun r1 =>
  some ((decide (r1.1 ≥ (0 : Int))), ())
def rule_others.l0 (q0 : List Int) (q2 : Int) : Nat → (List Int) → Int → Option ((List Int) × Unit)
 | 0, _, _ => none
 | n + 1, q1, q3 =>
  cond (decide (q3 < q2))
  ((bC q0 q3).bind fun r2 =>
  cond (!r2.1)
  (cond (cE ((q1).length + ([q3]).length)) (rule_others.l0 q0 q2 n (q1 ++ [q3]) (IntKind.i64.wrap (q3 + (1 : Int)))) none)
  (rule_others.l0 q0 q2 n q1 (IntKind.i64.wrap (q3 + (1 : Int)))))
  (some (q1, ()))
def rule_others (a0 : List Int) (a1 : Int) : Option ((List Int) × Unit) :=
  (rule_others.l0 a0 a1 (Int.toNat a1 + 1) ([] : List Int) (0 : Int)).bind fun o3 =>
  some (o3.1, ())
def dM (a0 : aH) : Option ((List Int) × ((List Int) × Unit)) :=
  (rule_others a0.into.nodes (a0.right.graph.nodes.length : Int)).bind fun r1 =>
  (rule_others a0.into.edges (a0.right.graph.edges.length : Int)).bind fun r2 =>
  some (r1.1, r2.1, ())
def slices_IndexFunc_lint.l0 (q0 : List Int) (q1 : (Int × Unit) → Option Bool) (q2 : Int) : Nat → Int → Option (Sum Unit (Int × Unit))
 | 0, _ => none
 | n + 1, q3 =>
  cond (decide (q3 < q2))
  ((ay q0 q3).bind fun x3 =>
  (q1 (x3, ())).bind fun r4 =>
  cond r4
  (some (Sum.inr (q3, ())))
  (slices_IndexFunc_lint.l0 q0 q1 q2 n (IntKind.i64.wrap (q3 + (1 : Int)))))
  (some (Sum.inl (())))
def slices_IndexFunc_lint (a0 : List Int) (a1 : (Int × Unit) → Option Bool) : Option (Int × Unit) :=
  (slices_IndexFunc_lint.l0 a0 a1 (a0.length : Int) (Int.toNat (a0.length : Int) + 1) (0 : Int)).bind fun o5 =>
  aG o5
  (fun y6 => some ((-1 : Int), ()))
  (fun z7 => some (z7.1, ()))
def af (a0 : List Int) (a1 : (Int × Unit) → Option Bool) : Option (Bool × Unit) :=
  (slices_IndexFunc_lint a0 a1).bind fun r1 =>
  some ((decide (r1.1 ≥ (0 : Int))), ())
def api_Edge_232.l0 (q0 : List Edge) (q1 : (Edge × Unit) → Option Bool) (q2 : Int) : Nat → Int → Option (Sum Unit (Int × Unit))
 | 0, _ => none
 | n + 1, q3 =>
  cond (decide (q3 < q2))
  ((ay q0 q3).bind fun x3 =>
  (q1 (x3, ())).bind fun r4 =>
  cond r4
  (some (Sum.inr (q3, ())))
  (api_Edge_232.l0 q0 q1 q2 n (IntKind.i64.wrap (q3 + (1 : Int)))))
  (some (Sum.inl (())))
def api_Edge_232 (a0 : List Edge) (a1 : (Edge × Unit) → Option Bool) : Option (Int × Unit) :=
  (api_Edge_232.l0 a0 a1 (a0.length : Int) (Int.toNat (a0.length : Int) + 1) (0 : Int)).bind fun o5 =>
  aG o5
  (fun y6 => some ((-1 : Int), ()))
  (fun z7 => some (z7.1, ()))
def dh (a0 : List Edge) (a1 : (Edge × Unit) → Option Bool) : Option (Bool × Unit) :=
  (api_Edge_232 a0 a1).bind fun r1 =>
  some ((decide (r1.1 ≥ (0 : Int))), ())
def cP (a0 : Int) (a1 : Int) : Option (Bool × Unit) :=
  (cond (decide (a0 ≥ (0 : Int))) (some ((decide (a0 ≤ a1)), ())) (some (false, ()))).bind fun b1 =>
  some (b1.1, ())
def gu (a0 : Edge) (a1 : Int) : Option (Bool × Unit) :=
  ((cP a0.typ (99 : Int)).bind fun r1 =>
  cond r1.1 ((cP a0.frm (IntKind.i64.wrap (a1 - (1 : Int)))).bind fun r2 =>
  cond r2.1 ((cP a0.to (IntKind.i64.wrap (a1 - (1 : Int)))).bind fun r3 =>
  some (r3.1, ())) (some (false, ()))) (some (false, ()))).bind fun b4 =>
  some (b4.1, ())
def eY (a0 : Int) : Option Bool :=
  (cP a0 (99 : Int)).bind fun r1 =>
  some (!r1.1)
def eZ (a0 : Edge) (a1 : ah) : Option Bool :=
  (gu a0 (a1.nodes.length : Int)).bind fun r1 =>
  some (!r1.1)
def cq (a0 : ah) : Option (Int × Unit) :=
  (cond (decide ((a0.nodes.length : Int) > (40 : Int))) (some (true, ())) (some ((decide ((a0.edges.length : Int) > (80 : Int))), ()))).bind fun b1 =>
  cond b1.1
  (some ((3 : Int), ()))
  ((af a0.nodes (fun z2 => eY z2.1)).bind fun r3 =>
  cond r3.1
  (some ((6 : Int), ()))
  ((dh a0.edges (fun z4 => eZ z4.1 a0)).bind fun r5 =>
  cond r5.1
  (some ((6 : Int), ()))
  (some ((0 : Int), ()))))
def bc (a0 : Int) (a1 : Int) (a2 : Int) : Option (Bool × Unit) :=
  (cond (decide (a0 ≥ a1)) (some ((decide (a0 ≤ a2)), ())) (some (false, ()))).bind fun b1 =>
  some (b1.1, ())
def eV (a0 : Int) (a1 : ad) : Option Bool :=
  (cond (decide (a0 < (0 : Int))) (some (true, ())) (some ((decide (a0 ≥ (a1.nodes.length : Int))), ()))).bind fun b1 =>
  some b1.1
def eI (k : Nat) (a0 : ad) (a1 : List Int) : Option (Int × Unit) :=
  (types_Valid k a0).bind fun r1 =>
  cond (r1.2.1 != (0 : Int))
  (some (r1.2.1, ()))
  ((af a1 (fun z2 => eV z2.1 a0)).bind fun r3 =>
  cond r3.1
  (some ((6 : Int), ()))
  (some ((0 : Int), ())))
def types_Attrs.l0 (q1 : Int) : Nat → (List bX) → Int → Option ((List bX) × Unit)
 | 0, _, _ => none
 | n + 1, q0, q2 =>
  cond (decide (q2 < q1))
  (cond (decide (0 ≤ q2) && decide (q2 < ((q0).length : Int))) ((nth q0 (Int.toNat q2)).bind fun x6 =>
  (iM x6.names).bind fun r7 =>
  cond (decide (0 ≤ q2) && decide (q2 < ((q0).length : Int))) ((nth q0 (Int.toNat q2)).bind fun x8 =>
  types_Attrs.l0 q1 n ((q0).set (Int.toNat q2) (⟨x8.name, x8.low, x8.high, r7.1⟩ : bX)) (IntKind.i64.wrap (q2 + (1 : Int)))) none) none)
  (some (q0, ()))
def types_Attrs (k : Nat) (a0 : ad) (a1 : Int) : Option ((List bX) × (Int × Unit)) :=
  (eI k a0 [a1]).bind fun r1 =>
  cond (r1.1 != (0 : Int))
  (some (([] : List bX), r1.1, ()))
  ((cU k a0 a1).bind fun r2 =>
  (types_Attrs.l0 ((r2.1).length : Int) (Int.toNat ((r2.1).length : Int) + 1) r2.1 (0 : Int)).bind fun o9 =>
  some (o9.1, (0 : Int), ()))
def ev (k : Nat) (a0 : ad) (a1 : aj) (a2 : dV) : Option (bX × (Bool × Unit)) :=
  (bc a2.node (0 : Int) (IntKind.i64.wrap ((a1.graph.nodes.length : Int) - (1 : Int)))).bind fun r1 =>
  cond (!r1.1)
  (some ((⟨(⟨#[]⟩ : ByteArray), (0 : Int), (0 : Int), ([] : List ByteArray)⟩ : bX), false, ()))
  ((ay a1.graph.nodes a2.node).bind fun x2 =>
  (types_Attrs k a0 x2).bind fun r3 =>
  (bc a2.attr (0 : Int) (IntKind.i64.wrap (((r3.1).length : Int) - (1 : Int)))).bind fun r4 =>
  cond (!r4.1)
  (some ((⟨(⟨#[]⟩ : ByteArray), (0 : Int), (0 : Int), ([] : List ByteArray)⟩ : bX), false, ()))
  (cond (decide (0 ≤ a2.attr) && decide (a2.attr < ((r3.1).length : Int))) ((nth r3.1 (Int.toNat a2.attr)).bind fun x5 =>
  some (x5, true, ())) none))
def dJ (a0 : Int) (a1 : nj) : Option (Bool × Unit) :=
  (cond (decide (a1.var ≥ (-1 : Int))) (cond (decide (a1.var < a0)) (cond (decide (a1.add ≥ (-1000000 : Int))) (some ((decide (a1.add ≤ (1000000 : Int))), ())) (some (false, ()))) (some (false, ()))) (some (false, ()))).bind fun b1 =>
  some (b1.1, ())
def eD (a0 : Int) (a1 : dN) : Option (Int × Unit) :=
  (cond (a1.kind != (1 : Int)) (some ((a1.kind != (2 : Int)), ())) (some (false, ()))).bind fun b1 =>
  cond b1.1
  (some ((1 : Int), ()))
  (((dJ a0 a1.left).bind fun r2 =>
  cond (!r2.1) (some (true, ())) ((dJ a0 a1.right).bind fun r3 =>
  some ((!r3.1), ()))).bind fun b4 =>
  cond b4.1
  (some ((6 : Int), ()))
  (some ((0 : Int), ())))
def difference_Valid.l0 (q0 : Int) (q1 : List dN) (q2 : Int) : Nat → Int → Option (Sum Unit (Int × Unit))
 | 0, _ => none
 | n + 1, q3 =>
  cond (decide (q3 < q2))
  ((ay q1 q3).bind fun x4 =>
  (eD q0 x4).bind fun r5 =>
  cond (r5.1 != (0 : Int))
  (some (Sum.inr (r5.1, ())))
  (difference_Valid.l0 q0 q1 q2 n (IntKind.i64.wrap (q3 + (1 : Int)))))
  (some (Sum.inl (())))
def difference_Valid (a0 : Int) (a1 : List dN) : Option (Int × Unit) :=
  (cond (decide (a0 < (0 : Int))) (some (true, ())) (some ((decide (a0 > (12 : Int))), ()))).bind fun b1 =>
  cond b1.1
  (some ((6 : Int), ()))
  (cond (decide ((a1.length : Int) > (40 : Int)))
  (some ((3 : Int), ()))
  ((difference_Valid.l0 a0 a1 (a1.length : Int) (Int.toNat (a1.length : Int) + 1) (0 : Int)).bind fun o6 =>
  aG o6
  (fun y7 => some ((0 : Int), ()))
  (fun z8 => some (z8.1, ()))))
def slices_Index_lbool.l0 (q0 : List Bool) (q1 : Bool) (q2 : Int) : Nat → Int → Option (Sum Unit (Int × Unit))
 | 0, _ => none
 | n + 1, q3 =>
  cond (decide (q3 < q2))
  ((ay q0 q3).bind fun x2 =>
  cond (q1 == x2)
  (some (Sum.inr (q3, ())))
  (slices_Index_lbool.l0 q0 q1 q2 n (IntKind.i64.wrap (q3 + (1 : Int)))))
  (some (Sum.inl (())))
def slices_Index_lbool (a0 : List Bool) (a1 : Bool) : Option (Int × Unit) :=
  (slices_Index_lbool.l0 a0 a1 (a0.length : Int) (Int.toNat (a0.length : Int) + 1) (0 : Int)).bind fun o3 =>
  aG o3
  (fun y4 => some ((-1 : Int), ()))
  (fun z5 => some (z5.1, ()))
def cb (a0 : List Bool) (a1 : Bool) : Option (Bool × Unit) :=
  (slices_Index_lbool a0 a1).bind fun r1 =>
  some ((decide (r1.1 ≥ (0 : Int))), ())
def dL (a0 : Int) (a1 : ad) : Option Bool :=
  some (decide (a0 ≥ (a1.nodes.length : Int)))
def dQ (a0 : Edge) (a1 : ad) : Option Bool :=
  some (decide (a0.typ ≥ (a1.edges.length : Int)))
def attribute_Valid.l0 (k : Nat) (q0 : ad) (q1 : aj) (q3 : List dV) (q4 : Int) : Nat → (List Bool) → Int → Option (Sum (aj × ((List Bool) × Unit)) (Int × Unit))
 | 0, _, _ => none
 | n + 1, q2, q5 =>
  cond (decide (q5 < q4))
  ((ay q3 q5).bind fun x22 =>
  (ev k q0 q1 x22).bind fun r23 =>
  (cond (!r23.2.1) (some (true, ())) ((bc x22.term.var (-1 : Int) (IntKind.i64.wrap (q1.vars - (1 : Int)))).bind fun r24 =>
  cond (!r24.1) (some (true, ())) ((bc x22.term.add (-1000000 : Int) (1000000 : Int)).bind fun r25 =>
  some ((!r25.1), ())))).bind fun b26 =>
  cond b26.1
  (some (Sum.inr ((6 : Int), ())))
  (cond (decide (x22.term.var ≥ (0 : Int)))
  (cond (decide (0 ≤ x22.term.var) && decide (x22.term.var < ((q2).length : Int))) ((nth q2 (Int.toNat x22.term.var)).bind fun x27 =>
  attribute_Valid.l0 k q0 q1 q3 q4 n ((q2).set (Int.toNat x22.term.var) true) (IntKind.i64.wrap (q5 + (1 : Int)))) none)
  (attribute_Valid.l0 k q0 q1 q3 q4 n q2 (IntKind.i64.wrap (q5 + (1 : Int))))))
  (some (Sum.inl (q1, q2, ())))
def attribute_Valid (k : Nat) (a0 : ad) (a1 : aj) : Option (Int × Unit) :=
  (types_Valid k a0).bind fun r1 =>
  cond (r1.2.1 != (0 : Int))
  (some (r1.2.1, ()))
  ((cq a1.graph).bind fun r2 =>
  cond (r2.1 != (0 : Int))
  (some (r2.1, ()))
  (((af a1.graph.nodes (fun z3 => dL z3.1 a0)).bind fun r4 =>
  cond r4.1 (some (true, ())) ((dh a1.graph.edges (fun z5 => dQ z5.1 a0)).bind fun r6 =>
  some (r6.1, ()))).bind fun b7 =>
  cond b7.1
  (some ((13 : Int), ()))
  ((bc a1.vars (0 : Int) (12 : Int)).bind fun r8 =>
  cond (!r8.1)
  (some ((6 : Int), ()))
  ((cond (decide ((a1.slots.length : Int) > (10 : Int))) (some (true, ())) (some ((decide ((a1.tests.length : Int) > (10 : Int))), ()))).bind fun b9 =>
  cond b9.1
  (some ((3 : Int), ()))
  (cond (decide (0 ≤ a1.vars) && decide (a1.vars ≤ a1.vars) && cE (Int.toNat a1.vars)) ((attribute_Valid.l0 k a0 a1 a1.slots (a1.slots.length : Int) (Int.toNat (a1.slots.length : Int) + 1) (List.replicate (Int.toNat a1.vars) false) (0 : Int)).bind fun o28 =>
  aG o28
  (fun y29 => (difference_Valid y29.1.vars y29.1.tests).bind fun r31 =>
  cond (r31.1 != (0 : Int))
  (some (r31.1, ()))
  ((cb y29.2.1 false).bind fun r32 =>
  cond r32.1
  (some ((9 : Int), ()))
  (some ((0 : Int), ()))))
  (fun z30 => some (z30.1, ()))) none)))))
def gk (a0 : Int) (a1 : ad) : Option Bool :=
  some (decide (a0 ≥ (a1.nodes.length : Int)))
def gg (a0 : Edge) (a1 : ad) : Option Bool :=
  some (decide (a0.typ ≥ (a1.edges.length : Int)))
def gx (a0 : ad) (a1 : ah) : Option (Bool × Unit) :=
  ((af a1.nodes (fun z1 => gk z1.1 a0)).bind fun r2 =>
  cond (!r2.1) ((dh a1.edges (fun z3 => gg z3.1 a0)).bind fun r4 =>
  some ((!r4.1), ())) (some (false, ()))).bind fun b5 =>
  some (b5.1, ())
def api_Slot_267.l0 (q0 : List dV) (q1 : (dV × Unit) → Option Bool) (q2 : Int) : Nat → Int → Option (Sum Unit (Int × Unit))
 | 0, _ => none
 | n + 1, q3 =>
  cond (decide (q3 < q2))
  ((ay q0 q3).bind fun x3 =>
  (q1 (x3, ())).bind fun r4 =>
  cond r4
  (some (Sum.inr (q3, ())))
  (api_Slot_267.l0 q0 q1 q2 n (IntKind.i64.wrap (q3 + (1 : Int)))))
  (some (Sum.inl (())))
def api_Slot_267 (a0 : List dV) (a1 : (dV × Unit) → Option Bool) : Option (Int × Unit) :=
  (api_Slot_267.l0 a0 a1 (a0.length : Int) (Int.toNat (a0.length : Int) + 1) (0 : Int)).bind fun o5 =>
  aG o5
  (fun y6 => some ((-1 : Int), ()))
  (fun z7 => some (z7.1, ()))
def eO (a0 : List dV) (a1 : (dV × Unit) → Option Bool) : Option (Bool × Unit) :=
  (api_Slot_267 a0 a1).bind fun r1 =>
  some ((decide (r1.1 ≥ (0 : Int))), ())
def fR (a0 : dV) (a1 : dV) : Option Bool :=
  (cond (a0.node == a1.node) (some ((a0.attr == a1.attr), ())) (some (false, ()))).bind fun b1 =>
  some b1.1
def ii (k : Nat) (a0 : ad) (a1 : aH) (a2 : Int) : Option (Int × Unit) :=
  (ay a1.right.slots a2).bind fun x1 =>
  (cond (decide (x1.node < (0 : Int))) (some (true, ())) (some ((decide (x1.node ≥ (a1.right.graph.nodes.length : Int))), ()))).bind fun b2 =>
  cond b2.1
  (some ((6 : Int), ()))
  ((ay a1.right.graph.nodes x1.node).bind fun x3 =>
  (types_Attrs k a0 x3).bind fun r4 =>
  (cond (decide (x1.attr < (0 : Int))) (some (true, ())) (cond (decide (x1.attr ≥ ((r4.1).length : Int))) (some (true, ())) (cond (decide (x1.term.var < (-1 : Int))) (some (true, ())) (cond (decide (x1.term.var ≥ a1.right.vars)) (some (true, ())) (cond (decide (x1.term.add < (-1000000 : Int))) (some (true, ())) (some ((decide (x1.term.add > (1000000 : Int))), ()))))))).bind fun b5 =>
  cond b5.1
  (some ((6 : Int), ()))
  (cond (decide (0 ≤ (0 : Int)) && decide ((0 : Int) ≤ a2) && decide (a2 ≤ (a1.right.slots.length : Int))) ((eO (slc a1.right.slots 0 (Int.toNat a2)) (fun z6 => fR z6.1 x1)).bind fun r7 =>
  cond r7.1
  (some ((5 : Int), ()))
  (some ((0 : Int), ()))) none))
def rule_right.l1 (k : Nat) (q0 : ad) (q1 : aH) (q2 : Int) : Nat → Int → Option (Sum Unit (Int × Unit))
 | 0, _ => none
 | n + 1, q3 =>
  cond (decide (q3 < q2))
  ((ii k q0 q1 q3).bind fun r6 =>
  cond (r6.1 != (0 : Int))
  (some (Sum.inr (r6.1, ())))
  (rule_right.l1 k q0 q1 q2 n (IntKind.i64.wrap (q3 + (1 : Int)))))
  (some (Sum.inl (())))
def rule_right (k : Nat) (a0 : ad) (a1 : aH) : Option (Int × Unit) :=
  (cq a1.right.graph).bind fun r1 =>
  cond (r1.1 != (0 : Int))
  (some (r1.1, ()))
  ((gx a0 a1.right.graph).bind fun r2 =>
  cond (!r2.1)
  (some ((13 : Int), ()))
  ((cond (a1.right.vars != a1.left.vars) (some (true, ())) (some ((decide ((a1.right.tests.length : Int) > (0 : Int))), ()))).bind fun b3 =>
  cond b3.1
  (some ((1 : Int), ()))
  (cond (decide ((a1.right.slots.length : Int) > (10 : Int)))
  (some ((3 : Int), ()))
  ((rule_right.l1 k a0 a1 (a1.right.slots.length : Int) (Int.toNat (a1.right.slots.length : Int) + 1) (0 : Int)).bind fun o7 =>
  aG o7
  (fun y8 => some ((0 : Int), ()))
  (fun z9 => some (z9.1, ()))))))
def subgraph_list.l0 (q0 : List Int) (q1 : Int) (q2 : List Int) (q3 : Int) : Nat → Int → Option (Sum Unit (Int × Unit))
 | 0, _ => none
 | n + 1, q4 =>
  cond (decide (q4 < q3))
  ((ay q2 q4).bind fun x5 =>
  (cond (decide (x5 < (0 : Int))) (some (true, ())) (some ((decide (x5 ≥ q1)), ()))).bind fun b6 =>
  cond b6.1
  (some (Sum.inr ((6 : Int), ())))
  ((cond (decide (q4 > (0 : Int))) ((ay q0 (IntKind.i64.wrap (q4 - (1 : Int)))).bind fun x7 =>
  some ((decide (x5 ≤ x7)), ())) (some (false, ()))).bind fun b8 =>
  cond b8.1
  (some (Sum.inr ((12 : Int), ())))
  (subgraph_list.l0 q0 q1 q2 q3 n (IntKind.i64.wrap (q4 + (1 : Int))))))
  (some (Sum.inl (())))
def subgraph_list (a0 : List Int) (a1 : Int) : Option (Int × Unit) :=
  (subgraph_list.l0 a0 a1 a0 (a0.length : Int) (Int.toNat (a0.length : Int) + 1) (0 : Int)).bind fun o9 =>
  aG o9
  (fun y10 => some ((0 : Int), ()))
  (fun z11 => some (z11.1, ()))
def eW (a0 : Int) : Option (Bool × Unit) :=
  some ((a0 != a0), ())
def gl (a0 : Int) (a1 : Int) : Option (Bool × Unit) :=
  ((eW a0).bind fun r1 =>
  cond r1.1 ((eW a1).bind fun r2 =>
  cond (!r2.1) (some (true, ())) (some ((decide (a0 < a1)), ()))) (some ((decide (a0 < a1)), ()))).bind fun b3 =>
  some (b3.1, ())
def dp (a0 : Int) : Option (Bool × Unit) :=
  some ((a0 != a0), ())
def slices_BinarySearch_lint.l0 (q0 : List Int) (q1 : Int) (q2 : Int) : Nat → Int → Int → Option ((List Int) × (Int × (Int × (Int × Unit))))
 | 0, _, _ => none
 | n + 1, q3, q4 =>
  cond (decide (q3 < q4))
  (cond (decide (0 ≤ (1 : Int))) ((ay q0 (IntKind.i64.wrap (Int.fdiv (IntKind.u64.wrap (IntKind.i64.wrap (q3 + q4))) (2 ^ (min (Int.toNat (1 : Int)) (IntKind.bits .u64)))))).bind fun x3 =>
  (gl x3 q1).bind fun r4 =>
  cond r4.1
  (slices_BinarySearch_lint.l0 q0 q1 q2 n (IntKind.i64.wrap ((IntKind.i64.wrap (Int.fdiv (IntKind.u64.wrap (IntKind.i64.wrap (q3 + q4))) (2 ^ (min (Int.toNat (1 : Int)) (IntKind.bits .u64))))) + (1 : Int))) q4)
  (slices_BinarySearch_lint.l0 q0 q1 q2 n q3 (IntKind.i64.wrap (Int.fdiv (IntKind.u64.wrap (IntKind.i64.wrap (q3 + q4))) (2 ^ (min (Int.toNat (1 : Int)) (IntKind.bits .u64))))))) none)
  (some (q0, q1, q2, q3, ()))
def slices_BinarySearch_lint (k : Nat) (a0 : List Int) (a1 : Int) : Option (Int × (Bool × Unit)) :=
  (slices_BinarySearch_lint.l0 a0 a1 (a0.length : Int) k (0 : Int) (a0.length : Int)).bind fun o5 =>
  (cond (decide (o5.2.2.2.1 < o5.2.2.1)) ((ay o5.1 o5.2.2.2.1).bind fun x6 =>
  cond (x6 == o5.2.1) (some (o5.2.2.2.1, true, ())) ((ay o5.1 o5.2.2.2.1).bind fun x7 =>
  (dp x7).bind fun r8 =>
  cond r8.1 ((dp o5.2.1).bind fun r9 =>
  some (o5.2.2.2.1, r9.1, ())) (some (o5.2.2.2.1, false, ())))) (some (o5.2.2.2.1, false, ()))).bind fun b10 =>
  some (b10.1, b10.2.1, ())
def ft (k : Nat) (a0 : List Int) (a1 : Int) : Option (Bool × Unit) :=
  (slices_BinarySearch_lint k a0 a1).bind fun r1 =>
  some (r1.2.1, ())
def subgraph_part.l0 (k : Nat) (q0 : ah) (q1 : eB) (q2 : List Int) (q3 : Int) : Nat → Int → Option (Sum Unit (Int × Unit))
 | 0, _ => none
 | n + 1, q4 =>
  cond (decide (q4 < q3))
  ((ay q2 q4).bind fun x15 =>
  ((ay q0.edges x15).bind fun x16 =>
  (ft k q1.nodes x16.frm).bind fun r17 =>
  cond (!r17.1) (some (true, ())) ((ay q0.edges x15).bind fun x18 =>
  (ft k q1.nodes x18.to).bind fun r19 =>
  some ((!r19.1), ()))).bind fun b20 =>
  cond b20.1
  (some (Sum.inr ((14 : Int), ())))
  (subgraph_part.l0 k q0 q1 q2 q3 n (IntKind.i64.wrap (q4 + (1 : Int)))))
  (some (Sum.inl (())))
def subgraph_part (k : Nat) (a0 : ah) (a1 : eB) : Option (Int × Unit) :=
  (subgraph_list a1.nodes (a0.nodes.length : Int)).bind fun r1 =>
  cond (r1.1 != (0 : Int))
  (some (r1.1, ()))
  ((subgraph_list a1.edges (a0.edges.length : Int)).bind fun r2 =>
  cond (r2.1 != (0 : Int))
  (some (r2.1, ()))
  ((subgraph_part.l0 k a0 a1 a1.edges (a1.edges.length : Int) (Int.toNat (a1.edges.length : Int) + 1) (0 : Int)).bind fun o21 =>
  aG o21
  (fun y22 => some ((0 : Int), ()))
  (fun z23 => some (z23.1, ()))))
def et (k : Nat) (a0 : ah) (a1 : eB) : Option (Int × Unit) :=
  (cq a0).bind fun r1 =>
  cond (r1.1 != (0 : Int))
  (some (r1.1, ()))
  ((subgraph_part k a0 a1).bind fun r2 =>
  some (r2.1, ()))
def subgraph_Extract.l0 (q0 : ah) (q1 : eB) (q2 : List Int) (q3 : List Edge) (q4 : List Int) (q5 : List Int) (q7 : List Edge) (q8 : List Int) (q9 : Int) : Nat → (List Int) → Int → Option (ah × (eB × (((List Int) × ((List Edge) × Unit)) × (((List Int) × ((List Int) × Unit)) × (((List Int) × ((List Edge) × Unit)) × Unit)))))
 | 0, _, _ => none
 | n + 1, q6, q10 =>
  cond (decide (q10 < q9))
  ((ay q8 q10).bind fun x4 =>
  (ay q0.nodes x4).bind fun x5 =>
  cond (cE ((q6).length + ([x5]).length)) (subgraph_Extract.l0 q0 q1 q2 q3 q4 q5 q7 q8 q9 n (q6 ++ [x5]) (IntKind.i64.wrap (q10 + (1 : Int)))) none)
  (some (q0, q1, (q2, q3, ()), (q4, q5, ()), (q6, q7, ()), ()))
def subgraph_Extract.l2 (k : Nat) (q0 : ah) (q1 : eB) (q2 : List Int) (q3 : List Edge) (q4 : List Int) (q5 : List Int) (q6 : List Int) (q8 : List Int) (q9 : Int) : Nat → (List Edge) → Int → Option (eB × (((List Int) × ((List Edge) × Unit)) × (((List Int) × ((List Int) × Unit)) × (((List Int) × ((List Edge) × Unit)) × Unit))))
 | 0, _, _ => none
 | n + 1, q7, q10 =>
  cond (decide (q10 < q9))
  ((ay q8 q10).bind fun x15 =>
  (ay q0.edges x15).bind fun x16 =>
  (slices_BinarySearch_lint k q1.nodes x16.frm).bind fun r17 =>
  (slices_BinarySearch_lint k q1.nodes x16.to).bind fun r18 =>
  cond (cE ((q7).length + ([(⟨x16.typ, r17.1, r18.1⟩ : Edge)]).length)) (subgraph_Extract.l2 k q0 q1 q2 q3 q4 q5 q6 q8 q9 n (q7 ++ [(⟨x16.typ, r17.1, r18.1⟩ : Edge)]) (IntKind.i64.wrap (q10 + (1 : Int)))) none)
  (some (q1, (q2, q3, ()), (q4, q5, ()), (q6, q7, ()), ()))
def subgraph_Extract (k : Nat) (a0 : ah) (a1 : eB) : Option (((List Int) × ((List Edge) × Unit)) × (((List Int) × ((List Int) × Unit)) × (Int × Unit))) :=
  (et k a0 a1).bind fun r1 =>
  cond (r1.1 != (0 : Int))
  (some ((([] : List Int), ([] : List Edge), ()), (([] : List Int), ([] : List Int), ()), r1.1, ()))
  ((subgraph_Extract.l0 a0 a1 ([] : List Int) ([] : List Edge) ([] : List Int) ([] : List Int) ([] : List Edge) a1.nodes (a1.nodes.length : Int) (Int.toNat (a1.nodes.length : Int) + 1) ([] : List Int) (0 : Int)).bind fun o6 =>
  (subgraph_Extract.l2 k o6.1 o6.2.1 o6.2.2.1.1 o6.2.2.1.2.1 o6.2.2.2.1.1 o6.2.2.2.1.2.1 o6.2.2.2.2.1.1 o6.2.1.edges (o6.2.1.edges.length : Int) (Int.toNat (o6.2.1.edges.length : Int) + 1) o6.2.2.2.2.1.2.1 (0 : Int)).bind fun o19 =>
  (iM o19.1.nodes).bind fun r20 =>
  (iM o19.1.edges).bind fun r21 =>
  some ((o19.2.2.2.1.1, o19.2.2.2.1.2.1, ()), (r20.1, r21.1, ()), (0 : Int), ()))
def morphism_Valid.l0 (q0 : ah) (q1 : ah) (q2 : aP) (q3 : List Int) (q4 : Int) : Nat → Int → Option (Sum (ah × (ah × (aP × Unit))) (Int × Unit))
 | 0, _ => none
 | n + 1, q5 =>
  cond (decide (q5 < q4))
  ((ay q3 q5).bind fun x8 =>
  (cond (decide (x8 < (0 : Int))) (some (true, ())) (some ((decide (x8 ≥ (q1.nodes.length : Int))), ()))).bind fun b9 =>
  cond b9.1
  (some (Sum.inr ((6 : Int), ())))
  ((ay q1.nodes x8).bind fun x10 =>
  (ay q0.nodes q5).bind fun x11 =>
  cond (x10 != x11)
  (some (Sum.inr ((13 : Int), ())))
  (morphism_Valid.l0 q0 q1 q2 q3 q4 n (IntKind.i64.wrap (q5 + (1 : Int))))))
  (some (Sum.inl (q0, q1, q2, ())))
def morphism_Valid.l2 (q0 : ah) (q1 : ah) (q2 : aP) (q3 : List Int) (q4 : Int) : Nat → Int → Option (Sum Unit (Int × Unit))
 | 0, _ => none
 | n + 1, q5 =>
  cond (decide (q5 < q4))
  ((ay q3 q5).bind fun x22 =>
  (cond (decide (x22 < (0 : Int))) (some (true, ())) (some ((decide (x22 ≥ (q1.edges.length : Int))), ()))).bind fun b23 =>
  cond b23.1
  (some (Sum.inr ((6 : Int), ())))
  ((ay q0.edges q5).bind fun x24 =>
  (ay q1.edges x22).bind fun x25 =>
  cond (x24.typ != x25.typ)
  (some (Sum.inr ((13 : Int), ())))
  (((ay q2.nodes x24.frm).bind fun x26 =>
  cond (x26 != x25.frm) (some (true, ())) ((ay q2.nodes x24.to).bind fun x27 =>
  some ((x27 != x25.to), ()))).bind fun b28 =>
  cond b28.1
  (some (Sum.inr ((11 : Int), ())))
  (morphism_Valid.l2 q0 q1 q2 q3 q4 n (IntKind.i64.wrap (q5 + (1 : Int)))))))
  (some (Sum.inl (())))
def morphism_Valid (a0 : ah) (a1 : ah) (a2 : aP) : Option (Int × Unit) :=
  (cq a0).bind fun r1 =>
  cond (r1.1 != (0 : Int))
  (some (r1.1, ()))
  ((cq a1).bind fun r2 =>
  cond (r2.1 != (0 : Int))
  (some (r2.1, ()))
  ((cond ((a2.nodes.length : Int) != (a0.nodes.length : Int)) (some (true, ())) (some (((a2.edges.length : Int) != (a0.edges.length : Int)), ()))).bind fun b3 =>
  cond b3.1
  (some ((20 : Int), ()))
  ((morphism_Valid.l0 a0 a1 a2 a2.nodes (a2.nodes.length : Int) (Int.toNat (a2.nodes.length : Int) + 1) (0 : Int)).bind fun o12 =>
  aG o12
  (fun y13 => (morphism_Valid.l2 y13.1 y13.2.1 y13.2.2.1 y13.2.2.1.edges (y13.2.2.1.edges.length : Int) (Int.toNat (y13.2.2.1.edges.length : Int) + 1) (0 : Int)).bind fun o29 =>
  aG o29
  (fun y30 => some ((0 : Int), ()))
  (fun z31 => some (z31.1, ())))
  (fun z14 => some (z14.1, ())))))
def slices_Compact_lint.l2  : Nat → (List Int) → Int → Int → Int → Int → Option ((List Int) × (Int × Unit))
 | 0, _, _, _, _, _ => none
 | n + 1, q0, q1, q2, q3, q4 =>
  cond (decide (q4 < (((Int.toNat q3) - (Int.toNat q2) : Nat) : Int)))
  (cond (decide (0 ≤ q4) && decide (q4 < (((Int.toNat q3) - (Int.toNat q2) : Nat) : Int)) && decide ((Int.toNat q3) ≤ (q0).length)) ((nth q0 ((Int.toNat q2) + (Int.toNat q4))).bind fun x7 =>
  cond (decide (0 ≤ IntKind.i64.wrap (q4 - (1 : Int))) && decide (IntKind.i64.wrap (q4 - (1 : Int)) < (((Int.toNat q3) - (Int.toNat q2) : Nat) : Int)) && decide ((Int.toNat q3) ≤ (q0).length)) ((nth q0 ((Int.toNat q2) + (Int.toNat (IntKind.i64.wrap (q4 - (1 : Int)))))).bind fun x8 =>
  cond (x7 != x8)
  (cond (decide (0 ≤ q4) && decide (q4 < (((Int.toNat q3) - (Int.toNat q2) : Nat) : Int)) && decide ((Int.toNat q3) ≤ (q0).length)) ((nth q0 ((Int.toNat q2) + (Int.toNat q4))).bind fun x9 =>
  cond (decide (0 ≤ q1) && decide (q1 < ((q0).length : Int))) ((nth q0 (Int.toNat q1)).bind fun x10 =>
  slices_Compact_lint.l2 n ((q0).set (Int.toNat q1) x9) (IntKind.i64.wrap (q1 + (1 : Int))) (((Int.toNat q2) : Nat) : Int) (((Int.toNat q3) : Nat) : Int) (IntKind.i64.wrap (q4 + (1 : Int)))) none) none)
  (slices_Compact_lint.l2 n q0 q1 (((Int.toNat q2) : Nat) : Int) (((Int.toNat q3) : Nat) : Int) (IntKind.i64.wrap (q4 + (1 : Int))))) none) none)
  (some (q0, q1, ()))
def slices_Compact_lint.l0 (k : Nat) (q0 : List Int) : Nat → Int → Option (Sum ((List Int) × Unit) ((List Int) × ((Int × Int) × Unit)))
 | 0, _ => none
 | n + 1, q1 =>
  cond (decide (q1 < ((q0).length : Int)))
  (cond (decide (0 ≤ q1) && decide (q1 < ((q0).length : Int))) ((nth q0 (Int.toNat q1)).bind fun x15 =>
  cond (decide (0 ≤ IntKind.i64.wrap (q1 - (1 : Int))) && decide (IntKind.i64.wrap (q1 - (1 : Int)) < ((q0).length : Int))) ((nth q0 (Int.toNat (IntKind.i64.wrap (q1 - (1 : Int))))).bind fun x16 =>
  cond (x15 == x16)
  (cond (decide (0 ≤ q1) && decide (q1 ≤ ((q0).length : Int)) && decide (((q0).length : Int) ≤ ((q0).length : Int))) ((slices_Compact_lint.l2 k q0 q1 (((Int.toNat q1) : Nat) : Int) (((Int.toNat ((q0).length : Int)) : Nat) : Int) (1 : Int)).bind fun o17 =>
  cond (decide (0 ≤ o17.2.1) && decide (o17.2.1 ≤ ((o17.1).length : Int)) && decide (((o17.1).length : Int) ≤ ((o17.1).length : Int))) (cond (decide ((Int.toNat o17.2.1) ≤ (Int.toNat ((o17.1).length : Int))) && decide ((Int.toNat ((o17.1).length : Int)) ≤ (o17.1).length)) (cond (decide (0 ≤ (0 : Int)) && decide ((0 : Int) ≤ o17.2.1) && decide (o17.2.1 ≤ ((nH o17.1 (Int.toNat o17.2.1) (List.replicate ((Int.toNat ((o17.1).length : Int)) - (Int.toNat o17.2.1)) (0 : Int))).length : Int))) (some (Sum.inr (nH o17.1 (Int.toNat o17.2.1) (List.replicate ((Int.toNat ((o17.1).length : Int)) - (Int.toNat o17.2.1)) (0 : Int)), (((0 : Nat) : Int), (((Int.toNat o17.2.1) : Nat) : Int)), ()))) none) none) none) none)
  (slices_Compact_lint.l0 k q0 n (IntKind.i64.wrap (q1 + (1 : Int))))) none) none)
  (some (Sum.inl (q0, ())))
def slices_Compact_lint (k : Nat) (a0 : List Int) : Option ((List Int) × ((Int × Int) × Unit)) :=
  cond (decide (((a0).length : Int) < (2 : Int)))
  (some (a0, ((0 : Int), ((a0).length : Int)), ()))
  ((slices_Compact_lint.l0 k a0 k (1 : Int)).bind fun o18 =>
  aG o18
  (fun y19 => some (y19.1, ((0 : Int), ((y19.1).length : Int)), ()))
  (fun z20 => some (z20.1, ((((Int.toNat z20.2.1.1) : Nat) : Int), (((Int.toNat z20.2.1.2) : Nat) : Int)), ())))
def cX (k : Nat) (a0 : List Int) : Option (Int × Unit) :=
  (iM a0).bind fun r1 =>
  (slices_Sort_int r1.1).bind fun r2 =>
  (slices_Compact_lint k r2.1).bind fun r3 =>
  some ((((Int.toNat r3.2.1.2) - (Int.toNat r3.2.1.1) : Nat) : Int), ())
def bP (k : Nat) (a0 : ah) (a1 : ah) (a2 : aP) : Option (Bool × Unit) :=
  ((morphism_Valid a0 a1 a2).bind fun r1 =>
  cond (r1.1 == (0 : Int)) ((cX k a2.nodes).bind fun r2 =>
  cond (r2.1 == (a2.nodes.length : Int)) ((cX k a2.edges).bind fun r3 =>
  some ((r3.1 == (a2.edges.length : Int)), ())) (some (false, ()))) (some (false, ()))).bind fun b4 =>
  some (b4.1, ())
def ig (k : Nat) (a0 : aH) : Option (Int × Unit) :=
  (subgraph_Extract k a0.left.graph a0.keep).bind fun r1 =>
  cond (r1.2.2.1 != (0 : Int))
  (some (r1.2.2.1, ()))
  ((morphism_Valid (⟨r1.1.1, r1.1.2.1⟩ : ah) a0.right.graph a0.into).bind fun r2 =>
  cond (r2.1 != (0 : Int))
  (some (r2.1, ()))
  ((bP k (⟨r1.1.1, r1.1.2.1⟩ : ah) a0.right.graph a0.into).bind fun r3 =>
  cond (!r3.1)
  (some ((11 : Int), ()))
  (some ((0 : Int), ()))))
def slices_Reverse_lint.l0  : Nat → (List Int) → Int → Int → Option ((List Int) × Unit)
 | 0, _, _, _ => none
 | n + 1, q0, q1, q2 =>
  cond (decide (q1 < q2))
  (cond (decide (0 ≤ q2) && decide (q2 < ((q0).length : Int))) ((nth q0 (Int.toNat q2)).bind fun x5 =>
  cond (decide (0 ≤ q1) && decide (q1 < ((q0).length : Int))) ((nth q0 (Int.toNat q1)).bind fun x6 =>
  cond (decide (0 ≤ q1) && decide (q1 < ((q0).length : Int))) ((nth q0 (Int.toNat q1)).bind fun x7 =>
  cond (decide (0 ≤ q2) && decide (q2 < (((q0).set (Int.toNat q1) x5).length : Int))) ((nth ((q0).set (Int.toNat q1) x5) (Int.toNat q2)).bind fun x8 =>
  slices_Reverse_lint.l0 n (((q0).set (Int.toNat q1) x5).set (Int.toNat q2) x6) (IntKind.i64.wrap (q1 + (1 : Int))) (IntKind.i64.wrap (q2 - (1 : Int)))) none) none) none) none)
  (some (q0, ()))
def slices_Reverse_lint (k : Nat) (a0 : List Int) : Option ((List Int) × Unit) :=
  (slices_Reverse_lint.l0 k a0 (0 : Int) (IntKind.i64.wrap (((a0).length : Int) - (1 : Int)))).bind fun o9 =>
  some (o9.1, ())
def types_line.l0 (q1 : ad) : Nat → Int → (List Int) → Option ((List Int) × Unit)
 | 0, _, _ => none
 | n + 1, q0, q2 =>
  cond (decide (q0 ≥ (0 : Int)))
  (cond (cE ((q2).length + ([q0]).length)) ((ay q1.nodes q0).bind fun x2 =>
  types_line.l0 q1 n x2.parent (q2 ++ [q0])) none)
  (some (q2, ()))
def types_line (k : Nat) (a0 : ad) (a1 : Int) : Option ((List Int) × Unit) :=
  (types_line.l0 a0 k a1 ([] : List Int)).bind fun o3 =>
  (slices_Reverse_lint k o3.1).bind fun r4 =>
  some (r4.1, ())
def iz (k : Nat) (a0 : ad) (a1 : Int) (a2 : Int) : Option (Bool × Unit) :=
  (types_line k a0 a1).bind fun r1 =>
  (bC r1.1 a2).bind fun r2 =>
  some (r2.1, ())
def gA (k : Nat) (a0 : ad) (a1 : Int) (a2 : Int) (a3 : Int) : Option (Bool × Unit) :=
  ((eI k a0 [a2, a3]).bind fun r1 =>
  cond (r1.1 != (0 : Int)) (some (true, ())) (cond (decide (a1 < (0 : Int))) (some (true, ())) (some ((decide (a1 ≥ (a0.edges.length : Int))), ())))).bind fun b2 =>
  cond b2.1
  (some (false, ()))
  (((ay a0.edges a1).bind fun x3 =>
  (iz k a0 a2 x3.frm).bind fun r4 =>
  cond r4.1 ((ay a0.edges a1).bind fun x5 =>
  (iz k a0 a3 x5.to).bind fun r6 =>
  some (r6.1, ())) (some (false, ()))).bind fun b7 =>
  some (b7.1, ()))
def ec (a0 : Int) (a1 : ad) (a2 : ah) : Option Bool :=
  (ay a2.nodes a0).bind fun x1 =>
  (ay a1.nodes x1).bind fun x2 =>
  some x2.abstract
def ez (k : Nat) (a0 : Int) (a1 : ah) (a2 : ad) : Option Bool :=
  (ay a1.edges a0).bind fun x1 =>
  (ay a1.nodes x1.frm).bind fun x2 =>
  (ay a1.nodes x1.to).bind fun x3 =>
  (gA k a2 x1.typ x2 x3).bind fun r4 =>
  some (!r4.1)
def fx (k : Nat) (a0 : ad) (a1 : ah) (a2 : List Int) (a3 : List Int) : Option (Bool × Unit) :=
  ((af a2 (fun z1 => ec z1.1 a0 a1)).bind fun r2 =>
  cond (!r2.1) ((af a3 (fun z3 => ez k z3.1 a1 a0)).bind fun r4 =>
  some ((!r4.1), ())) (some (false, ()))).bind fun b5 =>
  some (b5.1, ())
def cD (a0 : ae) : Option (Bool × Unit) :=
  (cond ((IntKind.i64.wrap ((IntKind.i64.wrap ((IntKind.i64.wrap ((IntKind.i64.wrap ((IntKind.i64.wrap ((a0.map.nodes.length : Int) + (a0.map.edges.length : Int))) + (a0.pattern.graph.nodes.length : Int))) + (a0.pattern.graph.edges.length : Int))) + (a0.pattern.slots.length : Int))) + (a0.pattern.tests.length : Int))) == (0 : Int)) (some ((a0.pattern.vars == (0 : Int)), ())) (some (false, ()))).bind fun b1 =>
  some (b1.1, ())
def api_Condition_282.l0 (q0 : List ae) (q1 : (ae × Unit) → Option Bool) (q2 : Int) : Nat → Int → Option (Sum Unit (Int × Unit))
 | 0, _ => none
 | n + 1, q3 =>
  cond (decide (q3 < q2))
  ((ay q0 q3).bind fun x3 =>
  (q1 (x3, ())).bind fun r4 =>
  cond r4
  (some (Sum.inr (q3, ())))
  (api_Condition_282.l0 q0 q1 q2 n (IntKind.i64.wrap (q3 + (1 : Int)))))
  (some (Sum.inl (())))
def api_Condition_282 (a0 : List ae) (a1 : (ae × Unit) → Option Bool) : Option (Int × Unit) :=
  (api_Condition_282.l0 a0 a1 (a0.length : Int) (Int.toNat (a0.length : Int) + 1) (0 : Int)).bind fun o5 =>
  aG o5
  (fun y6 => some ((-1 : Int), ()))
  (fun z7 => some (z7.1, ()))
def bA (a0 : List ae) (a1 : (ae × Unit) → Option Bool) : Option (Bool × Unit) :=
  (api_Condition_282 a0 a1).bind fun r1 =>
  some ((decide (r1.1 ≥ (0 : Int))), ())
def aC (rec_ : ae → Option (Bool × Unit)) (a0 : ae) : Option Bool :=
  (rec_ a0).bind fun r1 =>
  some (!r1.1)
def ap : Nat → ae → Option (Bool × Unit)
 | 0, _ => none
 | k + 1, a0 =>
  cond (a0.kind == (1 : Int))
  ((cond ((a0.kids.length : Int) == (0 : Int)) ((cD a0).bind fun r1 =>
  some (r1.1, ())) (some (false, ()))).bind fun b2 =>
  (cond b2.1 ((bA a0.kids (fun z3 => aC (ap k) z3.1)).bind fun r4 =>
  some ((!r4.1), ())) (some (false, ()))).bind fun b5 =>
  some (b5.1, ()))
  (cond (a0.kind == (2 : Int))
  ((cond ((a0.kids.length : Int) == (1 : Int)) ((cD a0).bind fun r6 =>
  some (r6.1, ())) (some (false, ()))).bind fun b7 =>
  (cond b7.1 ((bA a0.kids (fun z8 => aC (ap k) z8.1)).bind fun r9 =>
  some ((!r9.1), ())) (some (false, ()))).bind fun b10 =>
  some (b10.1, ()))
  (cond (a0.kind == (3 : Int))
  (cond (a0.kind == (3 : Int))
  ((cond (decide ((a0.kids.length : Int) ≥ (1 : Int))) ((cD a0).bind fun r11 =>
  some (r11.1, ())) (some (false, ()))).bind fun b12 =>
  (cond b12.1 ((bA a0.kids (fun z13 => aC (ap k) z13.1)).bind fun r14 =>
  some ((!r14.1), ())) (some (false, ()))).bind fun b15 =>
  some (b15.1, ()))
  (cond (a0.kind == (5 : Int))
  ((cond ((a0.kids.length : Int) == (1 : Int)) ((bA a0.kids (fun z16 => aC (ap k) z16.1)).bind fun r17 =>
  some ((!r17.1), ())) (some (false, ()))).bind fun b18 =>
  some (b18.1, ()))
  ((some (false, ())).bind fun b19 =>
  some (b19.1, ()))))
  (cond (a0.kind == (4 : Int))
  ((cond (decide ((a0.kids.length : Int) ≥ (1 : Int))) ((cD a0).bind fun r20 =>
  some (r20.1, ())) (some (false, ()))).bind fun b21 =>
  (cond b21.1 ((bA a0.kids (fun z22 => aC (ap k) z22.1)).bind fun r23 =>
  some ((!r23.1), ())) (some (false, ()))).bind fun b24 =>
  some (b24.1, ()))
  (cond (a0.kind == (5 : Int))
  ((cond ((a0.kids.length : Int) == (1 : Int)) ((bA a0.kids (fun z25 => aC (ap k) z25.1)).bind fun r26 =>
  some ((!r26.1), ())) (some (false, ()))).bind fun b27 =>
  some (b27.1, ()))
  ((some (false, ())).bind fun b28 =>
  some (b28.1, ()))))))
def condition_measure.l0 (rec_ : ae → Option (Int × (Int × Unit))) (q0 : ae) (q3 : List ae) (q4 : Int) : Nat → Int → Int → Int → Option (ae × (Int × (Int × Unit)))
 | 0, _, _, _ => none
 | n + 1, q1, q2, q5 =>
  cond (decide (q5 < q4))
  ((ay q3 q5).bind fun x5 =>
  (rec_ x5).bind fun r6 =>
  condition_measure.l0 rec_ q0 q3 q4 n (IntKind.i64.wrap (q1 + r6.1)) (fH q2 r6.2.1) (IntKind.i64.wrap (q5 + (1 : Int))))
  (some (q0, q1, q2, ()))
def condition_measure : Nat → ae → Option (Int × (Int × Unit))
 | 0, _ => none
 | k + 1, a0 =>
  (condition_measure.l0 (condition_measure k) a0 a0.kids (a0.kids.length : Int) (Int.toNat (a0.kids.length : Int) + 1) (1 : Int) (0 : Int) (0 : Int)).bind fun o7 =>
  cond (o7.1.kind == (5 : Int))
  (some (o7.2.1, IntKind.i64.wrap (o7.2.2.1 + (1 : Int)), ()))
  (some (o7.2.1, o7.2.2.1, ()))
def dK (k : Nat) (a0 : ae) : Option (Int × Unit) :=
  (ap k a0).bind fun r1 =>
  cond (!r1.1)
  (some ((1 : Int), ()))
  ((condition_measure k a0).bind fun r2 =>
  (cond (decide (r2.1 > (12 : Int))) (some (true, ())) (some ((decide (r2.2.1 > (3 : Int))), ()))).bind fun b3 =>
  cond b3.1
  (some ((3 : Int), ()))
  (some ((0 : Int), ())))
def d9 (a0 : dV) (a1 : Int) : Option Bool :=
  some (a0.term.var == a1)
def condition_pattern.l0 (q0 : aj) (q1 : Int) : Nat → Int → Option (Sum Unit (Int × Unit))
 | 0, _ => none
 | n + 1, q2 =>
  cond (decide (q2 < q0.vars))
  ((eO q0.slots (fun z4 => d9 z4.1 q2)).bind fun r5 =>
  cond (!r5.1)
  (some (Sum.inr (q1, ())))
  (condition_pattern.l0 q0 q1 n (IntKind.i64.wrap (q2 + (1 : Int)))))
  (some (Sum.inl (())))
def condition_pattern (k : Nat) (a0 : ad) (a1 : aj) (a2 : Int) : Option (Int × Unit) :=
  (attribute_Valid k a0 a1).bind fun r1 =>
  cond (r1.1 != (9 : Int))
  (some (r1.1, ()))
  ((condition_pattern.l0 a1 r1.1 k a2).bind fun o6 =>
  aG o6
  (fun y7 => some ((0 : Int), ()))
  (fun z8 => some (z8.1, ())))
def condition_inside.l0 (rec_ : ad → aj → ae → Option (Int × Unit)) (q0 : ad) (q1 : aj) (q2 : List ae) (q3 : Int) : Nat → Int → Option (Sum Unit (Int × Unit))
 | 0, _ => none
 | n + 1, q4 =>
  cond (decide (q4 < q3))
  ((ay q2 q4).bind fun x8 =>
  (rec_ q0 q1 x8).bind fun r9 =>
  cond (r9.1 != (0 : Int))
  (some (Sum.inr (r9.1, ())))
  (condition_inside.l0 rec_ q0 q1 q2 q3 n (IntKind.i64.wrap (q4 + (1 : Int)))))
  (some (Sum.inl (())))
def condition_inside : Nat → ad → aj → ae → Option (Int × Unit)
 | 0, _, _, _ => none
 | k + 1, a0, a1, a2 =>
  cond (a2.kind == (5 : Int))
  (cond (decide (a2.pattern.vars < a1.vars))
  (some ((20 : Int), ()))
  ((condition_pattern k a0 a2.pattern a1.vars).bind fun r1 =>
  cond (r1.1 != (0 : Int))
  (some (r1.1, ()))
  ((morphism_Valid a1.graph a2.pattern.graph a2.map).bind fun r2 =>
  cond (r2.1 != (0 : Int))
  (some (r2.1, ()))
  ((bP k a1.graph a2.pattern.graph a2.map).bind fun r3 =>
  cond (!r3.1)
  (some ((1 : Int), ()))
  ((condition_inside.l0 (condition_inside k) a0 a2.pattern a2.kids (a2.kids.length : Int) (Int.toNat (a2.kids.length : Int) + 1) (0 : Int)).bind fun o10 =>
  aG o10
  (fun y11 => some ((0 : Int), ()))
  (fun z12 => some (z12.1, ())))))))
  ((condition_inside.l0 (condition_inside k) a0 a1 a2.kids (a2.kids.length : Int) (Int.toNat (a2.kids.length : Int) + 1) (0 : Int)).bind fun o13 =>
  aG o13
  (fun y14 => some ((0 : Int), ()))
  (fun z15 => some (z15.1, ())))
def dH (k : Nat) (a0 : ad) (a1 : aj) (a2 : ae) : Option (Int × Unit) :=
  (attribute_Valid k a0 a1).bind fun r1 =>
  cond (r1.1 != (0 : Int))
  (some (r1.1, ()))
  ((dK k a2).bind fun r2 =>
  cond (r2.1 != (0 : Int))
  (some (r2.1, ()))
  ((condition_inside k a0 a1 a2).bind fun r3 =>
  some (r3.1, ())))
def ff (k : Nat) (a0 : ad) (a1 : aH) : Option (Int × Unit) :=
  (types_Valid k a0).bind fun r1 =>
  cond (r1.2.1 != (0 : Int))
  (some (r1.2.1, ()))
  ((bK k a1.name).bind fun r2 =>
  cond (!r2.1)
  (some ((2 : Int), ()))
  ((attribute_Valid k a0 a1.left).bind fun r3 =>
  cond (r3.1 != (0 : Int))
  (some (r3.1, ()))
  ((rule_right k a0 a1).bind fun r4 =>
  cond (r4.1 != (0 : Int))
  (some (r4.1, ()))
  ((ig k a1).bind fun r5 =>
  cond (r5.1 != (0 : Int))
  (some (r5.1, ()))
  ((dM a1).bind fun r6 =>
  (fx k a0 a1.right.graph r6.1 r6.2.1).bind fun r7 =>
  cond (!r7.1)
  (some ((13 : Int), ()))
  ((dH k a0 a1.left a1.condition).bind fun r8 =>
  some (r8.1, ())))))))
def fq (a0 : aH) : Option ((List Int) × ((List Int) × Unit)) :=
  (rule_others a0.keep.nodes (a0.left.graph.nodes.length : Int)).bind fun r1 =>
  (rule_others a0.keep.edges (a0.left.graph.edges.length : Int)).bind fun r2 =>
  some (r1.1, r2.1, ())
def fm (k : Nat) (a0 : ad) (a1 : aH) : Option ((List Int) × ((List Int) × (Int × Unit))) :=
  (ff k a0 a1).bind fun r1 =>
  cond (r1.1 != (0 : Int))
  (some (([] : List Int), ([] : List Int), r1.1, ()))
  ((fq a1).bind fun r2 =>
  some (r2.1, r2.2.1, (0 : Int), ()))
def fp (k : Nat) (a0 : ad) (a1 : aH) : Option ((List Int) × ((List Int) × (Int × Unit))) :=
  (ff k a0 a1).bind fun r1 =>
  cond (r1.1 != (0 : Int))
  (some (([] : List Int), ([] : List Int), r1.1, ()))
  ((dM a1).bind fun r2 =>
  some (r2.1, r2.2.1, (0 : Int), ()))
def layering_places.l0 (q0 : List Int) (q1 : ad) (q2 : ah) (q4 : List Int) (q5 : Int) : Nat → (List Int) → Int → Option ((List Int) × (ad × (ah × ((List Int) × Unit))))
 | 0, _, _ => none
 | n + 1, q3, q6 =>
  cond (decide (q6 < q5))
  ((ay q4 q6).bind fun x3 =>
  (ay q2.nodes x3).bind fun x4 =>
  cond (cE ((q3).length + ([x4]).length)) (layering_places.l0 q0 q1 q2 q4 q5 n (q3 ++ [x4]) (IntKind.i64.wrap (q6 + (1 : Int)))) none)
  (some (q0, q1, q2, q3, ()))
def layering_places.l2 (q0 : ad) (q1 : ah) (q3 : List Int) (q4 : Int) : Nat → (List Int) → Int → Option ((List Int) × Unit)
 | 0, _, _ => none
 | n + 1, q2, q5 =>
  cond (decide (q5 < q4))
  ((ay q3 q5).bind fun x8 =>
  (ay q1.edges x8).bind fun x9 =>
  cond (cE ((q2).length + ([IntKind.i64.wrap ((q0.nodes.length : Int) + x9.typ)]).length)) (layering_places.l2 q0 q1 q3 q4 n (q2 ++ [IntKind.i64.wrap ((q0.nodes.length : Int) + x9.typ)]) (IntKind.i64.wrap (q5 + (1 : Int)))) none)
  (some (q2, ()))
def layering_places (k : Nat) (a0 : ad) (a1 : ah) (a2 : List Int) (a3 : List Int) : Option ((List Int) × Unit) :=
  (layering_places.l0 a3 a0 a1 a2 (a2.length : Int) (Int.toNat (a2.length : Int) + 1) ([] : List Int) (0 : Int)).bind fun o5 =>
  (layering_places.l2 o5.2.1 o5.2.2.1 o5.1 (o5.1.length : Int) (Int.toNat (o5.1.length : Int) + 1) o5.2.2.2.1 (0 : Int)).bind fun o10 =>
  (slices_Sort_int o10.1).bind fun r11 =>
  (slices_Compact_lint k r11.1).bind fun r12 =>
  cond (decide ((Int.toNat r12.2.1.1) ≤ (Int.toNat r12.2.1.2)) && decide ((Int.toNat r12.2.1.2) ≤ (r12.1).length)) (some (slc r12.1 (Int.toNat r12.2.1.1) (Int.toNat r12.2.1.2), ())) none
def eU (a0 : bi) (a1 : aH) (a2 : Int) : Option Bool :=
  (ay a1.left.graph.nodes a2).bind fun x1 =>
  some (a0.parent == x1)
def layering_of.l0 (q0 : ad) (q1 : aH) (q2 : List Int) (q3 : List Int) (q4 : List Int) (q5 : List Int) (q6 : Int) : Nat → Int → Option (Sum (ad × (aH × (((List Int) × ((List Int) × Unit)) × ((List Int) × ((List Int) × Unit))))) (((List Int) × ((List Int) × Unit)) × (Int × Unit)))
 | 0, _ => none
 | n + 1, q7 =>
  cond (decide (q7 < q6))
  (cond (decide (0 ≤ q7) && decide (q7 < ((q4).length : Int))) ((nth q4 (Int.toNat q7)).bind fun x5 =>
  (cZ q0.nodes (fun z6 => eU z6.1 q1 x5)).bind fun r7 =>
  cond r7.1
  (some (Sum.inr ((([] : List Int), ([] : List Int), ()), (13 : Int), ())))
  (layering_of.l0 q0 q1 q2 q3 q4 q5 q6 n (IntKind.i64.wrap (q7 + (1 : Int))))) none)
  (some (Sum.inl (q0, q1, (q2, q3, ()), q4, q5, ())))
def layering_of (k : Nat) (a0 : ad) (a1 : aH) : Option (a8 × (Int × Unit)) :=
  (fm k a0 a1).bind fun r1 =>
  cond (r1.2.2.1 != (0 : Int))
  (some ((⟨([] : List Int), ([] : List Int)⟩ : a8), r1.2.2.1, ()))
  ((layering_of.l0 a0 a1 ([] : List Int) ([] : List Int) r1.1 r1.2.1 ((r1.1).length : Int) (Int.toNat ((r1.1).length : Int) + 1) (0 : Int)).bind fun o8 =>
  aG o8
  (fun y9 => (fp k y9.1 y9.2.1).bind fun r11 =>
  (layering_places k y9.1 y9.2.1.left.graph y9.2.2.2.1 y9.2.2.2.2.1).bind fun r12 =>
  (layering_places k y9.1 y9.2.1.right.graph r11.1 r11.2.1).bind fun r13 =>
  some ((⟨r12.1, r13.1⟩ : a8), (0 : Int), ()))
  (fun z10 => some ((⟨z10.1.1, z10.1.2.1⟩ : a8), z10.2.1, ())))
def layering_given.l0 (k : Nat) (q0 : ad) (q2 : List aH) (q3 : Int) : Nat → (List a8) → Int → Option (Sum ((List a8) × Unit) ((List a8) × (Int × Unit)))
 | 0, _, _ => none
 | n + 1, q1, q4 =>
  cond (decide (q4 < q3))
  ((ay q2 q4).bind fun x6 =>
  (layering_of k q0 x6).bind fun r7 =>
  cond (r7.2.1 != (0 : Int))
  (some (Sum.inr (([] : List a8), r7.2.1, ())))
  (cond (cE ((q1).length + ([r7.1]).length)) (layering_given.l0 k q0 q2 q3 n (q1 ++ [r7.1]) (IntKind.i64.wrap (q4 + (1 : Int)))) none))
  (some (Sum.inl (q1, ())))
def layering_given (k : Nat) (a0 : ad) (a1 : List aH) : Option ((List a8) × (Int × Unit)) :=
  (types_Valid k a0).bind fun r1 =>
  cond (r1.2.1 != (0 : Int))
  (some (([] : List a8), r1.2.1, ()))
  (cond (decide ((a1.length : Int) > (6 : Int)))
  (some (([] : List a8), (3 : Int), ()))
  ((layering_given.l0 k a0 a1 (a1.length : Int) (Int.toNat (a1.length : Int) + 1) ([] : List a8) (0 : Int)).bind fun o8 =>
  aG o8
  (fun y9 => some (y9.1, (0 : Int), ()))
  (fun z10 => some (z10.1, z10.2.1, ()))))
def layering_effect_30.l0 (q0 : List a8) (q1 : (a8 × Unit) → Option Bool) (q2 : Int) : Nat → Int → Option (Sum Unit (Int × Unit))
 | 0, _ => none
 | n + 1, q3 =>
  cond (decide (q3 < q2))
  ((ay q0 q3).bind fun x3 =>
  (q1 (x3, ())).bind fun r4 =>
  cond r4
  (some (Sum.inr (q3, ())))
  (layering_effect_30.l0 q0 q1 q2 n (IntKind.i64.wrap (q3 + (1 : Int)))))
  (some (Sum.inl (())))
def layering_effect_30 (a0 : List a8) (a1 : (a8 × Unit) → Option Bool) : Option (Int × Unit) :=
  (layering_effect_30.l0 a0 a1 (a0.length : Int) (Int.toNat (a0.length : Int) + 1) (0 : Int)).bind fun o5 =>
  aG o5
  (fun y6 => some ((-1 : Int), ()))
  (fun z7 => some (z7.1, ()))
def kL (a0 : Int) (a1 : Int) : Option (Int × (Int × Unit)) :=
  cond (decide (0 ≤ (32 : Int))) (some (IntKind.u32.wrap (Int.fdiv (IntKind.u64.wrap ((IntKind.u64.wrap a0) * (IntKind.u64.wrap a1))) (2 ^ (min (Int.toNat (32 : Int)) (IntKind.bits .u64)))), IntKind.u32.wrap (IntKind.u64.wrap ((IntKind.u64.wrap a0) * (IntKind.u64.wrap a1))), ())) none
def jv (a0 : Int) (a1 : Int) : Option (Int × (Int × Unit)) :=
  cond (decide (0 ≤ (32 : Int))) (cond (decide (0 ≤ (32 : Int))) (cond (decide (0 ≤ (32 : Int))) (cond (decide (0 ≤ (32 : Int))) (cond (decide (0 ≤ (32 : Int))) (some (IntKind.u64.wrap ((IntKind.u64.wrap ((IntKind.u64.wrap ((Int.fdiv a0 (2 ^ (min (Int.toNat (32 : Int)) (IntKind.bits .u64)))) * (Int.fdiv a1 (2 ^ (min (Int.toNat (32 : Int)) (IntKind.bits .u64)))))) + (Int.fdiv (IntKind.u64.wrap ((IntKind.u64.wrap ((Int.fdiv a0 (2 ^ (min (Int.toNat (32 : Int)) (IntKind.bits .u64)))) * (bits (fun _ a b => a &&& b) .u64 a1 (4294967295 : Int)))) + (Int.fdiv (IntKind.u64.wrap ((bits (fun _ a b => a &&& b) .u64 a0 (4294967295 : Int)) * (bits (fun _ a b => a &&& b) .u64 a1 (4294967295 : Int)))) (2 ^ (min (Int.toNat (32 : Int)) (IntKind.bits .u64)))))) (2 ^ (min (Int.toNat (32 : Int)) (IntKind.bits .u64)))))) + (Int.fdiv (IntKind.u64.wrap ((bits (fun _ a b => a &&& b) .u64 (IntKind.u64.wrap ((IntKind.u64.wrap ((Int.fdiv a0 (2 ^ (min (Int.toNat (32 : Int)) (IntKind.bits .u64)))) * (bits (fun _ a b => a &&& b) .u64 a1 (4294967295 : Int)))) + (Int.fdiv (IntKind.u64.wrap ((bits (fun _ a b => a &&& b) .u64 a0 (4294967295 : Int)) * (bits (fun _ a b => a &&& b) .u64 a1 (4294967295 : Int)))) (2 ^ (min (Int.toNat (32 : Int)) (IntKind.bits .u64)))))) (4294967295 : Int)) + (IntKind.u64.wrap ((bits (fun _ a b => a &&& b) .u64 a0 (4294967295 : Int)) * (Int.fdiv a1 (2 ^ (min (Int.toNat (32 : Int)) (IntKind.bits .u64)))))))) (2 ^ (min (Int.toNat (32 : Int)) (IntKind.bits .u64))))), IntKind.u64.wrap (a0 * a1), ())) none) none) none) none) none
def kU (a0 : Int) (a1 : Int) : Option (Int × (Int × Unit)) :=
  (jv a0 a1).bind fun r1 =>
  some (r1.1, r1.2.1, ())
def slices_Repeat_lint.l0  : Nat → (List Int) → Int → Option ((List Int) × Unit)
 | 0, _, _ => none
 | n + 1, q0, q1 =>
  cond (decide (q1 < ((q0).length : Int)))
  (cond (decide (0 ≤ q1) && decide (q1 ≤ ((q0).length : Int)) && decide (((q0).length : Int) ≤ ((q0).length : Int))) (cond (decide (0 ≤ (0 : Int)) && decide ((0 : Int) ≤ q1) && decide (q1 ≤ ((q0).length : Int))) (cond (decide (0 ≤ (Int.toNat q1)) && decide ((Int.toNat q1) ≤ (q0).length)) (cond (decide ((Int.toNat q1) ≤ (Int.toNat ((q0).length : Int))) && decide ((Int.toNat ((q0).length : Int)) ≤ (q0).length)) (slices_Repeat_lint.l0 n (nH q0 (Int.toNat q1) ((slc q0 0 (Int.toNat q1)).take ((Int.toNat ((q0).length : Int)) - (Int.toNat q1)))) (IntKind.i64.wrap (q1 + ((min (slc q0 0 (Int.toNat q1)).length ((Int.toNat ((q0).length : Int)) - (Int.toNat q1)) : Nat) : Int)))) none) none) none) none)
  (some (q0, ()))
def slices_Repeat_lint (k : Nat) (a0 : List Int) (a1 : Int) : Option ((List Int) × Unit) :=
  cond (decide (a1 < (0 : Int)))
  (none)
  ((kU (IntKind.u64.wrap (a0.length : Int)) (IntKind.u64.wrap a1)).bind fun r1 =>
  (cond (decide (r1.1 > (0 : Int))) (some (true, ())) (some ((decide (r1.2.1 > (9223372036854775807 : Int))), ()))).bind fun b2 =>
  cond b2.1
  (none)
  (cond (decide (0 ≤ IntKind.i64.wrap r1.2.1) && decide (IntKind.i64.wrap r1.2.1 ≤ IntKind.i64.wrap r1.2.1) && cE (Int.toNat (IntKind.i64.wrap r1.2.1))) ((slices_Repeat_lint.l0 k (nH (List.replicate (Int.toNat (IntKind.i64.wrap r1.2.1)) (0 : Int)) 0 ((a0).take (List.replicate (Int.toNat (IntKind.i64.wrap r1.2.1)) (0 : Int)).length)) ((min (a0).length (List.replicate (Int.toNat (IntKind.i64.wrap r1.2.1)) (0 : Int)).length : Nat) : Int)).bind fun o3 =>
  some (o3.1, ())) none))
def layering_distances.l2 (q0 : List aO) (q3 : List aO) (q4 : Int) : Nat → (List Int) → (List Int) → Int → Option ((List aO) × ((List Int) × ((List Int) × Unit)))
 | 0, _, _, _ => none
 | n + 1, q1, q2, q5 =>
  cond (decide (q5 < q4))
  ((ay q3 q5).bind fun x10 =>
  (cond (decide (0 ≤ (0 : Int)) && decide ((0 : Int) < ((q2).length : Int))) ((nth q2 0).bind fun x11 =>
  cond (x10.to == x11) (cond (decide (0 ≤ x10.frm) && decide (x10.frm < ((q1).length : Int))) ((nth q1 (Int.toNat x10.frm)).bind fun x12 =>
  some ((decide (x12 < (0 : Int))), ())) none) (some (false, ()))) none).bind fun b13 =>
  cond b13.1
  (cond (decide (0 ≤ (0 : Int)) && decide ((0 : Int) < ((q2).length : Int))) ((nth q2 0).bind fun x14 =>
  cond (decide (0 ≤ x14) && decide (x14 < ((q1).length : Int))) ((nth q1 (Int.toNat x14)).bind fun x15 =>
  cond (decide (0 ≤ x10.frm) && decide (x10.frm < ((q1).length : Int))) ((nth q1 (Int.toNat x10.frm)).bind fun x16 =>
  cond (cE ((q2).length + ([x10.frm]).length)) (layering_distances.l2 q0 q3 q4 n ((q1).set (Int.toNat x10.frm) (IntKind.i64.wrap (x15 + (1 : Int)))) (q2 ++ [x10.frm]) (IntKind.i64.wrap (q5 + (1 : Int)))) none) none) none) none)
  (layering_distances.l2 q0 q3 q4 n q1 q2 (IntKind.i64.wrap (q5 + (1 : Int)))))
  (some (q0, q1, q2, ()))
def layering_distances.l0  : Nat → (List aO) → (List Int) → (List Int) → Option ((List Int) × Unit)
 | 0, _, _, _ => none
 | n + 1, q0, q1, q2 =>
  cond (decide (((q2).length : Int) > (0 : Int)))
  ((layering_distances.l2 q0 q0 (q0.length : Int) (Int.toNat (q0.length : Int) + 1) q1 q2 (0 : Int)).bind fun o18 =>
  cond (decide (0 ≤ (1 : Int)) && decide ((1 : Int) ≤ ((o18.2.2.1).length : Int)) && decide (((o18.2.2.1).length : Int) ≤ ((o18.2.2.1).length : Int))) (cond (decide (1 ≤ (Int.toNat ((o18.2.2.1).length : Int))) && decide ((Int.toNat ((o18.2.2.1).length : Int)) ≤ (o18.2.2.1).length)) (layering_distances.l0 n o18.1 o18.2.1 (slc o18.2.2.1 1 (Int.toNat ((o18.2.2.1).length : Int)))) none) none)
  (some (q1, ()))
def layering_distances (k : Nat) (a0 : List aO) (a1 : Int) (a2 : Int) : Option ((List Int) × Unit) :=
  (slices_Repeat_lint k [(-1 : Int)] a2).bind fun r1 =>
  cond (decide (0 ≤ a1) && decide (a1 < ((r1.1).length : Int))) ((nth r1.1 (Int.toNat a1)).bind fun x2 =>
  (layering_distances.l0 k a0 ((r1.1).set (Int.toNat a1) (0 : Int)) [a1]).bind fun o19 =>
  some (o19.1, ())) none
def api_Demand_61.l0 (q0 : List aO) (q1 : (aO × Unit) → Option Bool) (q2 : Int) : Nat → Int → Option (Sum Unit (Int × Unit))
 | 0, _ => none
 | n + 1, q3 =>
  cond (decide (q3 < q2))
  ((ay q0 q3).bind fun x3 =>
  (q1 (x3, ())).bind fun r4 =>
  cond r4
  (some (Sum.inr (q3, ())))
  (api_Demand_61.l0 q0 q1 q2 n (IntKind.i64.wrap (q3 + (1 : Int)))))
  (some (Sum.inl (())))
def api_Demand_61 (a0 : List aO) (a1 : (aO × Unit) → Option Bool) : Option (Int × Unit) :=
  (api_Demand_61.l0 a0 a1 (a0.length : Int) (Int.toNat (a0.length : Int) + 1) (0 : Int)).bind fun o5 =>
  aG o5
  (fun y6 => some ((-1 : Int), ()))
  (fun z7 => some (z7.1, ()))
def f7 (a0 : aO) (a1 : Int) (a2 : List Int) : Option Bool :=
  (cond (a0.frm == a1) ((ay a2 a0.to).bind fun x1 =>
  cond (decide (x1 ≥ (0 : Int))) ((ay a2 a0.to).bind fun x2 =>
  (ay a2 a1).bind fun x3 =>
  some ((x2 == (IntKind.i64.wrap (x3 - (1 : Int)))), ())) (some (false, ()))) (some (false, ()))).bind fun b4 =>
  some b4.1
def layering_circle.l2 (q0 : List aO) (q1 : Int) (q3 : aO) (q4 : List Int) (q6 : List aO) (q7 : Int) (q8 : Int) : Nat → (List aO) → Int → Option ((List aO) × (Int × ((List aO) × ((List aO) × (Int × (Int × Unit))))))
 | 0, _, _ => none
 | n + 1, q2, q5 =>
  cond (q5 != q3.frm)
  ((api_Demand_61 q0 (fun z10 => f7 z10.1 q5 q4)).bind fun r11 =>
  (ay q0 r11.1).bind fun x12 =>
  cond (cE ((q2).length + ([x12]).length)) ((ay q0 r11.1).bind fun x13 =>
  layering_circle.l2 q0 q1 q3 q4 q6 q7 q8 n (q2 ++ [x12]) x13.to) none)
  (some (q0, q1, q2, q6, q7, q8, ()))
def layering_circle.l0 (k : Nat)  : Nat → (List aO) → Int → (List aO) → (List aO) → Int → Int → Option ((List aO) × Unit)
 | 0, _, _, _, _, _, _ => none
 | n + 1, q0, q1, q2, q3, q4, q5 =>
  cond (decide (q5 < q4))
  ((ay q3 q5).bind fun x21 =>
  (layering_distances k q0 x21.frm q1).bind fun r22 =>
  (cond (decide (0 ≤ x21.to) && decide (x21.to < ((r22.1).length : Int))) ((nth r22.1 (Int.toNat x21.to)).bind fun x23 =>
  cond (decide (x23 < (0 : Int))) (some (true, ())) (cond (decide (((q2).length : Int) > (0 : Int))) (cond (decide (0 ≤ x21.to) && decide (x21.to < ((r22.1).length : Int))) ((nth r22.1 (Int.toNat x21.to)).bind fun x24 =>
  some ((decide ((IntKind.i64.wrap (x24 + (1 : Int))) ≥ ((q2).length : Int))), ())) none) (some (false, ())))) none).bind fun b25 =>
  cond b25.1
  (layering_circle.l0 k n q0 q1 q2 q3 q4 (IntKind.i64.wrap (q5 + (1 : Int))))
  ((layering_circle.l2 q0 q1 x21 r22.1 q3 q4 q5 k [x21] x21.to).bind fun o26 =>
  layering_circle.l0 k n o26.1 o26.2.1 o26.2.2.1 o26.2.2.2.1 o26.2.2.2.2.1 (IntKind.i64.wrap (o26.2.2.2.2.2.1 + (1 : Int)))))
  (some (q2, ()))
def layering_circle (k : Nat) (a0 : List aO) (a1 : Int) : Option ((List aO) × Unit) :=
  (layering_circle.l0 k k a0 a1 ([] : List aO) a0 (a0.length : Int) (0 : Int)).bind fun o27 =>
  some (o27.1, ())
def layering_demands.l4 (q1 : Int) (q2 : a8) (q3 : Int) (q4 : List a8) (q5 : Int) (q6 : Int) (q7 : List Int) (q8 : Int) (q9 : Int) (q10 : List Int) (q11 : Int) : Nat → (List aO) → Int → Option ((List aO) × (Int × (a8 × ((List a8) × (Int × (Int × ((List Int) × (Int × (Int × Unit)))))))))
 | 0, _, _ => none
 | n + 1, q0, q12 =>
  cond (decide (q12 < q11))
  ((ay q10 q12).bind fun x4 =>
  cond (cE ((q0).length + ([(⟨q1, q3, x4, (1 : Int)⟩ : aO)]).length)) (layering_demands.l4 q1 q2 q3 q4 q5 q6 q7 q8 q9 q10 q11 n (q0 ++ [(⟨q1, q3, x4, (1 : Int)⟩ : aO)]) (IntKind.i64.wrap (q12 + (1 : Int)))) none)
  (some (q0, q1, q2, q4, q5, q6, q7, q8, q9, ()))
def layering_demands.l2  : Nat → (List aO) → Int → a8 → (List a8) → Int → Int → (List Int) → Int → Int → Option ((List aO) × ((List a8) × (Int × (Int × Unit))))
 | 0, _, _, _, _, _, _, _, _, _ => none
 | n + 1, q0, q1, q2, q3, q4, q5, q6, q7, q8 =>
  cond (decide (q8 < q7))
  ((ay q6 q8).bind fun x6 =>
  (layering_demands.l4 q1 q2 x6 q3 q4 q5 q6 q7 q8 q2.creates (q2.creates.length : Int) (Int.toNat (q2.creates.length : Int) + 1) q0 (0 : Int)).bind fun o7 =>
  layering_demands.l2 n o7.1 o7.2.1 o7.2.2.1 o7.2.2.2.1 o7.2.2.2.2.1 o7.2.2.2.2.2.1 o7.2.2.2.2.2.2.1 o7.2.2.2.2.2.2.2.1 (IntKind.i64.wrap (o7.2.2.2.2.2.2.2.2.1 + (1 : Int))))
  (some (q0, q3, q4, q5, ()))
def layering_demands.l0 (k : Nat)  : Nat → (List aO) → (List a8) → Int → Int → Option ((List aO) × Unit)
 | 0, _, _, _, _ => none
 | n + 1, q0, q1, q2, q3 =>
  cond (decide (q3 < q2))
  ((ay q1 q3).bind fun x11 =>
  (layering_demands.l2 k q0 q3 x11 q1 q2 q3 x11.deletes (x11.deletes.length : Int) (0 : Int)).bind fun o12 =>
  layering_demands.l0 k n o12.1 o12.2.1 o12.2.2.1 (IntKind.i64.wrap (o12.2.2.2.1 + (1 : Int))))
  (some (q0, ()))
def layering_demands (k : Nat) (a0 : List a8) : Option ((List aO) × Unit) :=
  (layering_demands.l0 k k ([] : List aO) a0 (a0.length : Int) (0 : Int)).bind fun o13 =>
  some (o13.1, ())
def f8 (a0 : a8) : Option Bool :=
  some ((a0.deletes.length : Int) == (0 : Int))
def fK (k : Nat) (a0 : ad) (a1 : List aH) : Option ((List aO) × (Int × Unit)) :=
  (layering_given k a0 a1).bind fun r1 =>
  cond (r1.2.1 != (0 : Int))
  (some (([] : List aO), r1.2.1, ()))
  ((layering_effect_30 r1.1 (fun z2 => f8 z2.1)).bind fun r3 =>
  cond (decide (r3.1 ≥ (0 : Int)))
  (some ([(⟨r3.1, (-1 : Int), (-1 : Int), (0 : Int)⟩ : aO)], (0 : Int), ()))
  ((layering_demands k r1.1).bind fun r4 =>
  (layering_circle k r4.1 (IntKind.i64.wrap ((a0.nodes.length : Int) + (a0.edges.length : Int)))).bind fun r5 =>
  cond (((r5.1).length : Int) == (0 : Int))
  (some (([] : List aO), (10 : Int), ()))
  (some (r5.1, (0 : Int), ()))))
def api_Demand_13.l0 (q0 : List aO) (q1 : List aO) (q2 : Int) : Nat → Int → Option (Sum Unit (Bool × Unit))
 | 0, _ => none
 | n + 1, q3 =>
  cond (decide (q3 < q2))
  ((ay q0 q3).bind fun x3 =>
  (ay q1 q3).bind fun x4 =>
  cond (!((x3.rule == x4.rule) && ((x3.frm == x4.frm) && ((x3.to == x4.to) && ((x3.strict == x4.strict) && true)))))
  (some (Sum.inr (false, ())))
  (api_Demand_13.l0 q0 q1 q2 n (IntKind.i64.wrap (q3 + (1 : Int)))))
  (some (Sum.inl (())))
def api_Demand_13 (a0 : List aO) (a1 : List aO) : Option (Bool × Unit) :=
  cond ((a0.length : Int) != (a1.length : Int))
  (some (false, ()))
  ((api_Demand_13.l0 a0 a1 (a0.length : Int) (Int.toNat (a0.length : Int) + 1) (0 : Int)).bind fun o5 =>
  aG o5
  (fun y6 => some (true, ()))
  (fun z7 => some (z7.1, ())))
def dz (a0 : List a8) (a1 : (a8 × Unit) → Option Bool) : Option (Bool × Unit) :=
  (layering_effect_30 a0 a1).bind fun r1 =>
  some ((decide (r1.1 ≥ (0 : Int))), ())
def ek (a0 : a8) : Option Bool :=
  some ((a0.deletes.length : Int) == (0 : Int))
def layering_least.l4 (q0 : List a8) (q2 : List Int) (q4 : Int) (q5 : a8) (q6 : List a8) (q7 : Int) (q8 : Int) (q9 : List Int) (q10 : Int) : Nat → (List Int) → Bool → Int → Option ((List a8) × ((List Int) × ((List Int) × (Bool × (Int × (a8 × ((List a8) × (Int × (Int × Unit)))))))))
 | 0, _, _, _ => none
 | n + 1, q1, q3, q11 =>
  cond (decide (q11 < q10))
  ((ay q9 q11).bind fun x9 =>
  cond (decide (0 ≤ x9) && decide (x9 < ((q2).length : Int))) ((nth q2 (Int.toNat x9)).bind fun x10 =>
  cond (decide (0 ≤ q4) && decide (q4 < ((q1).length : Int))) ((nth q1 (Int.toNat q4)).bind fun x11 =>
  cond (decide (x10 > x11))
  (cond (decide (0 ≤ x9) && decide (x9 < ((q2).length : Int))) ((nth q2 (Int.toNat x9)).bind fun x12 =>
  cond (decide (0 ≤ q4) && decide (q4 < ((q1).length : Int))) ((nth q1 (Int.toNat q4)).bind fun x13 =>
  layering_least.l4 q0 q2 q4 q5 q6 q7 q8 q9 q10 n ((q1).set (Int.toNat q4) x12) true (IntKind.i64.wrap (q11 + (1 : Int)))) none) none)
  (layering_least.l4 q0 q2 q4 q5 q6 q7 q8 q9 q10 n q1 q3 (IntKind.i64.wrap (q11 + (1 : Int))))) none) none)
  (some (q0, q1, q2, q3, q4, q5, q6, q7, q8, ()))
def layering_least.l6 (q0 : List a8) (q1 : List Int) (q4 : Int) (q5 : List a8) (q6 : Int) (q7 : Int) (q8 : List Int) (q9 : Int) : Nat → (List Int) → Bool → Int → Option ((List a8) × ((List Int) × ((List Int) × (Bool × (Int × ((List a8) × (Int × (Int × Unit))))))))
 | 0, _, _, _ => none
 | n + 1, q2, q3, q10 =>
  cond (decide (q10 < q9))
  ((ay q8 q10).bind fun x20 =>
  cond (decide (0 ≤ x20) && decide (x20 < ((q2).length : Int))) ((nth q2 (Int.toNat x20)).bind fun x21 =>
  cond (decide (0 ≤ q4) && decide (q4 < ((q1).length : Int))) ((nth q1 (Int.toNat q4)).bind fun x22 =>
  cond (decide (x21 ≤ x22))
  (cond (decide (0 ≤ q4) && decide (q4 < ((q1).length : Int))) ((nth q1 (Int.toNat q4)).bind fun x23 =>
  cond (decide (0 ≤ x20) && decide (x20 < ((q2).length : Int))) ((nth q2 (Int.toNat x20)).bind fun x24 =>
  layering_least.l6 q0 q1 q4 q5 q6 q7 q8 q9 n ((q2).set (Int.toNat x20) (IntKind.i64.wrap (x23 + (1 : Int)))) true (IntKind.i64.wrap (q10 + (1 : Int)))) none) none)
  (layering_least.l6 q0 q1 q4 q5 q6 q7 q8 q9 n q2 q3 (IntKind.i64.wrap (q10 + (1 : Int))))) none) none)
  (some (q0, q1, q2, q3, q4, q5, q6, q7, ()))
def layering_least.l2  : Nat → (List a8) → (List Int) → (List Int) → Bool → (List a8) → Int → Int → Option (Sum ((List a8) × ((List Int) × ((List Int) × (Bool × Unit)))) ((List Int) × ((List Int) × (Bool × Unit))))
 | 0, _, _, _, _, _, _, _ => none
 | n + 1, q0, q1, q2, q3, q4, q5, q6 =>
  cond (decide (q6 < q5))
  ((ay q4 q6).bind fun x27 =>
  (layering_least.l4 q0 q2 q6 x27 q4 q5 q6 x27.deletes (x27.deletes.length : Int) (Int.toNat (x27.deletes.length : Int) + 1) q1 q3 (0 : Int)).bind fun o28 =>
  (layering_least.l6 o28.1 o28.2.1 o28.2.2.2.2.1 o28.2.2.2.2.2.2.1 o28.2.2.2.2.2.2.2.1 o28.2.2.2.2.2.2.2.2.1 o28.2.2.2.2.2.1.creates (o28.2.2.2.2.2.1.creates.length : Int) (Int.toNat (o28.2.2.2.2.2.1.creates.length : Int) + 1) o28.2.2.1 o28.2.2.2.1 (0 : Int)).bind fun o29 =>
  cond (decide (0 ≤ o29.2.2.2.2.1) && decide (o29.2.2.2.2.1 < ((o29.2.1).length : Int))) ((nth o29.2.1 (Int.toNat o29.2.2.2.2.1)).bind fun x30 =>
  cond (decide (x30 > (100 : Int)))
  (some (Sum.inr (([] : List Int), ([] : List Int), false, ())))
  (layering_least.l2 n o29.1 o29.2.1 o29.2.2.1 o29.2.2.2.1 o29.2.2.2.2.2.1 o29.2.2.2.2.2.2.1 (IntKind.i64.wrap (o29.2.2.2.2.2.2.2.1 + (1 : Int))))) none)
  (some (Sum.inl (q0, q1, q2, q3, ())))
def layering_least.l0 (k : Nat)  : Nat → (List a8) → (List Int) → (List Int) → Bool → Option (Sum ((List Int) × ((List Int) × Unit)) ((List Int) × ((List Int) × (Bool × Unit))))
 | 0, _, _, _, _ => none
 | n + 1, q0, q1, q2, q3 =>
  cond q3
  ((layering_least.l2 k q0 q1 q2 false q0 (q0.length : Int) (0 : Int)).bind fun o37 =>
  aG o37
  (fun y38 => layering_least.l0 k n y38.1 y38.2.1 y38.2.2.1 y38.2.2.2.1)
  (fun z39 => some (Sum.inr (z39.1, z39.2.1, z39.2.2.1, ()))))
  (some (Sum.inl (q1, q2, ())))
def layering_least (k : Nat) (a0 : List a8) (a1 : Int) : Option ((List Int) × ((List Int) × (Bool × Unit))) :=
  cond (decide (0 ≤ (a0.length : Int)) && decide ((a0.length : Int) ≤ (a0.length : Int)) && cE (Int.toNat (a0.length : Int))) (cond (decide (0 ≤ a1) && decide (a1 ≤ a1) && cE (Int.toNat a1)) ((dz a0 (fun z1 => ek z1.1)).bind fun r2 =>
  cond r2.1
  (some (([] : List Int), ([] : List Int), false, ()))
  ((layering_least.l0 k k a0 (List.replicate (Int.toNat (a0.length : Int)) (0 : Int)) (List.replicate (Int.toNat a1) (0 : Int)) true).bind fun o40 =>
  aG o40
  (fun y41 => some (y41.1, y41.2.1, true, ()))
  (fun z42 => some (z42.1, z42.2.1, z42.2.2.1, ())))) none) none
def cQ (k : Nat) (a0 : ad) (a1 : List aH) : Option (((List Int) × ((List Int) × ((List Int) × Unit))) × (Int × Unit)) :=
  (layering_given k a0 a1).bind fun r1 =>
  cond (r1.2.1 != (0 : Int))
  (some ((([] : List Int), ([] : List Int), ([] : List Int), ()), r1.2.1, ()))
  ((layering_least k r1.1 (IntKind.i64.wrap ((a0.nodes.length : Int) + (a0.edges.length : Int)))).bind fun r2 =>
  cond (!r2.2.2.1)
  (some ((([] : List Int), ([] : List Int), ([] : List Int), ()), (10 : Int), ()))
  (cond (decide (0 ≤ (0 : Int)) && decide ((0 : Int) ≤ (a0.nodes.length : Int)) && decide ((a0.nodes.length : Int) ≤ ((r2.2.1).length : Int))) (cond (decide ((a0.nodes.length : Int) ≤ (a0.nodes.length : Int)) && decide ((a0.nodes.length : Int) ≤ ((r2.2.1).length : Int))) (cond (decide (0 ≤ (a0.nodes.length : Int)) && decide ((a0.nodes.length : Int) ≤ ((r2.2.1).length : Int)) && decide (((r2.2.1).length : Int) ≤ ((r2.2.1).length : Int))) (cond (decide (0 ≤ (Int.toNat (a0.nodes.length : Int))) && decide ((Int.toNat (a0.nodes.length : Int)) ≤ (r2.2.1).length)) (cond (decide ((Int.toNat (a0.nodes.length : Int)) ≤ (Int.toNat ((r2.2.1).length : Int))) && decide ((Int.toNat ((r2.2.1).length : Int)) ≤ (r2.2.1).length)) (some ((r2.1, slc r2.2.1 0 (Int.toNat (a0.nodes.length : Int)), slc r2.2.1 (Int.toNat (a0.nodes.length : Int)) (Int.toNat ((r2.2.1).length : Int)), ()), (0 : Int), ())) none) none) none) none) none))
def cW  : Option (((List bi) × ((List bu) × Unit)) × Unit) :=
  some (([(⟨(⟨#[65, 99, 99, 111, 117, 110, 116]⟩ : ByteArray), (-1 : Int), true, [(⟨(⟨#[98, 97, 108, 97, 110, 99, 101]⟩ : ByteArray), (-1000 : Int), (1000 : Int), ([] : List ByteArray)⟩ : bX)]⟩ : bi), (⟨(⟨#[67, 97, 115, 104]⟩ : ByteArray), (0 : Int), false, ([] : List bX)⟩ : bi), (⟨(⟨#[76, 111, 97, 110]⟩ : ByteArray), (0 : Int), false, [(⟨(⟨#[115, 116, 97, 116, 101]⟩ : ByteArray), (0 : Int), (1 : Int), [(⟨#[111, 112, 101, 110]⟩ : ByteArray), (⟨#[99, 108, 111, 115, 101, 100]⟩ : ByteArray)]⟩ : bX)]⟩ : bi), (⟨(⟨#[80, 101, 114, 115, 111, 110]⟩ : ByteArray), (-1 : Int), false, ([] : List bX)⟩ : bi)], [(⟨(⟨#[111, 119, 110, 115]⟩ : ByteArray), (3 : Int), (0 : Int), (0 : Int), (-1 : Int), (1 : Int), (1 : Int)⟩ : bu), (⟨(⟨#[112, 97, 121, 115]⟩ : ByteArray), (1 : Int), (1 : Int), (0 : Int), (-1 : Int), (0 : Int), (-1 : Int)⟩ : bu)], ()), ())
def ci (a0 : Int) : Option (aH × Unit) :=
  cond (a0 == (0 : Int))
  (some ((⟨(⟨#[112, 97, 121, 115]⟩ : ByteArray), (⟨(⟨[(1 : Int), (1 : Int)], [(⟨(1 : Int), (0 : Int), (1 : Int)⟩ : Edge)]⟩ : ah), ([] : List dV), (0 : Int), ([] : List dN)⟩ : aj), (⟨(⟨[(1 : Int), (1 : Int)], ([] : List Edge)⟩ : ah), ([] : List dV), (0 : Int), ([] : List dN)⟩ : aj), (⟨[(0 : Int), (1 : Int)], ([] : List Int)⟩ : eB), (⟨[(0 : Int), (1 : Int)], ([] : List Int)⟩ : aP), false, (⟨(1 : Int), ([] : List ae), (⟨([] : List Int), ([] : List Int)⟩ : aP), (⟨(⟨([] : List Int), ([] : List Edge)⟩ : ah), ([] : List dV), (0 : Int), ([] : List dN)⟩ : aj)⟩ : ae)⟩ : aH), ()))
  (cond (a0 == (1 : Int))
  (some ((⟨(⟨#[112, 97, 121, 115]⟩ : ByteArray), (⟨(⟨[(1 : Int), (1 : Int)], [(⟨(1 : Int), (0 : Int), (1 : Int)⟩ : Edge)]⟩ : ah), ([] : List dV), (0 : Int), ([] : List dN)⟩ : aj), (⟨(⟨[(1 : Int), (2 : Int)], ([] : List Edge)⟩ : ah), ([] : List dV), (0 : Int), ([] : List dN)⟩ : aj), (⟨[(0 : Int)], ([] : List Int)⟩ : eB), (⟨[(0 : Int)], ([] : List Int)⟩ : aP), false, (⟨(1 : Int), ([] : List ae), (⟨([] : List Int), ([] : List Int)⟩ : aP), (⟨(⟨([] : List Int), ([] : List Edge)⟩ : ah), ([] : List dV), (0 : Int), ([] : List dN)⟩ : aj)⟩ : ae)⟩ : aH), ()))
  (cond (a0 == (2 : Int))
  (some ((⟨(⟨#[112, 97, 121, 115]⟩ : ByteArray), (⟨(⟨[(1 : Int), (1 : Int)], [(⟨(1 : Int), (0 : Int), (1 : Int)⟩ : Edge)]⟩ : ah), ([] : List dV), (0 : Int), ([] : List dN)⟩ : aj), (⟨(⟨[(1 : Int), (1 : Int)], [(⟨(1 : Int), (0 : Int), (1 : Int)⟩ : Edge)]⟩ : ah), ([] : List dV), (0 : Int), ([] : List dN)⟩ : aj), (⟨[(0 : Int), (1 : Int)], ([] : List Int)⟩ : eB), (⟨[(0 : Int), (1 : Int)], ([] : List Int)⟩ : aP), false, (⟨(1 : Int), ([] : List ae), (⟨([] : List Int), ([] : List Int)⟩ : aP), (⟨(⟨([] : List Int), ([] : List Edge)⟩ : ah), ([] : List dV), (0 : Int), ([] : List dN)⟩ : aj)⟩ : ae)⟩ : aH), ()))
  (some ((⟨(⟨#[112, 97, 121, 115]⟩ : ByteArray), (⟨(⟨[(1 : Int), (1 : Int)], [(⟨(1 : Int), (0 : Int), (1 : Int)⟩ : Edge)]⟩ : ah), ([] : List dV), (0 : Int), ([] : List dN)⟩ : aj), (⟨(⟨([] : List Int), ([] : List Edge)⟩ : ah), ([] : List dV), (0 : Int), ([] : List dN)⟩ : aj), (⟨([] : List Int), ([] : List Int)⟩ : eB), (⟨([] : List Int), ([] : List Int)⟩ : aP), false, (⟨(1 : Int), ([] : List ae), (⟨([] : List Int), ([] : List Int)⟩ : aP), (⟨(⟨([] : List Int), ([] : List Edge)⟩ : ah), ([] : List dV), (0 : Int), ([] : List dN)⟩ : aj)⟩ : ae)⟩ : aH), ()))))
def slices_Equal_lint.l0 (q0 : List Int) (q1 : List Int) (q2 : Int) : Nat → Int → Option (Sum Unit (Bool × Unit))
 | 0, _ => none
 | n + 1, q3 =>
  cond (decide (q3 < q2))
  ((ay q0 q3).bind fun x3 =>
  (ay q1 q3).bind fun x4 =>
  cond (x3 != x4)
  (some (Sum.inr (false, ())))
  (slices_Equal_lint.l0 q0 q1 q2 n (IntKind.i64.wrap (q3 + (1 : Int)))))
  (some (Sum.inl (())))
def slices_Equal_lint (a0 : List Int) (a1 : List Int) : Option (Bool × Unit) :=
  cond ((a0.length : Int) != (a1.length : Int))
  (some (false, ()))
  ((slices_Equal_lint.l0 a0 a1 (a0.length : Int) (Int.toNat (a0.length : Int) + 1) (0 : Int)).bind fun o5 =>
  aG o5
  (fun y6 => some (true, ()))
  (fun z7 => some (z7.1, ())))
def bI (k : Nat)  : Option (Bool × Unit) :=
  (cW).bind fun r1 =>
  (ci (0 : Int)).bind fun r2 =>
  (cQ k (⟨r1.1.1, r1.1.2.1⟩ : ad) [r2.1]).bind fun r3 =>
  (ci (1 : Int)).bind fun r4 =>
  (cQ k (⟨r1.1.1, r1.1.2.1⟩ : ad) [r4.1]).bind fun r5 =>
  (ci (2 : Int)).bind fun r6 =>
  (fK k (⟨r1.1.1, r1.1.2.1⟩ : ad) [r6.1]).bind fun r7 =>
  (cond (r3.2.1 == (0 : Int)) ((slices_Equal_lint r3.1.1 [(0 : Int)]).bind fun r8 =>
  cond r8.1 (cond (r5.2.1 == (0 : Int)) ((slices_Equal_lint r5.1.2.1 [(0 : Int), (0 : Int), (1 : Int), (0 : Int)]).bind fun r9 =>
  cond r9.1 (cond (r7.2.1 == (0 : Int)) ((api_Demand_13 r7.1 [(⟨(0 : Int), (5 : Int), (5 : Int), (1 : Int)⟩ : aO)]).bind fun r10 =>
  some (r10.1, ())) (some (false, ()))) (some (false, ()))) (some (false, ()))) (some (false, ()))) (some (false, ()))).bind fun b11 =>
  some (b11.1, ())
def scarfjointref04_Few.l4 (q0 : ad) (q1 : Int) (q2 : Int) (q3 : Int) (q4 : bX) : Nat → Int → Option (Sum (ad × (Int × (Int × (Int × Unit)))) (Bool × Unit))
 | 0, _ => none
 | n + 1, q5 =>
  cond (decide (q5 < (q4.names.length : Int)))
  ((ay q4.names q5).bind fun x10 =>
  cond (decide ((x10.size : Int) > (40 : Int)))
  (some (Sum.inr (false, ())))
  (scarfjointref04_Few.l4 q0 q1 q2 q3 q4 n (IntKind.i64.wrap (q5 + (1 : Int)))))
  (some (Sum.inl (q0, q1, q2, q3, ())))
def scarfjointref04_Few.l2 (k : Nat)  : Nat → ad → Int → Int → Int → Option (Sum (ad × (Int × (Int × Unit))) (Bool × Unit))
 | 0, _, _, _, _ => none
 | n + 1, q0, q1, q2, q3 =>
  (ay q0.nodes q2).bind fun x21 =>
  cond (decide (q3 < (x21.attrs.length : Int)))
  ((ay q0.nodes q2).bind fun x22 =>
  (ay x22.attrs q3).bind fun x23 =>
  (cond (decide ((x23.name.size : Int) > (40 : Int))) (some (true, ())) (some ((decide ((x23.names.length : Int) > (25 : Int))), ()))).bind fun b24 =>
  cond b24.1
  (some (Sum.inr (false, ())))
  ((scarfjointref04_Few.l4 q0 q1 q2 q3 x23 k (0 : Int)).bind fun o25 =>
  aG o25
  (fun y26 => scarfjointref04_Few.l2 k n y26.1 y26.2.1 y26.2.2.1 (IntKind.i64.wrap (y26.2.2.2.1 + (1 : Int))))
  (fun z27 => some (Sum.inr (z27.1, ())))))
  (some (Sum.inl (q0, q1, q2, ())))
def scarfjointref04_Few.l0 (k : Nat)  : Nat → ad → Int → Int → Option (Sum (ad × Unit) (Bool × Unit))
 | 0, _, _, _ => none
 | n + 1, q0, q1, q2 =>
  cond (decide (q2 < (q0.nodes.length : Int)))
  ((ay q0.nodes q2).bind fun x37 =>
  (cond (decide ((IntKind.i64.wrap (q1 + (x37.attrs.length : Int))) > (30 : Int))) (some (true, ())) ((ay q0.nodes q2).bind fun x38 =>
  some ((decide ((x38.name.size : Int) > (40 : Int))), ()))).bind fun b39 =>
  cond b39.1
  (some (Sum.inr (false, ())))
  ((scarfjointref04_Few.l2 k k q0 (IntKind.i64.wrap (q1 + (x37.attrs.length : Int))) q2 (0 : Int)).bind fun o40 =>
  aG o40
  (fun y41 => scarfjointref04_Few.l0 k n y41.1 y41.2.1 (IntKind.i64.wrap (y41.2.2.1 + (1 : Int))))
  (fun z42 => some (Sum.inr (z42.1, ())))))
  (some (Sum.inl (q0, ())))
def scarfjointref04_Few.l6 (q0 : ad) : Nat → Int → Option (Sum Unit (Bool × Unit))
 | 0, _ => none
 | n + 1, q1 =>
  cond (decide (q1 < (q0.edges.length : Int)))
  ((ay q0.edges q1).bind fun x47 =>
  cond (decide ((x47.name.size : Int) > (40 : Int)))
  (some (Sum.inr (false, ())))
  (scarfjointref04_Few.l6 q0 n (IntKind.i64.wrap (q1 + (1 : Int)))))
  (some (Sum.inl (())))
def scarfjointref04_Few (k : Nat) (a0 : ad) : Option (Bool × Unit) :=
  (cond (decide ((a0.nodes.length : Int) > (20 : Int))) (some (true, ())) (some ((decide ((a0.edges.length : Int) > (30 : Int))), ()))).bind fun b1 =>
  cond b1.1
  (some (false, ()))
  ((scarfjointref04_Few.l0 k k a0 (0 : Int) (0 : Int)).bind fun o43 =>
  aG o43
  (fun y44 => (scarfjointref04_Few.l6 y44.1 k (0 : Int)).bind fun o48 =>
  aG o48
  (fun y49 => some (true, ()))
  (fun z50 => some (z50.1, ())))
  (fun z45 => some (z45.1, ())))
def db (a0 : ah) : Option (Bool × Unit) :=
  (cond (decide ((a0.nodes.length : Int) ≤ (45 : Int))) (some ((decide ((a0.edges.length : Int) ≤ (90 : Int))), ())) (some (false, ()))).bind fun b1 =>
  some (b1.1, ())
def bo (a0 : aj) : Option (Bool × Unit) :=
  ((db a0.graph).bind fun r1 =>
  cond r1.1 (cond (decide ((a0.slots.length : Int) ≤ (15 : Int))) (some ((decide ((a0.tests.length : Int) ≤ (15 : Int))), ())) (some (false, ()))) (some (false, ()))).bind fun b2 =>
  some (b2.1, ())
def de (a0 : eB) (a1 : Int) : Option (Bool × Unit) :=
  some ((decide ((IntKind.i64.wrap ((a0.nodes.length : Int) + (a0.edges.length : Int))) ≤ a1)), ())
def bW (a0 : aP) (a1 : Int) : Option (Bool × Unit) :=
  some ((decide ((IntKind.i64.wrap ((a0.nodes.length : Int) + (a0.edges.length : Int))) ≤ a1)), ())
def scarfjointref22_left.l0 (rec_ : ae → Int → Option (Int × Unit)) (q1 : ae) : Nat → Int → Int → Option (Int × Unit)
 | 0, _, _ => none
 | n + 1, q0, q2 =>
  (cond (decide (q2 < (q1.kids.length : Int))) (some ((decide (q0 ≥ (0 : Int))), ())) (some (false, ()))).bind fun b10 =>
  cond b10.1
  ((ay q1.kids q2).bind fun x11 =>
  (rec_ x11 q0).bind fun r12 =>
  scarfjointref22_left.l0 rec_ q1 n r12.1 (IntKind.i64.wrap (q2 + (1 : Int))))
  (some (q0, ()))
def scarfjointref22_left : Nat → ae → Int → Option (Int × Unit)
 | 0, _, _ => none
 | k + 1, a0, a1 =>
  ((bo a0.pattern).bind fun r1 =>
  cond (!r1.1) (some (true, ())) ((bW a0.map (140 : Int)).bind fun r2 =>
  some ((!r2.1), ()))).bind fun b3 =>
  cond b3.1
  (some ((-1 : Int), ()))
  ((scarfjointref22_left.l0 (scarfjointref22_left k) a0 k (IntKind.i64.wrap (a1 - (1 : Int))) (0 : Int)).bind fun o13 =>
  some (o13.1, ()))
def dc (k : Nat) (a0 : ae) : Option (Bool × Unit) :=
  (scarfjointref22_left k a0 (40 : Int)).bind fun r1 =>
  some ((decide (r1.1 ≥ (0 : Int))), ())
def cH (k : Nat) (a0 : aH) : Option (Bool × Unit) :=
  (cond (decide ((a0.name.size : Int) ≤ (60 : Int))) ((bo a0.left).bind fun r1 =>
  cond r1.1 ((bo a0.right).bind fun r2 =>
  cond r2.1 ((de a0.keep (140 : Int)).bind fun r3 =>
  cond r3.1 ((bW a0.into (140 : Int)).bind fun r4 =>
  cond r4.1 ((dc k a0.condition).bind fun r5 =>
  some (r5.1, ())) (some (false, ()))) (some (false, ()))) (some (false, ()))) (some (false, ()))) (some (false, ()))).bind fun b6 =>
  some (b6.1, ())
def scarfjointref40_Few.l0 (k : Nat) (q0 : List aH) : Nat → Int → Option (Sum Unit (Bool × Unit))
 | 0, _ => none
 | n + 1, q1 =>
  cond (decide (q1 < (q0.length : Int)))
  ((ay q0 q1).bind fun x7 =>
  (cH k x7).bind fun r8 =>
  cond (!r8.1)
  (some (Sum.inr (false, ())))
  (scarfjointref40_Few.l0 k q0 n (IntKind.i64.wrap (q1 + (1 : Int)))))
  (some (Sum.inl (())))
def scarfjointref40_Few (k : Nat) (a0 : ad) (a1 : List aH) : Option (Bool × Unit) :=
  ((scarfjointref04_Few k a0).bind fun r1 =>
  cond (!r1.1) (some (true, ())) (some ((decide ((a1.length : Int) > (8 : Int))), ()))).bind fun b2 =>
  cond b2.1
  (some (false, ()))
  ((scarfjointref40_Few.l0 k a1 k (0 : Int)).bind fun o9 =>
  aG o9
  (fun y10 => some (true, ()))
  (fun z11 => some (z11.1, ())))
def aA : Nat → ad → Int → Option ((List bX) × Unit)
 | 0, _, _ => none
 | k + 1, a0, a1 =>
  cond (decide (a1 < (0 : Int)))
  (some (([] : List bX), ()))
  ((ay a0.nodes a1).bind fun x1 =>
  (aA k a0 x1.parent).bind fun r2 =>
  cond (cE ((([] : List bX)).length + (r2.1).length)) ((ay a0.nodes a1).bind fun x3 =>
  cond (cE (((([] : List bX) ++ r2.1)).length + (x3.attrs).length)) (some (((([] : List bX) ++ r2.1) ++ x3.attrs), ())) none) none)
def ag (a0 : Int) (a1 : Int) (a2 : Int) : Option (Bool × Unit) :=
  (cond (decide (a0 ≥ a1)) (some ((decide (a0 ≤ a2)), ())) (some (false, ()))).bind fun b1 =>
  some (b1.1, ())
def cT (a0 : eE) : Option (ByteArray × Unit) :=
  cond (a0.kind == (3 : Int))
  (cond (cE ((⟨#[34]⟩ : ByteArray).size + a0.text.size)) (cond (cE (((⟨#[34]⟩ : ByteArray) ++ a0.text).size + (⟨#[34]⟩ : ByteArray).size)) (some ((((⟨#[34]⟩ : ByteArray) ++ a0.text) ++ (⟨#[34]⟩ : ByteArray)), ())) none) none)
  (some (a0.text, ()))
def bF (a0 : Int) : Option (Bool × Unit) :=
  (cond (decide (a0 ≥ (97 : Int))) (cond (decide (a0 ≤ (122 : Int))) (some (true, ())) (cond (decide (a0 ≥ (65 : Int))) (some ((decide (a0 ≤ (90 : Int))), ())) (some (false, ())))) (cond (decide (a0 ≥ (65 : Int))) (some ((decide (a0 ≤ (90 : Int))), ())) (some (false, ())))).bind fun b1 =>
  some (b1.1, ())
def aR (a0 : Int) : Option (Bool × Unit) :=
  (cond (decide (a0 ≥ (48 : Int))) (some ((decide (a0 ≤ (57 : Int))), ())) (some (false, ()))).bind fun b1 =>
  some (b1.1, ())
def scarfjointref01_run.l0 (q0 : ByteArray) (q1 : Int) (q2 : Bool) : Nat → Int → Option (Int × Unit)
 | 0, _ => none
 | n + 1, q3 =>
  (cond (decide ((IntKind.i64.wrap (q1 + q3)) < (q0.size : Int))) ((ke q0 (IntKind.i64.wrap (q1 + q3))).bind fun c7 =>
  (aR c7).bind fun r8 =>
  cond r8.1 (some (true, ())) (cond (!q2) ((ke q0 (IntKind.i64.wrap (q1 + q3))).bind fun c9 =>
  (bF c9).bind fun r10 =>
  cond r10.1 (some (true, ())) ((ke q0 (IntKind.i64.wrap (q1 + q3))).bind fun c11 =>
  some ((c11 == (95 : Int)), ()))) (some (false, ())))) (some (false, ()))).bind fun b12 =>
  cond b12.1
  (scarfjointref01_run.l0 q0 q1 q2 n (IntKind.i64.wrap (q3 + (1 : Int))))
  (some (q3, ()))
def scarfjointref01_run (k : Nat) (a0 : ByteArray) (a1 : Int) (a2 : Bool) : Option (Int × Unit) :=
  (scarfjointref01_run.l0 a0 a1 a2 k (0 : Int)).bind fun o13 =>
  some (o13.1, ())
def scarfjointref01_quoted.l0 (q0 : ByteArray) (q1 : Int) : Nat → Int → Option (Sum Unit (Int × Unit))
 | 0, _ => none
 | n + 1, q2 =>
  cond (decide ((IntKind.i64.wrap (q1 + q2)) < (q0.size : Int)))
  ((ke q0 (IntKind.i64.wrap (q1 + q2))).bind fun c3 =>
  cond (c3 == (34 : Int))
  (some (Sum.inr (IntKind.i64.wrap (q2 + (1 : Int)), ())))
  ((cond (decide (c3 < (32 : Int))) (some (true, ())) (some ((decide (c3 > (126 : Int))), ()))).bind fun b4 =>
  cond b4.1
  (some (Sum.inr ((0 : Int), ())))
  (scarfjointref01_quoted.l0 q0 q1 n (IntKind.i64.wrap (q2 + (1 : Int))))))
  (some (Sum.inl (())))
def scarfjointref01_quoted (k : Nat) (a0 : ByteArray) (a1 : Int) : Option (Int × Unit) :=
  (scarfjointref01_quoted.l0 a0 a1 k (1 : Int)).bind fun o5 =>
  aG o5
  (fun y6 => some ((0 : Int), ()))
  (fun z7 => some (z7.1, ()))
def cK  : Option ((List ByteArray) × Unit) :=
  some ([(⟨#[45, 62]⟩ : ByteArray), (⟨#[60, 61]⟩ : ByteArray), (⟨#[62, 61]⟩ : ByteArray), (⟨#[61, 61]⟩ : ByteArray), (⟨#[33, 61]⟩ : ByteArray), (⟨#[123]⟩ : ByteArray), (⟨#[125]⟩ : ByteArray), (⟨#[40]⟩ : ByteArray), (⟨#[41]⟩ : ByteArray), (⟨#[91]⟩ : ByteArray), (⟨#[93]⟩ : ByteArray), (⟨#[44]⟩ : ByteArray), (⟨#[59]⟩ : ByteArray), (⟨#[58]⟩ : ByteArray), (⟨#[61]⟩ : ByteArray), (⟨#[43]⟩ : ByteArray), (⟨#[45]⟩ : ByteArray), (⟨#[42]⟩ : ByteArray), (⟨#[60]⟩ : ByteArray), (⟨#[62]⟩ : ByteArray), (⟨#[33]⟩ : ByteArray), (⟨#[38]⟩ : ByteArray), (⟨#[124]⟩ : ByteArray), (⟨#[46]⟩ : ByteArray), (⟨#[63]⟩ : ByteArray)], ())
def scarfjointref01_one.l0 (q0 : ByteArray) (q1 : Int) (q2 : eE) (q3 : List ByteArray) : Nat → Int → Option (Sum (eE × Unit) (eE × (Int × (Int × Unit))))
 | 0, _ => none
 | n + 1, q4 =>
  cond (decide (q4 < ((q3).length : Int)))
  ((cond (decide (0 ≤ q4) && decide (q4 < ((q3).length : Int))) ((nth q3 (Int.toNat q4)).bind fun x16 =>
  cond (decide ((IntKind.i64.wrap (q1 + (x16.size : Int))) ≤ (q0.size : Int))) (cond (decide (0 ≤ q4) && decide (q4 < ((q3).length : Int))) ((nth q3 (Int.toNat q4)).bind fun x17 =>
  cond (decide (0 ≤ q1) && decide (q1 ≤ IntKind.i64.wrap (q1 + (x17.size : Int))) && decide (IntKind.i64.wrap (q1 + (x17.size : Int)) ≤ (q0.size : Int))) (cond (decide (0 ≤ q4) && decide (q4 < ((q3).length : Int))) ((nth q3 (Int.toNat q4)).bind fun x18 =>
  some (dg (q0.extract (Int.toNat q1) (Int.toNat (IntKind.i64.wrap (q1 + (x17.size : Int))))) x18, ())) none) none) none) (some (false, ()))) none).bind fun b19 =>
  cond b19.1
  (cond (decide (0 ≤ q4) && decide (q4 < ((q3).length : Int))) ((nth q3 (Int.toNat q4)).bind fun x20 =>
  cond (decide (0 ≤ q4) && decide (q4 < ((q3).length : Int))) ((nth q3 (Int.toNat q4)).bind fun x21 =>
  some (Sum.inr ((⟨(4 : Int), x20, (0 : Int)⟩ : eE), (x21.size : Int), (0 : Int), ()))) none) none)
  (scarfjointref01_one.l0 q0 q1 q2 q3 n (IntKind.i64.wrap (q4 + (1 : Int)))))
  (some (Sum.inl (q2, ())))
def scarfjointref01_one (k : Nat) (a0 : ByteArray) (a1 : Int) : Option (eE × (Int × (Int × Unit))) :=
  (ke a0 a1).bind fun c1 =>
  ((bF c1).bind fun r2 =>
  cond r2.1 (some (true, ())) ((aR c1).bind fun r3 =>
  some (r3.1, ()))).bind fun b4 =>
  cond b4.1
  ((aR c1).bind fun r5 =>
  (scarfjointref01_run k a0 a1 r5.1).bind fun r6 =>
  (aR c1).bind fun r7 =>
  cond r7.1
  (cond (decide (r6.1 > (9 : Int)))
  (some ((⟨(0 : Int), (⟨#[]⟩ : ByteArray), (0 : Int)⟩ : eE), (0 : Int), (3 : Int), ()))
  (cond (decide (0 ≤ a1) && decide (a1 ≤ IntKind.i64.wrap (a1 + r6.1)) && decide (IntKind.i64.wrap (a1 + r6.1) ≤ (a0.size : Int))) (some ((⟨(2 : Int), a0.extract (Int.toNat a1) (Int.toNat (IntKind.i64.wrap (a1 + r6.1))), (0 : Int)⟩ : eE), r6.1, (0 : Int), ())) none))
  (cond (decide (r6.1 > (20 : Int)))
  (some ((⟨(0 : Int), (⟨#[]⟩ : ByteArray), (0 : Int)⟩ : eE), (0 : Int), (3 : Int), ()))
  (cond (decide (0 ≤ a1) && decide (a1 ≤ IntKind.i64.wrap (a1 + r6.1)) && decide (IntKind.i64.wrap (a1 + r6.1) ≤ (a0.size : Int))) (some ((⟨(1 : Int), a0.extract (Int.toNat a1) (Int.toNat (IntKind.i64.wrap (a1 + r6.1))), (0 : Int)⟩ : eE), r6.1, (0 : Int), ())) none)))
  (cond (c1 == (34 : Int))
  ((scarfjointref01_quoted k a0 a1).bind fun r8 =>
  cond (r8.1 == (0 : Int))
  (some ((⟨(0 : Int), (⟨#[]⟩ : ByteArray), (0 : Int)⟩ : eE), (0 : Int), (2 : Int), ()))
  (cond (decide ((IntKind.i64.wrap (r8.1 - (2 : Int))) > (60 : Int)))
  (some ((⟨(0 : Int), (⟨#[]⟩ : ByteArray), (0 : Int)⟩ : eE), (0 : Int), (3 : Int), ()))
  (cond (decide (0 ≤ IntKind.i64.wrap (a1 + (1 : Int))) && decide (IntKind.i64.wrap (a1 + (1 : Int)) ≤ IntKind.i64.wrap ((IntKind.i64.wrap (a1 + r8.1)) - (1 : Int))) && decide (IntKind.i64.wrap ((IntKind.i64.wrap (a1 + r8.1)) - (1 : Int)) ≤ (a0.size : Int))) (some ((⟨(3 : Int), a0.extract (Int.toNat (IntKind.i64.wrap (a1 + (1 : Int)))) (Int.toNat (IntKind.i64.wrap ((IntKind.i64.wrap (a1 + r8.1)) - (1 : Int)))), (0 : Int)⟩ : eE), r8.1, (0 : Int), ())) none)))
  ((cK).bind fun r9 =>
  (scarfjointref01_one.l0 a0 a1 (⟨(0 : Int), (⟨#[]⟩ : ByteArray), (0 : Int)⟩ : eE) r9.1 k (0 : Int)).bind fun o22 =>
  aG o22
  (fun y23 => some ((⟨(0 : Int), (⟨#[]⟩ : ByteArray), (0 : Int)⟩ : eE), (0 : Int), (2 : Int), ()))
  (fun z24 => some (z24.1, z24.2.1, z24.2.2.1, ()))))
def cL (k : Nat) (a0 : eE) : Option (Bool × Unit) :=
  (cT a0).bind fun r1 =>
  cond (dg r1.1 (⟨#[]⟩ : ByteArray))
  (some (false, ()))
  ((scarfjointref01_one k r1.1 (0 : Int)).bind fun r2 =>
  (cond (r2.2.2.1 == (0 : Int)) (cond (r2.2.1 == (r1.1.size : Int)) (some ((r2.1.kind == a0.kind), ())) (some (false, ()))) (some (false, ()))).bind fun b3 =>
  some (b3.1, ()))
def ar (k : Nat) (a0 : ByteArray) : Option (Bool × Unit) :=
  (cL k (⟨(1 : Int), a0, (0 : Int)⟩ : eE)).bind fun r1 =>
  some (r1.1, ())
def scarfjointref04_names.l2 (q0 : List ByteArray) (q1 : Int) : Nat → Int → Option (Sum ((List ByteArray) × (Int × Unit)) (Int × Unit))
 | 0, _ => none
 | n + 1, q2 =>
  cond (decide (q2 < q1))
  ((ay q0 q2).bind fun x5 =>
  (ay q0 q1).bind fun x6 =>
  cond (dg x5 x6)
  (some (Sum.inr ((5 : Int), ())))
  (scarfjointref04_names.l2 q0 q1 n (IntKind.i64.wrap (q2 + (1 : Int)))))
  (some (Sum.inl (q0, q1, ())))
def scarfjointref04_names.l0 (k : Nat)  : Nat → (List ByteArray) → Int → Option (Sum Unit (Int × Unit))
 | 0, _, _ => none
 | n + 1, q0, q1 =>
  cond (decide (q1 < (q0.length : Int)))
  ((ay q0 q1).bind fun x15 =>
  (ar k x15).bind fun r16 =>
  cond (!r16.1)
  (some (Sum.inr ((2 : Int), ())))
  ((scarfjointref04_names.l2 q0 q1 k (0 : Int)).bind fun o17 =>
  aG o17
  (fun y18 => scarfjointref04_names.l0 k n y18.1 (IntKind.i64.wrap (y18.2.1 + (1 : Int))))
  (fun z19 => some (Sum.inr (z19.1, ())))))
  (some (Sum.inl (())))
def scarfjointref04_names (k : Nat) (a0 : List ByteArray) : Option (Int × Unit) :=
  cond (decide ((a0.length : Int) > (20 : Int)))
  (some ((3 : Int), ()))
  ((scarfjointref04_names.l0 k k a0 (0 : Int)).bind fun o20 =>
  aG o20
  (fun y21 => some ((0 : Int), ()))
  (fun z22 => some (z22.1, ())))
def bE (k : Nat) (a0 : bX) : Option (Int × Unit) :=
  cond ((a0.names.length : Int) == (0 : Int))
  (((ag a0.low (-1000000 : Int) (1000000 : Int)).bind fun r1 =>
  cond (!r1.1) (some (true, ())) ((ag a0.high a0.low (1000000 : Int)).bind fun r2 =>
  some ((!r2.1), ()))).bind fun b3 =>
  cond b3.1
  (some ((6 : Int), ()))
  (some ((0 : Int), ())))
  ((scarfjointref04_names k a0.names).bind fun r4 =>
  cond (r4.1 != (0 : Int))
  (some (r4.1, ()))
  ((cond (a0.low != (0 : Int)) (some (true, ())) (some ((a0.high != (IntKind.i64.wrap ((a0.names.length : Int) - (1 : Int)))), ()))).bind fun b5 =>
  cond b5.1
  (some ((6 : Int), ()))
  (some ((0 : Int), ()))))
def scarfjointref04_node.l0 (q0 : Int) (q1 : ad) (q2 : bi) : Nat → Int → Option (Sum (Int × (ad × (bi × Unit))) (Int × Unit))
 | 0, _ => none
 | n + 1, q3 =>
  cond (decide (q3 < q0))
  ((ay q1.nodes q3).bind fun x4 =>
  cond (dg x4.name q2.name)
  (some (Sum.inr ((5 : Int), ())))
  (scarfjointref04_node.l0 q0 q1 q2 n (IntKind.i64.wrap (q3 + (1 : Int)))))
  (some (Sum.inl (q0, q1, q2, ())))
def scarfjointref04_node.l4 (q0 : List bX) (q1 : Int) : Nat → Int → Option (Sum ((List bX) × (Int × Unit)) (Int × Unit))
 | 0, _ => none
 | n + 1, q2 =>
  cond (decide (q2 < q1))
  (cond (decide (0 ≤ q2) && decide (q2 < ((q0).length : Int))) ((nth q0 (Int.toNat q2)).bind fun x15 =>
  cond (decide (0 ≤ q1) && decide (q1 < ((q0).length : Int))) ((nth q0 (Int.toNat q1)).bind fun x16 =>
  cond (dg x15.name x16.name)
  (some (Sum.inr ((5 : Int), ())))
  (scarfjointref04_node.l4 q0 q1 n (IntKind.i64.wrap (q2 + (1 : Int))))) none) none)
  (some (Sum.inl (q0, q1, ())))
def scarfjointref04_node.l2 (k : Nat)  : Nat → (List bX) → Int → Option (Sum Unit (Int × Unit))
 | 0, _, _ => none
 | n + 1, q0, q1 =>
  cond (decide (q1 < ((q0).length : Int)))
  (cond (decide (0 ≤ q1) && decide (q1 < ((q0).length : Int))) ((nth q0 (Int.toNat q1)).bind fun x29 =>
  (ar k x29.name).bind fun r30 =>
  cond (!r30.1)
  (some (Sum.inr ((2 : Int), ())))
  ((scarfjointref04_node.l4 q0 q1 k (0 : Int)).bind fun o31 =>
  aG o31
  (fun y32 => cond (decide (0 ≤ y32.2.1) && decide (y32.2.1 < ((y32.1).length : Int))) ((nth y32.1 (Int.toNat y32.2.1)).bind fun x34 =>
  (bE k x34).bind fun r35 =>
  cond (r35.1 != (0 : Int))
  (some (Sum.inr (r35.1, ())))
  (scarfjointref04_node.l2 k n y32.1 (IntKind.i64.wrap (y32.2.1 + (1 : Int))))) none)
  (fun z33 => some (Sum.inr (z33.1, ()))))) none)
  (some (Sum.inl (())))
def scarfjointref04_node (k : Nat) (a0 : ad) (a1 : Int) : Option (Int × Unit) :=
  (ay a0.nodes a1).bind fun x1 =>
  (ar k x1.name).bind fun r2 =>
  cond (!r2.1)
  (some ((2 : Int), ()))
  ((scarfjointref04_node.l0 a1 a0 x1 k (0 : Int)).bind fun o5 =>
  aG o5
  (fun y6 => (ag y6.2.2.1.parent (-1 : Int) (IntKind.i64.wrap (y6.1 - (1 : Int)))).bind fun r8 =>
  cond (!r8.1)
  (some ((6 : Int), ()))
  ((aA k y6.2.1 y6.1).bind fun r9 =>
  (cond (decide ((y6.2.2.1.attrs.length : Int) > (4 : Int))) (some (true, ())) (some ((decide (((r9.1).length : Int) > (8 : Int))), ()))).bind fun b10 =>
  cond b10.1
  (some ((3 : Int), ()))
  ((scarfjointref04_node.l2 k k r9.1 (IntKind.i64.wrap (((r9.1).length : Int) - (y6.2.2.1.attrs.length : Int)))).bind fun o36 =>
  aG o36
  (fun y37 => some ((0 : Int), ()))
  (fun z38 => some (z38.1, ())))))
  (fun z7 => some (z7.1, ())))
def bJ (a0 : Int) (a1 : Int) : Option (Bool × Unit) :=
  ((ag a0 (0 : Int) (40 : Int)).bind fun r1 =>
  cond r1.1 (cond (a1 == (-1 : Int)) (some (true, ())) ((ag a1 a0 (40 : Int)).bind fun r2 =>
  some (r2.1, ()))) (some (false, ()))).bind fun b3 =>
  some (b3.1, ())
def scarfjointref04_edge.l0 (q0 : Int) (q1 : ad) (q2 : bu) : Nat → Int → Option (Sum (ad × (bu × Unit)) (Int × Unit))
 | 0, _ => none
 | n + 1, q3 =>
  cond (decide (q3 < q0))
  ((ay q1.edges q3).bind fun x4 =>
  cond (dg x4.name q2.name)
  (some (Sum.inr ((5 : Int), ())))
  (scarfjointref04_edge.l0 q0 q1 q2 n (IntKind.i64.wrap (q3 + (1 : Int)))))
  (some (Sum.inl (q1, q2, ())))
def scarfjointref04_edge (k : Nat) (a0 : ad) (a1 : Int) : Option (Int × Unit) :=
  (ay a0.edges a1).bind fun x1 =>
  (ar k x1.name).bind fun r2 =>
  cond (!r2.1)
  (some ((2 : Int), ()))
  ((scarfjointref04_edge.l0 a1 a0 x1 k (0 : Int)).bind fun o5 =>
  aG o5
  (fun y6 => ((ag y6.2.1.frm (0 : Int) (IntKind.i64.wrap ((y6.1.nodes.length : Int) - (1 : Int)))).bind fun r8 =>
  cond (!r8.1) (some (true, ())) ((ag y6.2.1.to (0 : Int) (IntKind.i64.wrap ((y6.1.nodes.length : Int) - (1 : Int)))).bind fun r9 =>
  cond (!r9.1) (some (true, ())) ((bJ y6.2.1.outLow y6.2.1.outHigh).bind fun r10 =>
  cond (!r10.1) (some (true, ())) ((bJ y6.2.1.inLow y6.2.1.inHigh).bind fun r11 =>
  some ((!r11.1), ()))))).bind fun b12 =>
  cond b12.1
  (some ((6 : Int), ()))
  (some ((0 : Int), ())))
  (fun z7 => some (z7.1, ())))
def scarfjointref04_Valid.l0 (k : Nat) (q0 : ad) : Nat → Int → Option (Sum (ad × Unit) (ByteArray × (Int × Unit)))
 | 0, _ => none
 | n + 1, q1 =>
  cond (decide (q1 < (q0.nodes.length : Int)))
  ((scarfjointref04_node k q0 q1).bind fun r6 =>
  cond (r6.1 != (0 : Int))
  ((ay q0.nodes q1).bind fun x7 =>
  some (Sum.inr (x7.name, r6.1, ())))
  (scarfjointref04_Valid.l0 k q0 n (IntKind.i64.wrap (q1 + (1 : Int)))))
  (some (Sum.inl (q0, ())))
def scarfjointref04_Valid.l2 (k : Nat) (q0 : ad) : Nat → Int → Option (Sum Unit (ByteArray × (Int × Unit)))
 | 0, _ => none
 | n + 1, q1 =>
  cond (decide (q1 < (q0.edges.length : Int)))
  ((scarfjointref04_edge k q0 q1).bind fun r15 =>
  cond (r15.1 != (0 : Int))
  ((ay q0.edges q1).bind fun x16 =>
  some (Sum.inr (x16.name, r15.1, ())))
  (scarfjointref04_Valid.l2 k q0 n (IntKind.i64.wrap (q1 + (1 : Int)))))
  (some (Sum.inl (())))
def scarfjointref04_Valid (k : Nat) (a0 : ad) : Option (ByteArray × (Int × Unit)) :=
  cond ((a0.nodes.length : Int) == (0 : Int))
  (some ((⟨#[]⟩ : ByteArray), (7 : Int), ()))
  ((cond (decide ((a0.nodes.length : Int) > (12 : Int))) (some (true, ())) (some ((decide ((a0.edges.length : Int) > (20 : Int))), ()))).bind fun b1 =>
  cond b1.1
  (some ((⟨#[]⟩ : ByteArray), (3 : Int), ()))
  ((scarfjointref04_Valid.l0 k a0 k (0 : Int)).bind fun o8 =>
  aG o8
  (fun y9 => (scarfjointref04_Valid.l2 k y9.1 k (0 : Int)).bind fun o17 =>
  aG o17
  (fun y18 => some ((⟨#[]⟩ : ByteArray), (0 : Int), ()))
  (fun z19 => some (z19.1, z19.2.1, ())))
  (fun z10 => some (z10.1, z10.2.1, ()))))
def scarfjointref24_has.l0 (q0 : List Int) (q1 : Int) : Nat → Int → Option (Sum Unit (Bool × Unit))
 | 0, _ => none
 | n + 1, q2 =>
  cond (decide (q2 < (q0.length : Int)))
  ((ay q0 q2).bind fun x2 =>
  cond (x2 == q1)
  (some (Sum.inr (true, ())))
  (scarfjointref24_has.l0 q0 q1 n (IntKind.i64.wrap (q2 + (1 : Int)))))
  (some (Sum.inl (())))
def scarfjointref24_has (k : Nat) (a0 : List Int) (a1 : Int) : Option (Bool × Unit) :=
  (scarfjointref24_has.l0 a0 a1 k (0 : Int)).bind fun o3 =>
  aG o3
  (fun y4 => some (false, ()))
  (fun z5 => some (z5.1, ()))
def scarfjointref24_rest.l0 (k : Nat) (q0 : Int) (q1 : List Int) : Nat → (List Int) → Int → Option ((List Int) × Unit)
 | 0, _, _ => none
 | n + 1, q2, q3 =>
  cond (decide (q3 < q0))
  ((scarfjointref24_has k q1 q3).bind fun r3 =>
  cond (!r3.1)
  (cond (cE ((q2).length + ([q3]).length)) (scarfjointref24_rest.l0 k q0 q1 n (q2 ++ [q3]) (IntKind.i64.wrap (q3 + (1 : Int)))) none)
  (scarfjointref24_rest.l0 k q0 q1 n q2 (IntKind.i64.wrap (q3 + (1 : Int)))))
  (some (q2, ()))
def scarfjointref24_rest (k : Nat) (a0 : Int) (a1 : List Int) : Option ((List Int) × Unit) :=
  (scarfjointref24_rest.l0 k a0 a1 k ([] : List Int) (0 : Int)).bind fun o4 =>
  some (o4.1, ())
def aU (k : Nat) (a0 : aH) : Option ((List Int) × ((List Int) × Unit)) :=
  (scarfjointref24_rest k (a0.right.graph.nodes.length : Int) a0.into.nodes).bind fun r1 =>
  (scarfjointref24_rest k (a0.right.graph.edges.length : Int) a0.into.edges).bind fun r2 =>
  some (r1.1, r2.1, ())
def bD (a0 : Int) : Option (Bool × Unit) :=
  (cond (decide (a0 ≥ (0 : Int))) (some ((decide (a0 ≤ (99 : Int))), ())) (some (false, ()))).bind fun b1 =>
  some (b1.1, ())
def bZ (a0 : Edge) (a1 : Int) : Option (Bool × Unit) :=
  ((bD a0.typ).bind fun r1 =>
  cond r1.1 (cond (decide (a0.frm ≥ (0 : Int))) (cond (decide (a0.frm < a1)) (cond (decide (a0.to ≥ (0 : Int))) (some ((decide (a0.to < a1)), ())) (some (false, ()))) (some (false, ()))) (some (false, ()))) (some (false, ()))).bind fun b2 =>
  some (b2.1, ())
def scarfjointref05_Valid.l0 (q0 : ah) : Nat → Int → Option (Sum (ah × Unit) (Int × Unit))
 | 0, _ => none
 | n + 1, q1 =>
  cond (decide (q1 < (q0.nodes.length : Int)))
  ((ay q0.nodes q1).bind fun x4 =>
  (bD x4).bind fun r5 =>
  cond (!r5.1)
  (some (Sum.inr ((6 : Int), ())))
  (scarfjointref05_Valid.l0 q0 n (IntKind.i64.wrap (q1 + (1 : Int)))))
  (some (Sum.inl (q0, ())))
def scarfjointref05_Valid.l2 (q0 : ah) : Nat → Int → Option (Sum Unit (Int × Unit))
 | 0, _ => none
 | n + 1, q1 =>
  cond (decide (q1 < (q0.edges.length : Int)))
  ((ay q0.edges q1).bind fun x11 =>
  (bZ x11 (q0.nodes.length : Int)).bind fun r12 =>
  cond (!r12.1)
  (some (Sum.inr ((6 : Int), ())))
  (scarfjointref05_Valid.l2 q0 n (IntKind.i64.wrap (q1 + (1 : Int)))))
  (some (Sum.inl (())))
def scarfjointref05_Valid (k : Nat) (a0 : ah) : Option (Int × Unit) :=
  (cond (decide ((a0.nodes.length : Int) > (40 : Int))) (some (true, ())) (some ((decide ((a0.edges.length : Int) > (80 : Int))), ()))).bind fun b1 =>
  cond b1.1
  (some ((3 : Int), ()))
  ((scarfjointref05_Valid.l0 a0 k (0 : Int)).bind fun o6 =>
  aG o6
  (fun y7 => (scarfjointref05_Valid.l2 y7.1 k (0 : Int)).bind fun o13 =>
  aG o13
  (fun y14 => some ((0 : Int), ()))
  (fun z15 => some (z15.1, ())))
  (fun z8 => some (z8.1, ())))
def scarfjointref17_Typed.l0 (q0 : ad) (q1 : ah) : Nat → Int → Option (Sum (ad × (ah × Unit)) (Bool × Unit))
 | 0, _ => none
 | n + 1, q2 =>
  cond (decide (q2 < (q1.nodes.length : Int)))
  (((ay q1.nodes q2).bind fun x4 =>
  cond (decide (x4 < (0 : Int))) (some (true, ())) ((ay q1.nodes q2).bind fun x5 =>
  some ((decide (x5 ≥ (q0.nodes.length : Int))), ()))).bind fun b6 =>
  cond b6.1
  (some (Sum.inr (false, ())))
  (scarfjointref17_Typed.l0 q0 q1 n (IntKind.i64.wrap (q2 + (1 : Int)))))
  (some (Sum.inl (q0, q1, ())))
def scarfjointref17_Typed.l2 (q0 : ad) (q1 : ah) : Nat → Int → Option (Sum Unit (Bool × Unit))
 | 0, _ => none
 | n + 1, q2 =>
  cond (decide (q2 < (q1.edges.length : Int)))
  (((ay q1.edges q2).bind fun x13 =>
  cond (decide (x13.typ < (0 : Int))) (some (true, ())) ((ay q1.edges q2).bind fun x14 =>
  some ((decide (x14.typ ≥ (q0.edges.length : Int))), ()))).bind fun b15 =>
  cond b15.1
  (some (Sum.inr (false, ())))
  (scarfjointref17_Typed.l2 q0 q1 n (IntKind.i64.wrap (q2 + (1 : Int)))))
  (some (Sum.inl (())))
def scarfjointref17_Typed (k : Nat) (a0 : ad) (a1 : ah) : Option (Bool × Unit) :=
  (scarfjointref17_Typed.l0 a0 a1 k (0 : Int)).bind fun o7 =>
  aG o7
  (fun y8 => (scarfjointref17_Typed.l2 y8.1 y8.2.1 k (0 : Int)).bind fun o16 =>
  aG o16
  (fun y17 => some (true, ()))
  (fun z18 => some (z18.1, ())))
  (fun z9 => some (z9.1, ()))
def aJ (k : Nat) (a0 : ad) (a1 : Int) (a2 : Int) : Option (Int × Unit) :=
  (scarfjointref04_Valid k a0).bind fun r1 =>
  cond (r1.2.1 != (0 : Int))
  (some (r1.2.1, ()))
  (((ag a1 (0 : Int) (IntKind.i64.wrap ((a0.nodes.length : Int) - (1 : Int)))).bind fun r2 =>
  cond (!r2.1) (some (true, ())) ((ag a2 (0 : Int) (IntKind.i64.wrap ((a0.nodes.length : Int) - (1 : Int)))).bind fun r3 =>
  some ((!r3.1), ()))).bind fun b4 =>
  cond b4.1
  (some ((6 : Int), ()))
  (some ((0 : Int), ())))
def scarfjointref04_Attrs.l0 (q1 : List bX) : Nat → (List bX) → Int → Option ((List bX) × Unit)
 | 0, _, _ => none
 | n + 1, q0, q2 =>
  cond (decide (q2 < ((q1).length : Int)))
  (cond (decide (0 ≤ q2) && decide (q2 < ((q1).length : Int))) ((nth q1 (Int.toNat q2)).bind fun x4 =>
  cond (cE ((([] : List ByteArray)).length + (x4.names).length)) (cond (cE ((q0).length + ([(⟨x4.name, x4.low, x4.high, (([] : List ByteArray) ++ x4.names)⟩ : bX)]).length)) (scarfjointref04_Attrs.l0 q1 n (q0 ++ [(⟨x4.name, x4.low, x4.high, (([] : List ByteArray) ++ x4.names)⟩ : bX)]) (IntKind.i64.wrap (q2 + (1 : Int)))) none) none) none)
  (some (q0, ()))
def scarfjointref04_Attrs (k : Nat) (a0 : ad) (a1 : Int) : Option ((List bX) × (Int × Unit)) :=
  (aJ k a0 a1 a1).bind fun r1 =>
  cond (r1.1 != (0 : Int))
  (some (([] : List bX), r1.1, ()))
  ((aA k a0 a1).bind fun r2 =>
  (scarfjointref04_Attrs.l0 r2.1 k ([] : List bX) (0 : Int)).bind fun o5 =>
  some (o5.1, (0 : Int), ()))
def ct (k : Nat) (a0 : ad) (a1 : aj) (a2 : Int) (a3 : Int) : Option (bX × (Bool × Unit)) :=
  (cond (decide (a2 < (0 : Int))) (some (true, ())) (some ((decide (a2 ≥ (a1.graph.nodes.length : Int))), ()))).bind fun b1 =>
  cond b1.1
  (some ((⟨(⟨#[]⟩ : ByteArray), (0 : Int), (0 : Int), ([] : List ByteArray)⟩ : bX), false, ()))
  ((ay a1.graph.nodes a2).bind fun x2 =>
  (scarfjointref04_Attrs k a0 x2).bind fun r3 =>
  (cond (r3.2.1 != (0 : Int)) (some (true, ())) (cond (decide (a3 < (0 : Int))) (some (true, ())) (some ((decide (a3 ≥ ((r3.1).length : Int))), ())))).bind fun b4 =>
  cond b4.1
  (some ((⟨(⟨#[]⟩ : ByteArray), (0 : Int), (0 : Int), ([] : List ByteArray)⟩ : bX), false, ()))
  (cond (decide (0 ≤ a3) && decide (a3 < ((r3.1).length : Int))) ((nth r3.1 (Int.toNat a3)).bind fun x5 =>
  some (x5, true, ())) none))
def cg (a0 : Int) : Option (Bool × Unit) :=
  (cond (decide (a0 ≥ (-1000000 : Int))) (some ((decide (a0 ≤ (1000000 : Int))), ())) (some (false, ()))).bind fun b1 =>
  some (b1.1, ())
def bQ (a0 : Int) (a1 : nj) : Option (Int × Unit) :=
  (cond (decide (a1.var < (-1 : Int))) (some (true, ())) (cond (decide (a1.var ≥ a0)) (some (true, ())) (cond (decide (a1.add < (-1000000 : Int))) (some (true, ())) (some ((decide (a1.add > (1000000 : Int))), ()))))).bind fun b1 =>
  cond b1.1
  (some ((6 : Int), ()))
  (some ((0 : Int), ()))
def cI (a0 : Int) (a1 : dN) : Option (Int × Unit) :=
  (cond (a1.kind != (1 : Int)) (some ((a1.kind != (2 : Int)), ())) (some (false, ()))).bind fun b1 =>
  cond b1.1
  (some ((1 : Int), ()))
  ((bQ a0 a1.left).bind fun r2 =>
  cond (r2.1 != (0 : Int))
  (some (r2.1, ()))
  ((bQ a0 a1.right).bind fun r3 =>
  some (r3.1, ())))
def scarfjointref03_Valid.l0 (q0 : Int) (q1 : List dN) : Nat → Int → Option (Sum Unit (Int × Unit))
 | 0, _ => none
 | n + 1, q2 =>
  cond (decide (q2 < (q1.length : Int)))
  ((ay q1 q2).bind fun x4 =>
  (cI q0 x4).bind fun r5 =>
  cond (r5.1 != (0 : Int))
  (some (Sum.inr (r5.1, ())))
  (scarfjointref03_Valid.l0 q0 q1 n (IntKind.i64.wrap (q2 + (1 : Int)))))
  (some (Sum.inl (())))
def scarfjointref03_Valid (k : Nat) (a0 : Int) (a1 : List dN) : Option (Int × Unit) :=
  (cond (decide (a0 < (0 : Int))) (some (true, ())) (some ((decide (a0 > (12 : Int))), ()))).bind fun b1 =>
  cond b1.1
  (some ((6 : Int), ()))
  (cond (decide ((a1.length : Int) > (40 : Int)))
  (some ((3 : Int), ()))
  ((scarfjointref03_Valid.l0 a0 a1 k (0 : Int)).bind fun o6 =>
  aG o6
  (fun y7 => some ((0 : Int), ()))
  (fun z8 => some (z8.1, ()))))
def scarfjointref21_occurs.l0 (q0 : Int) (q1 : aj) : Nat → Int → Option (Sum Unit (Bool × Unit))
 | 0, _ => none
 | n + 1, q2 =>
  cond (decide (q2 < (q1.slots.length : Int)))
  ((ay q1.slots q2).bind fun x2 =>
  cond (x2.term.var == q0)
  (some (Sum.inr (true, ())))
  (scarfjointref21_occurs.l0 q0 q1 n (IntKind.i64.wrap (q2 + (1 : Int)))))
  (some (Sum.inl (())))
def scarfjointref21_occurs (k : Nat) (a0 : aj) (a1 : Int) : Option (Bool × Unit) :=
  (scarfjointref21_occurs.l0 a1 a0 k (0 : Int)).bind fun o3 =>
  aG o3
  (fun y4 => some (false, ()))
  (fun z5 => some (z5.1, ()))
def scarfjointref21_Valid.l0 (k : Nat) (q0 : ad) (q1 : aj) : Nat → Int → Option (Sum (aj × Unit) (Int × Unit))
 | 0, _ => none
 | n + 1, q2 =>
  cond (decide (q2 < (q1.slots.length : Int)))
  ((ay q1.slots q2).bind fun x14 =>
  (ct k q0 q1 x14.node x14.attr).bind fun r15 =>
  (cond (!r15.2.1) (some (true, ())) (cond (decide (x14.term.var < (-1 : Int))) (some (true, ())) (cond (decide (x14.term.var ≥ q1.vars)) (some (true, ())) ((cg x14.term.add).bind fun r16 =>
  some ((!r16.1), ()))))).bind fun b17 =>
  cond b17.1
  (some (Sum.inr ((6 : Int), ())))
  (scarfjointref21_Valid.l0 k q0 q1 n (IntKind.i64.wrap (q2 + (1 : Int)))))
  (some (Sum.inl (q1, ())))
def scarfjointref21_Valid.l2 (k : Nat) (q0 : aj) : Nat → Int → Option (Sum Unit (Int × Unit))
 | 0, _ => none
 | n + 1, q1 =>
  cond (decide (q1 < q0.vars))
  ((scarfjointref21_occurs k q0 q1).bind fun r24 =>
  cond (!r24.1)
  (some (Sum.inr ((9 : Int), ())))
  (scarfjointref21_Valid.l2 k q0 n (IntKind.i64.wrap (q1 + (1 : Int)))))
  (some (Sum.inl (())))
def scarfjointref21_Valid (k : Nat) (a0 : ad) (a1 : aj) : Option (Int × Unit) :=
  (scarfjointref04_Valid k a0).bind fun r1 =>
  cond (r1.2.1 != (0 : Int))
  (some (r1.2.1, ()))
  ((scarfjointref05_Valid k a1.graph).bind fun r2 =>
  cond (r2.1 != (0 : Int))
  (some (r2.1, ()))
  ((scarfjointref17_Typed k a0 a1.graph).bind fun r3 =>
  cond (!r3.1)
  (some ((13 : Int), ()))
  ((cond (decide (a1.vars < (0 : Int))) (some (true, ())) (some ((decide (a1.vars > (12 : Int))), ()))).bind fun b4 =>
  cond b4.1
  (some ((6 : Int), ()))
  ((cond (decide ((a1.slots.length : Int) > (10 : Int))) (some (true, ())) (some ((decide ((a1.tests.length : Int) > (10 : Int))), ()))).bind fun b5 =>
  cond b5.1
  (some ((3 : Int), ()))
  ((scarfjointref21_Valid.l0 k a0 a1 k (0 : Int)).bind fun o18 =>
  aG o18
  (fun y19 => (scarfjointref03_Valid k y19.1.vars y19.1.tests).bind fun r21 =>
  cond (r21.1 != (0 : Int))
  (some (r21.1, ()))
  ((scarfjointref21_Valid.l2 k y19.1 k (0 : Int)).bind fun o25 =>
  aG o25
  (fun y26 => some ((0 : Int), ()))
  (fun z27 => some (z27.1, ()))))
  (fun z20 => some (z20.1, ())))))))
def scarfjointref24_slot.l0 (q0 : Int) (q1 : aj) (q2 : dV) : Nat → Int → Option (Sum Unit (Int × Unit))
 | 0, _ => none
 | n + 1, q3 =>
  cond (decide (q3 < q0))
  (((ay q1.slots q3).bind fun x9 =>
  cond (x9.node == q2.node) ((ay q1.slots q3).bind fun x10 =>
  some ((x10.attr == q2.attr), ())) (some (false, ()))).bind fun b11 =>
  cond b11.1
  (some (Sum.inr ((5 : Int), ())))
  (scarfjointref24_slot.l0 q0 q1 q2 n (IntKind.i64.wrap (q3 + (1 : Int)))))
  (some (Sum.inl (())))
def scarfjointref24_slot (k : Nat) (a0 : ad) (a1 : aj) (a2 : Int) : Option (Int × Unit) :=
  (ay a1.slots a2).bind fun x1 =>
  (cond (decide (x1.node < (0 : Int))) (some (true, ())) (some ((decide (x1.node ≥ (a1.graph.nodes.length : Int))), ()))).bind fun b2 =>
  cond b2.1
  (some ((6 : Int), ()))
  ((ay a1.graph.nodes x1.node).bind fun x3 =>
  (scarfjointref04_Attrs k a0 x3).bind fun r4 =>
  (cond (decide (x1.attr < (0 : Int))) (some (true, ())) (cond (decide (x1.attr ≥ ((r4.1).length : Int))) (some (true, ())) (cond (decide (x1.term.var < (-1 : Int))) (some (true, ())) (cond (decide (x1.term.var ≥ a1.vars)) (some (true, ())) (cond (decide (x1.term.add < (-1000000 : Int))) (some (true, ())) (some ((decide (x1.term.add > (1000000 : Int))), ()))))))).bind fun b5 =>
  cond b5.1
  (some ((6 : Int), ()))
  ((scarfjointref24_slot.l0 a2 a1 x1 k (0 : Int)).bind fun o12 =>
  aG o12
  (fun y13 => some ((0 : Int), ()))
  (fun z14 => some (z14.1, ()))))
def scarfjointref24_right.l0 (k : Nat) (q0 : ad) (q1 : aH) : Nat → Int → Option (Sum Unit (Int × Unit))
 | 0, _ => none
 | n + 1, q2 =>
  cond (decide (q2 < (q1.right.slots.length : Int)))
  ((scarfjointref24_slot k q0 q1.right q2).bind fun r6 =>
  cond (r6.1 != (0 : Int))
  (some (Sum.inr (r6.1, ())))
  (scarfjointref24_right.l0 k q0 q1 n (IntKind.i64.wrap (q2 + (1 : Int)))))
  (some (Sum.inl (())))
def scarfjointref24_right (k : Nat) (a0 : ad) (a1 : aH) : Option (Int × Unit) :=
  (scarfjointref05_Valid k a1.right.graph).bind fun r1 =>
  cond (r1.1 != (0 : Int))
  (some (r1.1, ()))
  ((scarfjointref17_Typed k a0 a1.right.graph).bind fun r2 =>
  cond (!r2.1)
  (some ((13 : Int), ()))
  ((cond (a1.right.vars != a1.left.vars) (some (true, ())) (some ((decide ((a1.right.tests.length : Int) > (0 : Int))), ()))).bind fun b3 =>
  cond b3.1
  (some ((1 : Int), ()))
  (cond (decide ((a1.right.slots.length : Int) > (10 : Int)))
  (some ((3 : Int), ()))
  ((scarfjointref24_right.l0 k a0 a1 k (0 : Int)).bind fun o7 =>
  aG o7
  (fun y8 => some ((0 : Int), ()))
  (fun z9 => some (z9.1, ()))))))
def scarfjointref07_ascending.l0 (q0 : List Int) (q1 : Int) : Nat → Int → Option (Sum Unit (Int × Unit))
 | 0, _ => none
 | n + 1, q2 =>
  cond (decide (q2 < (q0.length : Int)))
  (((ay q0 q2).bind fun x7 =>
  cond (decide (x7 < (0 : Int))) (some (true, ())) ((ay q0 q2).bind fun x8 =>
  some ((decide (x8 ≥ q1)), ()))).bind fun b9 =>
  cond b9.1
  (some (Sum.inr ((6 : Int), ())))
  ((cond (decide (q2 > (0 : Int))) ((ay q0 q2).bind fun x10 =>
  (ay q0 (IntKind.i64.wrap (q2 - (1 : Int)))).bind fun x11 =>
  some ((decide (x10 ≤ x11)), ())) (some (false, ()))).bind fun b12 =>
  cond b12.1
  (some (Sum.inr ((12 : Int), ())))
  (scarfjointref07_ascending.l0 q0 q1 n (IntKind.i64.wrap (q2 + (1 : Int))))))
  (some (Sum.inl (())))
def scarfjointref07_ascending (k : Nat) (a0 : List Int) (a1 : Int) : Option (Int × Unit) :=
  (scarfjointref07_ascending.l0 a0 a1 k (0 : Int)).bind fun o13 =>
  aG o13
  (fun y14 => some ((0 : Int), ()))
  (fun z15 => some (z15.1, ()))
def scarfjointref07_has.l0 (q0 : List Int) (q1 : Int) : Nat → Int → Option (Sum Unit (Bool × Unit))
 | 0, _ => none
 | n + 1, q2 =>
  cond (decide (q2 < (q0.length : Int)))
  ((ay q0 q2).bind fun x2 =>
  cond (x2 == q1)
  (some (Sum.inr (true, ())))
  (scarfjointref07_has.l0 q0 q1 n (IntKind.i64.wrap (q2 + (1 : Int)))))
  (some (Sum.inl (())))
def scarfjointref07_has (k : Nat) (a0 : List Int) (a1 : Int) : Option (Bool × Unit) :=
  (scarfjointref07_has.l0 a0 a1 k (0 : Int)).bind fun o3 =>
  aG o3
  (fun y4 => some (false, ()))
  (fun z5 => some (z5.1, ()))
def scarfjointref07_Right.l0 (k : Nat) (q0 : ah) (q1 : eB) : Nat → Int → Option (Sum Unit (Int × Unit))
 | 0, _ => none
 | n + 1, q2 =>
  cond (decide (q2 < (q1.edges.length : Int)))
  ((ay q1.edges q2).bind fun x13 =>
  (ay q0.edges x13).bind fun x14 =>
  ((scarfjointref07_has k q1.nodes x14.frm).bind fun r15 =>
  cond (!r15.1) (some (true, ())) ((scarfjointref07_has k q1.nodes x14.to).bind fun r16 =>
  some ((!r16.1), ()))).bind fun b17 =>
  cond b17.1
  (some (Sum.inr ((14 : Int), ())))
  (scarfjointref07_Right.l0 k q0 q1 n (IntKind.i64.wrap (q2 + (1 : Int)))))
  (some (Sum.inl (())))
def scarfjointref07_Right (k : Nat) (a0 : ah) (a1 : eB) : Option (Int × Unit) :=
  (scarfjointref07_ascending k a1.nodes (a0.nodes.length : Int)).bind fun r1 =>
  cond (r1.1 != (0 : Int))
  (some (r1.1, ()))
  ((scarfjointref07_ascending k a1.edges (a0.edges.length : Int)).bind fun r2 =>
  cond (r2.1 != (0 : Int))
  (some (r2.1, ()))
  ((scarfjointref07_Right.l0 k a0 a1 k (0 : Int)).bind fun o18 =>
  aG o18
  (fun y19 => some ((0 : Int), ()))
  (fun z20 => some (z20.1, ()))))
def bm (k : Nat) (a0 : ah) (a1 : eB) : Option (Int × Unit) :=
  (scarfjointref05_Valid k a0).bind fun r1 =>
  cond (r1.1 != (0 : Int))
  (some (r1.1, ()))
  ((scarfjointref07_Right k a0 a1).bind fun r2 =>
  some (r2.1, ()))
def scarfjointref07_index.l0 (q0 : List Int) (q1 : Int) : Nat → Int → Option (Sum Unit (Int × Unit))
 | 0, _ => none
 | n + 1, q2 =>
  cond (decide (q2 < (q0.length : Int)))
  ((ay q0 q2).bind fun x2 =>
  cond (x2 == q1)
  (some (Sum.inr (q2, ())))
  (scarfjointref07_index.l0 q0 q1 n (IntKind.i64.wrap (q2 + (1 : Int)))))
  (some (Sum.inl (())))
def scarfjointref07_index (k : Nat) (a0 : List Int) (a1 : Int) : Option (Int × Unit) :=
  (scarfjointref07_index.l0 a0 a1 k (0 : Int)).bind fun o3 =>
  aG o3
  (fun y4 => some ((-1 : Int), ()))
  (fun z5 => some (z5.1, ()))
def scarfjointref07_Extract.l0 (q0 : ah) (q1 : eB) (q2 : List Int) (q3 : List Edge) (q4 : List Int) (q5 : List Int) (q7 : List Edge) : Nat → (List Int) → Int → Option (ah × (eB × (((List Int) × ((List Edge) × Unit)) × (((List Int) × ((List Int) × Unit)) × (((List Int) × ((List Edge) × Unit)) × Unit)))))
 | 0, _, _ => none
 | n + 1, q6, q8 =>
  cond (decide (q8 < (q1.nodes.length : Int)))
  ((ay q1.nodes q8).bind fun x4 =>
  (ay q0.nodes x4).bind fun x5 =>
  cond (cE ((q6).length + ([x5]).length)) (scarfjointref07_Extract.l0 q0 q1 q2 q3 q4 q5 q7 n (q6 ++ [x5]) (IntKind.i64.wrap (q8 + (1 : Int)))) none)
  (some (q0, q1, (q2, q3, ()), (q4, q5, ()), (q6, q7, ()), ()))
def scarfjointref07_Extract.l2 (k : Nat) (q0 : ah) (q1 : eB) (q2 : List Int) (q3 : List Edge) (q4 : List Int) (q5 : List Int) (q6 : List Int) : Nat → (List Edge) → Int → Option (eB × (((List Int) × ((List Edge) × Unit)) × (((List Int) × ((List Int) × Unit)) × (((List Int) × ((List Edge) × Unit)) × Unit))))
 | 0, _, _ => none
 | n + 1, q7, q8 =>
  cond (decide (q8 < (q1.edges.length : Int)))
  ((ay q1.edges q8).bind fun x15 =>
  (ay q0.edges x15).bind fun x16 =>
  (scarfjointref07_index k q1.nodes x16.frm).bind fun r17 =>
  (scarfjointref07_index k q1.nodes x16.to).bind fun r18 =>
  cond (cE ((q7).length + ([(⟨x16.typ, r17.1, r18.1⟩ : Edge)]).length)) (scarfjointref07_Extract.l2 k q0 q1 q2 q3 q4 q5 q6 n (q7 ++ [(⟨x16.typ, r17.1, r18.1⟩ : Edge)]) (IntKind.i64.wrap (q8 + (1 : Int)))) none)
  (some (q1, (q2, q3, ()), (q4, q5, ()), (q6, q7, ()), ()))
def scarfjointref07_Extract (k : Nat) (a0 : ah) (a1 : eB) : Option (((List Int) × ((List Edge) × Unit)) × (((List Int) × ((List Int) × Unit)) × (Int × Unit))) :=
  (bm k a0 a1).bind fun r1 =>
  cond (r1.1 != (0 : Int))
  (some ((([] : List Int), ([] : List Edge), ()), (([] : List Int), ([] : List Int), ()), r1.1, ()))
  ((scarfjointref07_Extract.l0 a0 a1 ([] : List Int) ([] : List Edge) ([] : List Int) ([] : List Int) ([] : List Edge) k ([] : List Int) (0 : Int)).bind fun o6 =>
  (scarfjointref07_Extract.l2 k o6.1 o6.2.1 o6.2.2.1.1 o6.2.2.1.2.1 o6.2.2.2.1.1 o6.2.2.2.1.2.1 o6.2.2.2.2.1.1 k o6.2.2.2.2.1.2.1 (0 : Int)).bind fun o19 =>
  cond (cE ((([] : List Int)).length + (o19.1.nodes).length)) (cond (cE ((([] : List Int)).length + (o19.1.edges).length)) (some ((o19.2.2.2.1.1, o19.2.2.2.1.2.1, ()), ((([] : List Int) ++ o19.1.nodes), (([] : List Int) ++ o19.1.edges), ()), (0 : Int), ())) none) none)
def scarfjointref06_Valid.l0 (q0 : ah) (q1 : ah) (q2 : aP) : Nat → Int → Option (Sum (ah × (ah × (aP × Unit))) (Int × Unit))
 | 0, _ => none
 | n + 1, q3 =>
  cond (decide (q3 < (q0.nodes.length : Int)))
  (((ay q2.nodes q3).bind fun x10 =>
  cond (decide (x10 < (0 : Int))) (some (true, ())) ((ay q2.nodes q3).bind fun x11 =>
  some ((decide (x11 ≥ (q1.nodes.length : Int))), ()))).bind fun b12 =>
  cond b12.1
  (some (Sum.inr ((6 : Int), ())))
  ((ay q2.nodes q3).bind fun x13 =>
  (ay q1.nodes x13).bind fun x14 =>
  (ay q0.nodes q3).bind fun x15 =>
  cond (x14 != x15)
  (some (Sum.inr ((13 : Int), ())))
  (scarfjointref06_Valid.l0 q0 q1 q2 n (IntKind.i64.wrap (q3 + (1 : Int))))))
  (some (Sum.inl (q0, q1, q2, ())))
def scarfjointref06_Valid.l2 (q0 : ah) (q1 : ah) (q2 : aP) : Nat → Int → Option (Sum Unit (Int × Unit))
 | 0, _ => none
 | n + 1, q3 =>
  cond (decide (q3 < (q0.edges.length : Int)))
  (((ay q2.edges q3).bind fun x28 =>
  cond (decide (x28 < (0 : Int))) (some (true, ())) ((ay q2.edges q3).bind fun x29 =>
  some ((decide (x29 ≥ (q1.edges.length : Int))), ()))).bind fun b30 =>
  cond b30.1
  (some (Sum.inr ((6 : Int), ())))
  ((ay q0.edges q3).bind fun x31 =>
  (ay q2.edges q3).bind fun x32 =>
  (ay q1.edges x32).bind fun x33 =>
  cond (x31.typ != x33.typ)
  (some (Sum.inr ((13 : Int), ())))
  (((ay q2.nodes x31.frm).bind fun x34 =>
  cond (x34 != x33.frm) (some (true, ())) ((ay q2.nodes x31.to).bind fun x35 =>
  some ((x35 != x33.to), ()))).bind fun b36 =>
  cond b36.1
  (some (Sum.inr ((11 : Int), ())))
  (scarfjointref06_Valid.l2 q0 q1 q2 n (IntKind.i64.wrap (q3 + (1 : Int)))))))
  (some (Sum.inl (())))
def scarfjointref06_Valid (k : Nat) (a0 : ah) (a1 : ah) (a2 : aP) : Option (Int × Unit) :=
  (scarfjointref05_Valid k a0).bind fun r1 =>
  cond (r1.1 != (0 : Int))
  (some (r1.1, ()))
  ((scarfjointref05_Valid k a1).bind fun r2 =>
  cond (r2.1 != (0 : Int))
  (some (r2.1, ()))
  ((cond ((a2.nodes.length : Int) != (a0.nodes.length : Int)) (some (true, ())) (some (((a2.edges.length : Int) != (a0.edges.length : Int)), ()))).bind fun b3 =>
  cond b3.1
  (some ((20 : Int), ()))
  ((scarfjointref06_Valid.l0 a0 a1 a2 k (0 : Int)).bind fun o16 =>
  aG o16
  (fun y17 => (scarfjointref06_Valid.l2 y17.1 y17.2.1 y17.2.2.1 k (0 : Int)).bind fun o37 =>
  aG o37
  (fun y38 => some ((0 : Int), ()))
  (fun z39 => some (z39.1, ())))
  (fun z18 => some (z18.1, ())))))
def cj (k : Nat) (a0 : aH) : Option (Int × Unit) :=
  (bm k a0.left.graph a0.keep).bind fun r1 =>
  cond (r1.1 != (0 : Int))
  (some (r1.1, ()))
  ((scarfjointref07_Extract k a0.left.graph a0.keep).bind fun r2 =>
  (scarfjointref06_Valid k (⟨r2.1.1, r2.1.2.1⟩ : ah) a0.right.graph a0.into).bind fun r3 =>
  some (r3.1, ()))
def scarfjointref06_Distinct.l2 (q0 : List Int) (q1 : Int) : Nat → Int → Option (Sum ((List Int) × (Int × Unit)) (Bool × Unit))
 | 0, _ => none
 | n + 1, q2 =>
  cond (decide (q2 < q1))
  ((ay q0 q1).bind fun x3 =>
  (ay q0 q2).bind fun x4 =>
  cond (x3 == x4)
  (some (Sum.inr (false, ())))
  (scarfjointref06_Distinct.l2 q0 q1 n (IntKind.i64.wrap (q2 + (1 : Int)))))
  (some (Sum.inl (q0, q1, ())))
def scarfjointref06_Distinct.l0 (k : Nat)  : Nat → (List Int) → Int → Option (Sum Unit (Bool × Unit))
 | 0, _, _ => none
 | n + 1, q0, q1 =>
  cond (decide (q1 < (q0.length : Int)))
  ((scarfjointref06_Distinct.l2 q0 q1 k (0 : Int)).bind fun o11 =>
  aG o11
  (fun y12 => scarfjointref06_Distinct.l0 k n y12.1 (IntKind.i64.wrap (y12.2.1 + (1 : Int))))
  (fun z13 => some (Sum.inr (z13.1, ()))))
  (some (Sum.inl (())))
def scarfjointref06_Distinct (k : Nat) (a0 : List Int) : Option (Bool × Unit) :=
  (scarfjointref06_Distinct.l0 k k a0 (0 : Int)).bind fun o14 =>
  aG o14
  (fun y15 => some (true, ()))
  (fun z16 => some (z16.1, ()))
def aq : Nat → ad → Int → Int → Option (Bool × Unit)
 | 0, _, _, _ => none
 | k + 1, a0, a1, a2 =>
  (cond (a1 == a2) (some (true, ())) (cond (decide (a1 ≥ (0 : Int))) ((ay a0.nodes a1).bind fun x1 =>
  (aq k a0 x1.parent a2).bind fun r2 =>
  some (r2.1, ())) (some (false, ())))).bind fun b3 =>
  some (b3.1, ())
def ce (k : Nat) (a0 : ad) (a1 : Int) (a2 : Int) (a3 : Int) : Option (Bool × Unit) :=
  ((aJ k a0 a2 a3).bind fun r1 =>
  cond (r1.1 != (0 : Int)) (some (true, ())) ((ag a1 (0 : Int) (IntKind.i64.wrap ((a0.edges.length : Int) - (1 : Int)))).bind fun r2 =>
  some ((!r2.1), ()))).bind fun b3 =>
  cond b3.1
  (some (false, ()))
  (((ay a0.edges a1).bind fun x4 =>
  (aq k a0 a2 x4.frm).bind fun r5 =>
  cond r5.1 ((ay a0.edges a1).bind fun x6 =>
  (aq k a0 a3 x6.to).bind fun r7 =>
  some (r7.1, ())) (some (false, ()))).bind fun b8 =>
  some (b8.1, ()))
def scarfjointref24_proper.l0 (q0 : List Int) (q1 : List Int) (q2 : ad) (q3 : ah) : Nat → Int → Option (Sum ((List Int) × (ad × (ah × Unit))) (Bool × Unit))
 | 0, _ => none
 | n + 1, q4 =>
  cond (decide (q4 < (q0.length : Int)))
  ((ay q0 q4).bind fun x4 =>
  (ay q3.nodes x4).bind fun x5 =>
  (ay q2.nodes x5).bind fun x6 =>
  cond x6.abstract
  (some (Sum.inr (false, ())))
  (scarfjointref24_proper.l0 q0 q1 q2 q3 n (IntKind.i64.wrap (q4 + (1 : Int)))))
  (some (Sum.inl (q1, q2, q3, ())))
def scarfjointref24_proper.l2 (k : Nat) (q0 : List Int) (q1 : ad) (q2 : ah) : Nat → Int → Option (Sum Unit (Bool × Unit))
 | 0, _ => none
 | n + 1, q3 =>
  cond (decide (q3 < (q0.length : Int)))
  ((ay q0 q3).bind fun x20 =>
  (ay q2.edges x20).bind fun x21 =>
  (ay q2.nodes x21.frm).bind fun x22 =>
  (ay q2.nodes x21.to).bind fun x23 =>
  (ce k q1 x21.typ x22 x23).bind fun r24 =>
  cond (!r24.1)
  (some (Sum.inr (false, ())))
  (scarfjointref24_proper.l2 k q0 q1 q2 n (IntKind.i64.wrap (q3 + (1 : Int)))))
  (some (Sum.inl (())))
def scarfjointref24_proper (k : Nat) (a0 : ad) (a1 : ah) (a2 : List Int) (a3 : List Int) : Option (Bool × Unit) :=
  (scarfjointref24_proper.l0 a2 a3 a0 a1 k (0 : Int)).bind fun o7 =>
  aG o7
  (fun y8 => (scarfjointref24_proper.l2 k y8.1 y8.2.1 y8.2.2.1 k (0 : Int)).bind fun o25 =>
  aG o25
  (fun y26 => some (true, ()))
  (fun z27 => some (z27.1, ())))
  (fun z9 => some (z9.1, ()))
def aN (a0 : ae) : Option (Bool × Unit) :=
  (cond ((IntKind.i64.wrap ((IntKind.i64.wrap ((IntKind.i64.wrap ((a0.map.nodes.length : Int) + (a0.map.edges.length : Int))) + (a0.pattern.graph.nodes.length : Int))) + (a0.pattern.graph.edges.length : Int))) == (0 : Int)) (cond ((IntKind.i64.wrap ((a0.pattern.slots.length : Int) + (a0.pattern.tests.length : Int))) == (0 : Int)) (some ((a0.pattern.vars == (0 : Int)), ())) (some (false, ()))) (some (false, ()))).bind fun b1 =>
  some (b1.1, ())
def bY (a0 : ae) : Option (Bool × Unit) :=
  cond (a0.kind == (1 : Int))
  ((cond ((a0.kids.length : Int) == (0 : Int)) ((aN a0).bind fun r1 =>
  some (r1.1, ())) (some (false, ()))).bind fun b2 =>
  some (b2.1, ()))
  (cond (a0.kind == (2 : Int))
  ((cond ((a0.kids.length : Int) == (1 : Int)) ((aN a0).bind fun r3 =>
  some (r3.1, ())) (some (false, ()))).bind fun b4 =>
  some (b4.1, ()))
  (cond (a0.kind == (3 : Int))
  (cond (a0.kind == (3 : Int))
  ((cond (decide ((a0.kids.length : Int) > (0 : Int))) ((aN a0).bind fun r5 =>
  some (r5.1, ())) (some (false, ()))).bind fun b6 =>
  some (b6.1, ()))
  (cond (a0.kind == (5 : Int))
  (some (((a0.kids.length : Int) == (1 : Int)), ()))
  (some (false, ()))))
  (cond (a0.kind == (4 : Int))
  ((cond (decide ((a0.kids.length : Int) > (0 : Int))) ((aN a0).bind fun r7 =>
  some (r7.1, ())) (some (false, ()))).bind fun b8 =>
  some (b8.1, ()))
  (cond (a0.kind == (5 : Int))
  (some (((a0.kids.length : Int) == (1 : Int)), ()))
  (some (false, ()))))))
def scarfjointref22_allRight.l0 (rec_ : ae → Option (Bool × Unit)) (q0 : ae) : Nat → Int → Option (Sum Unit (Bool × Unit))
 | 0, _ => none
 | n + 1, q1 =>
  cond (decide (q1 < (q0.kids.length : Int)))
  ((ay q0.kids q1).bind fun x6 =>
  (rec_ x6).bind fun r7 =>
  cond (!r7.1)
  (some (Sum.inr (false, ())))
  (scarfjointref22_allRight.l0 rec_ q0 n (IntKind.i64.wrap (q1 + (1 : Int)))))
  (some (Sum.inl (())))
def scarfjointref22_allRight : Nat → ae → Option (Bool × Unit)
 | 0, _ => none
 | k + 1, a0 =>
  (bY a0).bind fun r1 =>
  cond (!r1.1)
  (some (false, ()))
  ((scarfjointref22_allRight.l0 (scarfjointref22_allRight k) a0 k (0 : Int)).bind fun o8 =>
  aG o8
  (fun y9 => some (true, ()))
  (fun z10 => some (z10.1, ())))
def scarfjointref22_Measure.l0 (rec_ : ae → Option (Int × (Int × Unit))) (q0 : ae) : Nat → Int → Int → Int → Option (ae × (Int × (Int × Unit)))
 | 0, _, _, _ => none
 | n + 1, q1, q2, q3 =>
  cond (decide (q3 < (q0.kids.length : Int)))
  ((ay q0.kids q3).bind fun x5 =>
  (rec_ x5).bind fun r6 =>
  scarfjointref22_Measure.l0 rec_ q0 n (IntKind.i64.wrap (q1 + r6.1)) (fH q2 r6.2.1) (IntKind.i64.wrap (q3 + (1 : Int))))
  (some (q0, q1, q2, ()))
def scarfjointref22_Measure : Nat → ae → Option (Int × (Int × Unit))
 | 0, _ => none
 | k + 1, a0 =>
  (scarfjointref22_Measure.l0 (scarfjointref22_Measure k) a0 k (1 : Int) (0 : Int) (0 : Int)).bind fun o7 =>
  cond (o7.1.kind == (5 : Int))
  (some (o7.2.1, IntKind.i64.wrap (o7.2.2.1 + (1 : Int)), ()))
  (some (o7.2.1, o7.2.2.1, ()))
def c8 (k : Nat) (a0 : ae) : Option (Int × Unit) :=
  (scarfjointref22_allRight k a0).bind fun r1 =>
  cond (!r1.1)
  (some ((1 : Int), ()))
  ((scarfjointref22_Measure k a0).bind fun r2 =>
  (cond (decide (r2.1 > (12 : Int))) (some (true, ())) (some ((decide (r2.2.1 > (3 : Int))), ()))).bind fun b3 =>
  cond b3.1
  (some ((3 : Int), ()))
  (some ((0 : Int), ())))
def scarfjointref22_occurs.l0 (q0 : Int) (q1 : aj) : Nat → Int → Option (Sum Unit (Bool × Unit))
 | 0, _ => none
 | n + 1, q2 =>
  cond (decide (q2 < (q1.slots.length : Int)))
  ((ay q1.slots q2).bind fun x2 =>
  cond (x2.term.var == q0)
  (some (Sum.inr (true, ())))
  (scarfjointref22_occurs.l0 q0 q1 n (IntKind.i64.wrap (q2 + (1 : Int)))))
  (some (Sum.inl (())))
def scarfjointref22_occurs (k : Nat) (a0 : aj) (a1 : Int) : Option (Bool × Unit) :=
  (scarfjointref22_occurs.l0 a1 a0 k (0 : Int)).bind fun o3 =>
  aG o3
  (fun y4 => some (false, ()))
  (fun z5 => some (z5.1, ()))
def scarfjointref22_inner.l0 (k : Nat) (q0 : aj) (q1 : Int) : Nat → Int → Option (Sum Unit (Int × Unit))
 | 0, _ => none
 | n + 1, q2 =>
  cond (decide (q2 < q0.vars))
  ((scarfjointref22_occurs k q0 q2).bind fun r4 =>
  cond (!r4.1)
  (some (Sum.inr (q1, ())))
  (scarfjointref22_inner.l0 k q0 q1 n (IntKind.i64.wrap (q2 + (1 : Int)))))
  (some (Sum.inl (())))
def scarfjointref22_inner (k : Nat) (a0 : ad) (a1 : Int) (a2 : aj) : Option (Int × Unit) :=
  cond (decide (a2.vars < a1))
  (some ((20 : Int), ()))
  ((scarfjointref21_Valid k a0 a2).bind fun r1 =>
  cond (r1.1 != (9 : Int))
  (some (r1.1, ()))
  ((scarfjointref22_inner.l0 k a2 r1.1 k a1).bind fun o5 =>
  aG o5
  (fun y6 => some ((0 : Int), ()))
  (fun z7 => some (z7.1, ()))))
def bT (k : Nat) (a0 : ah) (a1 : ah) (a2 : aP) : Option (Bool × Unit) :=
  ((scarfjointref06_Valid k a0 a1 a2).bind fun r1 =>
  cond (r1.1 == (0 : Int)) ((scarfjointref06_Distinct k a2.nodes).bind fun r2 =>
  cond r2.1 ((scarfjointref06_Distinct k a2.edges).bind fun r3 =>
  some (r3.1, ())) (some (false, ()))) (some (false, ()))).bind fun b4 =>
  some (b4.1, ())
def scarfjointref22_over.l0 (rec_ : ad → aj → ae → Option (Int × Unit)) (q0 : ad) (q1 : ae) (q2 : aj) : Nat → Int → Option (Sum Unit (Int × Unit))
 | 0, _ => none
 | n + 1, q3 =>
  cond (decide (q3 < (q1.kids.length : Int)))
  ((ay q1.kids q3).bind fun x8 =>
  (rec_ q0 q2 x8).bind fun r9 =>
  cond (r9.1 != (0 : Int))
  (some (Sum.inr (r9.1, ())))
  (scarfjointref22_over.l0 rec_ q0 q1 q2 n (IntKind.i64.wrap (q3 + (1 : Int)))))
  (some (Sum.inl (())))
def scarfjointref22_over : Nat → ad → aj → ae → Option (Int × Unit)
 | 0, _, _, _ => none
 | k + 1, a0, a1, a2 =>
  cond (a2.kind == (5 : Int))
  ((scarfjointref22_inner k a0 a1.vars a2.pattern).bind fun r1 =>
  cond (r1.1 != (0 : Int))
  (some (r1.1, ()))
  ((scarfjointref06_Valid k a1.graph a2.pattern.graph a2.map).bind fun r2 =>
  cond (r2.1 != (0 : Int))
  (some (r2.1, ()))
  ((bT k a1.graph a2.pattern.graph a2.map).bind fun r3 =>
  cond (!r3.1)
  (some ((1 : Int), ()))
  ((scarfjointref22_over.l0 (scarfjointref22_over k) a0 a2 a2.pattern k (0 : Int)).bind fun o10 =>
  aG o10
  (fun y11 => some ((0 : Int), ()))
  (fun z12 => some (z12.1, ()))))))
  ((scarfjointref22_over.l0 (scarfjointref22_over k) a0 a2 a1 k (0 : Int)).bind fun o13 =>
  aG o13
  (fun y14 => some ((0 : Int), ()))
  (fun z15 => some (z15.1, ())))
def ca (k : Nat) (a0 : ad) (a1 : aj) (a2 : ae) : Option (Int × Unit) :=
  (scarfjointref21_Valid k a0 a1).bind fun r1 =>
  cond (r1.1 != (0 : Int))
  (some (r1.1, ()))
  ((c8 k a2).bind fun r2 =>
  cond (r2.1 != (0 : Int))
  (some (r2.1, ()))
  ((scarfjointref22_over k a0 a1 a2).bind fun r3 =>
  some (r3.1, ())))
def bl (k : Nat) (a0 : ad) (a1 : aH) : Option (Int × Unit) :=
  (scarfjointref04_Valid k a0).bind fun r1 =>
  cond (r1.2.1 != (0 : Int))
  (some (r1.2.1, ()))
  ((ar k a1.name).bind fun r2 =>
  cond (!r2.1)
  (some ((2 : Int), ()))
  ((scarfjointref21_Valid k a0 a1.left).bind fun r3 =>
  cond (r3.1 != (0 : Int))
  (some (r3.1, ()))
  ((scarfjointref24_right k a0 a1).bind fun r4 =>
  cond (r4.1 != (0 : Int))
  (some (r4.1, ()))
  ((cj k a1).bind fun r5 =>
  cond (r5.1 != (0 : Int))
  (some (r5.1, ()))
  (((scarfjointref06_Distinct k a1.into.nodes).bind fun r6 =>
  cond (!r6.1) (some (true, ())) ((scarfjointref06_Distinct k a1.into.edges).bind fun r7 =>
  some ((!r7.1), ()))).bind fun b8 =>
  cond b8.1
  (some ((11 : Int), ()))
  ((aU k a1).bind fun r9 =>
  (scarfjointref24_proper k a0 a1.right.graph r9.1 r9.2.1).bind fun r10 =>
  cond (!r10.1)
  (some ((13 : Int), ()))
  ((ca k a0 a1.left a1.condition).bind fun r11 =>
  some (r11.1, ()))))))))
def bO (k : Nat) (a0 : aH) : Option ((List Int) × ((List Int) × Unit)) :=
  (scarfjointref24_rest k (a0.left.graph.nodes.length : Int) a0.keep.nodes).bind fun r1 =>
  (scarfjointref24_rest k (a0.left.graph.edges.length : Int) a0.keep.edges).bind fun r2 =>
  some (r1.1, r2.1, ())
def aS (k : Nat) (a0 : ad) (a1 : aH) : Option ((List Int) × ((List Int) × (Int × Unit))) :=
  (bl k a0 a1).bind fun r1 =>
  cond (r1.1 != (0 : Int))
  (some (([] : List Int), ([] : List Int), r1.1, ()))
  ((bO k a1).bind fun r2 =>
  some (r2.1, r2.2.1, (0 : Int), ()))
def scarfjointref04_Below.l0 (k : Nat) (q0 : Int) (q1 : ad) : Nat → (List Int) → Int → Option ((List Int) × Unit)
 | 0, _, _ => none
 | n + 1, q2, q3 =>
  cond (decide (q3 < (q1.nodes.length : Int)))
  ((aq k q1 q3 q0).bind fun r4 =>
  cond r4.1
  (cond (cE ((q2).length + ([q3]).length)) (scarfjointref04_Below.l0 k q0 q1 n (q2 ++ [q3]) (IntKind.i64.wrap (q3 + (1 : Int)))) none)
  (scarfjointref04_Below.l0 k q0 q1 n q2 (IntKind.i64.wrap (q3 + (1 : Int)))))
  (some (q2, ()))
def scarfjointref04_Below (k : Nat) (a0 : ad) (a1 : Int) : Option ((List Int) × (Int × Unit)) :=
  (aJ k a0 a1 a1).bind fun r1 =>
  cond (r1.1 != (0 : Int))
  (some (([] : List Int), r1.1, ()))
  ((scarfjointref04_Below.l0 k a1 a0 k ([] : List Int) (0 : Int)).bind fun o5 =>
  some (o5.1, (0 : Int), ()))
def scarfjointref40_Given.l2 (k : Nat) (q0 : List aH) (q1 : ad) (q2 : Int) (q3 : List Int) : Nat → Int → Option (Sum ((List aH) × (ad × (Int × Unit))) (Int × Unit))
 | 0, _ => none
 | n + 1, q4 =>
  cond (decide (q4 < ((q3).length : Int)))
  ((ay q0 q2).bind fun x12 =>
  cond (decide (0 ≤ q4) && decide (q4 < ((q3).length : Int))) ((nth q3 (Int.toNat q4)).bind fun x13 =>
  (ay x12.left.graph.nodes x13).bind fun x14 =>
  (scarfjointref04_Below k q1 x14).bind fun r15 =>
  cond (decide (((r15.1).length : Int) > (1 : Int)))
  (some (Sum.inr ((13 : Int), ())))
  (scarfjointref40_Given.l2 k q0 q1 q2 q3 n (IntKind.i64.wrap (q4 + (1 : Int))))) none)
  (some (Sum.inl (q0, q1, q2, ())))
def scarfjointref40_Given.l0 (k : Nat)  : Nat → (List aH) → ad → Int → Option (Sum Unit (Int × Unit))
 | 0, _, _, _ => none
 | n + 1, q0, q1, q2 =>
  cond (decide (q2 < (q0.length : Int)))
  ((ay q0 q2).bind fun x24 =>
  (aS k q1 x24).bind fun r25 =>
  cond (r25.2.2.1 != (0 : Int))
  (some (Sum.inr (r25.2.2.1, ())))
  ((scarfjointref40_Given.l2 k q0 q1 q2 r25.1 k (0 : Int)).bind fun o26 =>
  aG o26
  (fun y27 => scarfjointref40_Given.l0 k n y27.1 y27.2.1 (IntKind.i64.wrap (y27.2.2.1 + (1 : Int))))
  (fun z28 => some (Sum.inr (z28.1, ())))))
  (some (Sum.inl (())))
def scarfjointref40_Given (k : Nat) (a0 : ad) (a1 : List aH) : Option (Int × Unit) :=
  (scarfjointref04_Valid k a0).bind fun r1 =>
  cond (r1.2.1 != (0 : Int))
  (some (r1.2.1, ()))
  (cond (decide ((a1.length : Int) > (6 : Int)))
  (some ((3 : Int), ()))
  ((scarfjointref40_Given.l0 k k a1 a0 (0 : Int)).bind fun o29 =>
  aG o29
  (fun y30 => some ((0 : Int), ()))
  (fun z31 => some (z31.1, ()))))
def scarfjointref40_places.l2 (q0 : List Int) (q1 : List Int) (q2 : ad) (q3 : ah) (q4 : List Int) (q5 : Int) : Nat → Bool → Int → Option ((List Int) × ((List Int) × (ad × (ah × ((List Int) × (Int × (Bool × Unit)))))))
 | 0, _, _ => none
 | n + 1, q6, q7 =>
  cond (decide (q7 < (q0.length : Int)))
  ((cond q6 (some (true, ())) ((ay q0 q7).bind fun x4 =>
  (ay q3.nodes x4).bind fun x5 =>
  some ((x5 == q5), ()))).bind fun b6 =>
  scarfjointref40_places.l2 q0 q1 q2 q3 q4 q5 n b6.1 (IntKind.i64.wrap (q7 + (1 : Int))))
  (some (q0, q1, q2, q3, q4, q5, q6, ()))
def scarfjointref40_places.l4 (q0 : List Int) (q1 : List Int) (q2 : ad) (q3 : ah) (q4 : List Int) (q5 : Int) : Nat → Bool → Int → Option ((List Int) × ((List Int) × (ad × (ah × ((List Int) × (Int × (Bool × Unit)))))))
 | 0, _, _ => none
 | n + 1, q6, q7 =>
  cond (decide (q7 < (q1.length : Int)))
  ((cond q6 (some (true, ())) ((ay q1 q7).bind fun x11 =>
  (ay q3.edges x11).bind fun x12 =>
  some (((IntKind.i64.wrap ((q2.nodes.length : Int) + x12.typ)) == q5), ()))).bind fun b13 =>
  scarfjointref40_places.l4 q0 q1 q2 q3 q4 q5 n b13.1 (IntKind.i64.wrap (q7 + (1 : Int))))
  (some (q0, q1, q2, q3, q4, q5, q6, ()))
def scarfjointref40_places.l0 (k : Nat)  : Nat → (List Int) → (List Int) → ad → ah → (List Int) → Int → Option ((List Int) × Unit)
 | 0, _, _, _, _, _, _ => none
 | n + 1, q0, q1, q2, q3, q4, q5 =>
  cond (decide (q5 < (IntKind.i64.wrap ((q2.nodes.length : Int) + (q2.edges.length : Int)))))
  ((scarfjointref40_places.l2 q0 q1 q2 q3 q4 q5 k false (0 : Int)).bind fun o17 =>
  (scarfjointref40_places.l4 o17.1 o17.2.1 o17.2.2.1 o17.2.2.2.1 o17.2.2.2.2.1 o17.2.2.2.2.2.1 k o17.2.2.2.2.2.2.1 (0 : Int)).bind fun o18 =>
  cond o18.2.2.2.2.2.2.1
  (cond (cE ((o18.2.2.2.2.1).length + ([o18.2.2.2.2.2.1]).length)) (scarfjointref40_places.l0 k n o18.1 o18.2.1 o18.2.2.1 o18.2.2.2.1 (o18.2.2.2.2.1 ++ [o18.2.2.2.2.2.1]) (IntKind.i64.wrap (o18.2.2.2.2.2.1 + (1 : Int)))) none)
  (scarfjointref40_places.l0 k n o18.1 o18.2.1 o18.2.2.1 o18.2.2.2.1 o18.2.2.2.2.1 (IntKind.i64.wrap (o18.2.2.2.2.2.1 + (1 : Int)))))
  (some (q4, ()))
def scarfjointref40_places (k : Nat) (a0 : ad) (a1 : ah) (a2 : List Int) (a3 : List Int) : Option ((List Int) × Unit) :=
  (scarfjointref40_places.l0 k k a2 a3 a0 a1 ([] : List Int) (0 : Int)).bind fun o19 =>
  some (o19.1, ())
def aI (k : Nat) (a0 : ad) (a1 : aH) : Option ((List Int) × Unit) :=
  (aS k a0 a1).bind fun r1 =>
  (scarfjointref40_places k a0 a1.left.graph r1.1 r1.2.1).bind fun r2 =>
  some (r2.1, ())
def bN (k : Nat) (a0 : ad) (a1 : aH) : Option ((List Int) × ((List Int) × (Int × Unit))) :=
  (bl k a0 a1).bind fun r1 =>
  cond (r1.1 != (0 : Int))
  (some (([] : List Int), ([] : List Int), r1.1, ()))
  ((aU k a1).bind fun r2 =>
  some (r2.1, r2.2.1, (0 : Int), ()))
def bp (k : Nat) (a0 : ad) (a1 : aH) : Option ((List Int) × Unit) :=
  (bN k a0 a1).bind fun r1 =>
  (scarfjointref40_places k a0 a1.right.graph r1.1 r1.2.1).bind fun r2 =>
  some (r2.1, ())
def scarfjointref05_SameInts.l0 (q0 : List Int) (q1 : List Int) : Nat → Int → Option (Sum Unit (Bool × Unit))
 | 0, _ => none
 | n + 1, q2 =>
  cond (decide (q2 < (q0.length : Int)))
  ((ay q0 q2).bind fun x3 =>
  (ay q1 q2).bind fun x4 =>
  cond (x3 != x4)
  (some (Sum.inr (false, ())))
  (scarfjointref05_SameInts.l0 q0 q1 n (IntKind.i64.wrap (q2 + (1 : Int)))))
  (some (Sum.inl (())))
def scarfjointref05_SameInts (k : Nat) (a0 : List Int) (a1 : List Int) : Option (Bool × Unit) :=
  cond ((a0.length : Int) != (a1.length : Int))
  (some (false, ()))
  ((scarfjointref05_SameInts.l0 a0 a1 k (0 : Int)).bind fun o5 =>
  aG o5
  (fun y6 => some (true, ()))
  (fun z7 => some (z7.1, ())))
def scarfjointref40_raise.l2 (q0 : List aH) (q1 : List Int) (q2 : ad) (q3 : List Int) (q4 : List Int) (q5 : Int) (q6 : List Int) (q7 : List Int) : Nat → Int → Int → Option ((List aH) × ((List Int) × (ad × ((List Int) × ((List Int) × (Int × ((List Int) × (Int × Unit))))))))
 | 0, _, _ => none
 | n + 1, q8, q9 =>
  cond (decide (q9 < ((q6).length : Int)))
  (cond (decide (0 ≤ q9) && decide (q9 < ((q6).length : Int))) ((nth q6 (Int.toNat q9)).bind fun x7 =>
  (ay q1 x7).bind fun x8 =>
  scarfjointref40_raise.l2 q0 q1 q2 q3 q4 q5 q6 q7 n (fH q8 x8) (IntKind.i64.wrap (q9 + (1 : Int)))) none)
  (some (q0, q1, q2, q3, q4, q5, q7, q8, ()))
def scarfjointref40_raise.l4 (q0 : List aH) (q1 : List Int) (q2 : ad) (q3 : List Int) (q5 : Int) (q6 : List Int) (q7 : Int) : Nat → (List Int) → Int → Option ((List aH) × ((List Int) × (ad × ((List Int) × ((List Int) × (Int × Unit))))))
 | 0, _, _ => none
 | n + 1, q4, q8 =>
  cond (decide (q8 < ((q6).length : Int)))
  (cond (decide (0 ≤ q8) && decide (q8 < ((q6).length : Int))) ((nth q6 (Int.toNat q8)).bind fun x14 =>
  cond (decide (0 ≤ q8) && decide (q8 < ((q6).length : Int))) ((nth q6 (Int.toNat q8)).bind fun x15 =>
  cond (decide (0 ≤ x15) && decide (x15 < ((q4).length : Int))) ((nth q4 (Int.toNat x15)).bind fun x16 =>
  cond (decide (0 ≤ x14) && decide (x14 < ((q4).length : Int))) ((nth q4 (Int.toNat x14)).bind fun x17 =>
  scarfjointref40_raise.l4 q0 q1 q2 q3 q5 q6 q7 n ((q4).set (Int.toNat x14) (fH x16 (IntKind.i64.wrap (q7 + (1 : Int))))) (IntKind.i64.wrap (q8 + (1 : Int)))) none) none) none) none)
  (some (q0, q1, q2, q3, q4, q5, ()))
def scarfjointref40_raise.l0 (k : Nat)  : Nat → (List aH) → (List Int) → ad → (List Int) → (List Int) → Int → Option ((List Int) × ((List Int) × Unit))
 | 0, _, _, _, _, _, _ => none
 | n + 1, q0, q1, q2, q3, q4, q5 =>
  cond (decide (q5 < (q0.length : Int)))
  ((ay q0 q5).bind fun x25 =>
  (aI k q2 x25).bind fun r26 =>
  (ay q0 q5).bind fun x27 =>
  (bp k q2 x27).bind fun r28 =>
  (scarfjointref40_raise.l2 q0 q1 q2 q3 q4 q5 r26.1 r28.1 k (0 : Int) (0 : Int)).bind fun o29 =>
  cond (cE ((o29.2.2.2.1).length + ([o29.2.2.2.2.2.2.2.1]).length)) ((scarfjointref40_raise.l4 o29.1 o29.2.1 o29.2.2.1 (o29.2.2.2.1 ++ [o29.2.2.2.2.2.2.2.1]) o29.2.2.2.2.2.1 o29.2.2.2.2.2.2.1 o29.2.2.2.2.2.2.2.1 k o29.2.2.2.2.1 (0 : Int)).bind fun o30 =>
  scarfjointref40_raise.l0 k n o30.1 o30.2.1 o30.2.2.1 o30.2.2.2.1 o30.2.2.2.2.1 (IntKind.i64.wrap (o30.2.2.2.2.2.1 + (1 : Int)))) none)
  (some (q3, q4, ()))
def scarfjointref40_raise (k : Nat) (a0 : ad) (a1 : List aH) (a2 : List Int) : Option ((List Int) × ((List Int) × Unit)) :=
  cond (cE ((([] : List Int)).length + (a2).length)) ((scarfjointref40_raise.l0 k k a1 a2 a0 ([] : List Int) (([] : List Int) ++ a2) (0 : Int)).bind fun o31 =>
  some (o31.1, o31.2.1, ())) none
def scarfjointref40_least.l0 (k : Nat) (q0 : List aH) (q1 : ad) (q2 : List Int) (q3 : List Int) (q4 : List Int) : Nat → Int → Option (Sum ((List aH) × (ad × (((List Int) × ((List Int) × ((List Int) × Unit))) × Unit))) (((List Int) × ((List Int) × ((List Int) × Unit))) × (Bool × Unit)))
 | 0, _ => none
 | n + 1, q5 =>
  cond (decide (q5 < (q0.length : Int)))
  ((ay q0 q5).bind fun x5 =>
  (aI k q1 x5).bind fun r6 =>
  cond (((r6.1).length : Int) == (0 : Int))
  (some (Sum.inr ((([] : List Int), ([] : List Int), ([] : List Int), ()), false, ())))
  (scarfjointref40_least.l0 k q0 q1 q2 q3 q4 n (IntKind.i64.wrap (q5 + (1 : Int)))))
  (some (Sum.inl (q0, q1, (q2, q3, q4, ()), ())))
def scarfjointref40_least.l2 (k : Nat) (q0 : List aH) (q1 : ad) (q2 : List Int) (q3 : List Int) (q4 : List Int) (q5 : Int) : Nat → (List Int) → Int → Option (Sum (((List Int) × ((List Int) × ((List Int) × Unit))) × Unit) (((List Int) × ((List Int) × ((List Int) × Unit))) × (Bool × Unit)))
 | 0, _, _ => none
 | n + 1, q6, q7 =>
  cond (decide (q7 ≤ (IntKind.i64.wrap (q5 + (1 : Int)))))
  ((scarfjointref40_raise k q1 q0 q6).bind fun r14 =>
  (scarfjointref05_SameInts k q6 r14.2.1).bind fun r15 =>
  cond r15.1
  (cond (decide (0 ≤ (0 : Int)) && decide ((0 : Int) ≤ (q1.nodes.length : Int)) && decide ((q1.nodes.length : Int) ≤ ((q6).length : Int))) (cond (decide (0 ≤ (q1.nodes.length : Int)) && decide ((q1.nodes.length : Int) ≤ ((q6).length : Int)) && decide (((q6).length : Int) ≤ ((q6).length : Int))) (cond (decide (0 ≤ (Int.toNat (q1.nodes.length : Int))) && decide ((Int.toNat (q1.nodes.length : Int)) ≤ (q6).length)) (cond (decide ((Int.toNat (q1.nodes.length : Int)) ≤ (Int.toNat ((q6).length : Int))) && decide ((Int.toNat ((q6).length : Int)) ≤ (q6).length)) (some (Sum.inr ((r14.1, slc q6 0 (Int.toNat (q1.nodes.length : Int)), slc q6 (Int.toNat (q1.nodes.length : Int)) (Int.toNat ((q6).length : Int)), ()), true, ()))) none) none) none) none)
  (scarfjointref40_least.l2 k q0 q1 q2 q3 q4 q5 n r14.2.1 (IntKind.i64.wrap (q7 + (1 : Int)))))
  (some (Sum.inl ((q2, q3, q4, ()), ())))
def scarfjointref40_least (k : Nat) (a0 : ad) (a1 : List aH) : Option (((List Int) × ((List Int) × ((List Int) × Unit))) × (Bool × Unit)) :=
  (scarfjointref40_least.l0 k a1 a0 ([] : List Int) ([] : List Int) ([] : List Int) k (0 : Int)).bind fun o7 =>
  aG o7
  (fun y8 => cond (decide (0 ≤ IntKind.i64.wrap ((y8.2.1.nodes.length : Int) + (y8.2.1.edges.length : Int))) && decide (IntKind.i64.wrap ((y8.2.1.nodes.length : Int) + (y8.2.1.edges.length : Int)) ≤ IntKind.i64.wrap ((y8.2.1.nodes.length : Int) + (y8.2.1.edges.length : Int))) && cE (Int.toNat (IntKind.i64.wrap ((y8.2.1.nodes.length : Int) + (y8.2.1.edges.length : Int))))) ((scarfjointref40_least.l2 k y8.1 y8.2.1 y8.2.2.1.1 y8.2.2.1.2.1 y8.2.2.1.2.2.1 (IntKind.i64.wrap ((y8.2.1.nodes.length : Int) + (y8.2.1.edges.length : Int))) k (List.replicate (Int.toNat (IntKind.i64.wrap ((y8.2.1.nodes.length : Int) + (y8.2.1.edges.length : Int)))) (0 : Int)) (0 : Int)).bind fun o16 =>
  aG o16
  (fun y17 => some ((([] : List Int), ([] : List Int), ([] : List Int), ()), false, ()))
  (fun z18 => some ((z18.1.1, z18.1.2.1, z18.1.2.2.1, ()), z18.2.1, ()))) none)
  (fun z9 => some ((z9.1.1, z9.1.2.1, z9.1.2.2.1, ()), z9.2.1, ()))
def cx (k : Nat) (a0 : ad) (a1 : List aH) : Option (((List Int) × ((List Int) × ((List Int) × Unit))) × (Int × Unit)) :=
  (scarfjointref40_Given k a0 a1).bind fun r1 =>
  cond (r1.1 != (0 : Int))
  (some ((([] : List Int), ([] : List Int), ([] : List Int), ()), r1.1, ()))
  ((scarfjointref40_least k a0 a1).bind fun r2 =>
  cond (!r2.2.1)
  (some ((([] : List Int), ([] : List Int), ([] : List Int), ()), (10 : Int), ()))
  (some ((r2.1.1, r2.1.2.1, r2.1.2.2.1, ()), (0 : Int), ())))
def bd (k : Nat) (a0 : bM) (a1 : bM) : Option (Bool × Unit) :=
  ((scarfjointref05_SameInts k a0.rules a1.rules).bind fun r1 =>
  cond r1.1 ((scarfjointref05_SameInts k a0.nodes a1.nodes).bind fun r2 =>
  cond r2.1 ((scarfjointref05_SameInts k a0.edges a1.edges).bind fun r3 =>
  some (r3.1, ())) (some (false, ()))) (some (false, ()))).bind fun b4 =>
  some (b4.1, ())
def cN (a0 : Int) : Option Bool :=
  (cond (decide (a0 < (0 : Int))) (some (true, ())) (some ((decide (a0 > (100 : Int))), ()))).bind fun b1 =>
  some b1.1
def cz (a0 : List Int) (a1 : Int) : Option (Bool × Unit) :=
  (cond ((a0.length : Int) == a1) ((af a0 (fun z1 => cN z1.1)).bind fun r2 =>
  some ((!r2.1), ())) (some (false, ()))).bind fun b3 =>
  some (b3.1, ())
def dq (a0 : Int) : Option ((List Int) × Unit) :=
  cond (decide (a0 < (0 : Int)))
  (none)
  (cond (decide ((IntKind.i64.wrap (a0 - (IntKind.i64.wrap ((0 : Int) - (0 : Int))))) > (0 : Int)))
  (cond (((0 : Int) == 0) && ((0 : Int) == 0)) (cond (decide (0 < IntKind.i64.wrap (a0 - (IntKind.i64.wrap ((0 : Int) - (0 : Int))))) && cE (Int.toNat (IntKind.i64.wrap (a0 - (IntKind.i64.wrap ((0 : Int) - (0 : Int))))))) (cond (decide (0 ≤ (0 : Int)) && decide ((0 : Int) ≤ (0 : Int)) && decide ((0 : Int) ≤ ((List.replicate (Int.toNat (IntKind.i64.wrap (a0 - (IntKind.i64.wrap ((0 : Int) - (0 : Int)))))) (0 : Int)).length : Int))) (cond (decide (0 ≤ 0) && decide (0 ≤ (List.replicate (Int.toNat (IntKind.i64.wrap (a0 - (IntKind.i64.wrap ((0 : Int) - (0 : Int)))))) (0 : Int)).length)) (some (slc (List.replicate (Int.toNat (IntKind.i64.wrap (a0 - (IntKind.i64.wrap ((0 : Int) - (0 : Int)))))) (0 : Int)) 0 0, ())) none) none) none) none)
  (some (([] : List Int), ())))
def slices_Concat_lint.l0 (q0 : List (List Int)) (q2 : List (List Int)) (q3 : Int) : Nat → Int → Int → Option ((List (List Int)) × (Int × Unit))
 | 0, _, _ => none
 | n + 1, q1, q4 =>
  cond (decide (q4 < q3))
  ((ay q2 q4).bind fun x2 =>
  cond (decide ((IntKind.i64.wrap (q1 + (x2.length : Int))) < (0 : Int)))
  (none)
  (slices_Concat_lint.l0 q0 q2 q3 n (IntKind.i64.wrap (q1 + (x2.length : Int))) (IntKind.i64.wrap (q4 + (1 : Int)))))
  (some (q0, q1, ()))
def slices_Concat_lint.l2 (q1 : List (List Int)) (q2 : Int) : Nat → (List Int) → Int → Option ((List Int) × Unit)
 | 0, _, _ => none
 | n + 1, q0, q3 =>
  cond (decide (q3 < q2))
  ((ay q1 q3).bind fun x6 =>
  cond (cE ((q0).length + (x6).length)) (slices_Concat_lint.l2 q1 q2 n (q0 ++ x6) (IntKind.i64.wrap (q3 + (1 : Int)))) none)
  (some (q0, ()))
def slices_Concat_lint (a0 : List (List Int)) : Option ((List Int) × Unit) :=
  (slices_Concat_lint.l0 a0 a0 (a0.length : Int) (Int.toNat (a0.length : Int) + 1) (0 : Int) (0 : Int)).bind fun o3 =>
  (dq o3.2.1).bind fun r4 =>
  (slices_Concat_lint.l2 o3.1 (o3.1.length : Int) (Int.toNat (o3.1.length : Int) + 1) r4.1 (0 : Int)).bind fun o7 =>
  some (o7.1, ())
def dv (a0 : Int) (a1 : List Int) (a2 : bM) (a3 : Int) : Option Bool :=
  (ay a1 a0).bind fun x1 =>
  (ay a2.rules a3).bind fun x2 =>
  some (decide (x1 > x2))
def dn (a0 : Int) (a1 : List Int) (a2 : bM) (a3 : Int) : Option Bool :=
  (ay a1 a0).bind fun x1 =>
  (ay a2.rules a3).bind fun x2 =>
  some (decide (x1 ≤ x2))
def layering_Check.l0 (q0 : bM) (q1 : List Int) (q2 : List a8) (q3 : Int) : Nat → Int → Option (Sum Unit (Bool × Unit))
 | 0, _ => none
 | n + 1, q4 =>
  cond (decide (q4 < q3))
  (cond (decide (0 ≤ q4) && decide (q4 < ((q2).length : Int))) ((nth q2 (Int.toNat q4)).bind fun x13 =>
  cond ((x13.deletes.length : Int) == (0 : Int))
  (some (Sum.inr (false, ())))
  (((af x13.deletes (fun z14 => dv z14.1 q1 q0 q4)).bind fun r15 =>
  cond r15.1 (some (true, ())) ((af x13.creates (fun z16 => dn z16.1 q1 q0 q4)).bind fun r17 =>
  some (r17.1, ()))).bind fun b18 =>
  cond b18.1
  (some (Sum.inr (false, ())))
  (layering_Check.l0 q0 q1 q2 q3 n (IntKind.i64.wrap (q4 + (1 : Int)))))) none)
  (some (Sum.inl (())))
def layering_Check (k : Nat) (a0 : ad) (a1 : List aH) (a2 : bM) : Option (Bool × Unit) :=
  (layering_given k a0 a1).bind fun r1 =>
  (cond (r1.2.1 != (0 : Int)) (some (true, ())) ((cz a2.rules (a1.length : Int)).bind fun r2 =>
  cond (!r2.1) (some (true, ())) ((cz a2.nodes (a0.nodes.length : Int)).bind fun r3 =>
  cond (!r3.1) (some (true, ())) ((cz a2.edges (a0.edges.length : Int)).bind fun r4 =>
  some ((!r4.1), ()))))).bind fun b5 =>
  cond b5.1
  (some (false, ()))
  ((slices_Concat_lint [a2.nodes, a2.edges]).bind fun r6 =>
  (layering_Check.l0 a2 r6.1 r1.1 ((r1.1).length : Int) (Int.toNat ((r1.1).length : Int) + 1) (0 : Int)).bind fun o19 =>
  aG o19
  (fun y20 => some (true, ()))
  (fun z21 => some (z21.1, ())))
def aK (k : Nat) (a0 : ad) (a1 : List aH) : Option (Bool × Unit) :=
  ((bI k).bind fun r1 =>
  cond (!r1.1) (some (true, ())) ((scarfjointref40_Few k a0 a1).bind fun r2 =>
  some ((!r2.1), ()))).bind fun b3 =>
  cond b3.1
  ((bI k).bind fun r4 =>
  some (r4.1, ()))
  ((iM a1).bind fun r5 =>
  (cQ k a0 r5.1).bind fun r6 =>
  (cx k a0 a1).bind fun r7 =>
  (cond (r6.2.1 == r7.2.1) ((bd k (⟨r6.1.1, r6.1.2.1, r6.1.2.2.1⟩ : bM) (⟨r7.1.1, r7.1.2.1, r7.1.2.2.1⟩ : bM)).bind fun r8 =>
  cond r8.1 (cond (r6.2.1 != (0 : Int)) (some (true, ())) ((layering_Check k a0 a1 (⟨r6.1.1, r6.1.2.1, r6.1.2.2.1⟩ : bM)).bind fun r9 =>
  some (r9.1, ()))) (some (false, ()))) (some (false, ()))).bind fun b10 =>
  some (b10.1, ()))
def scarfjointref40_in.l0 (q0 : List Int) : Nat → Int → Option (Sum Unit (Bool × Unit))
 | 0, _ => none
 | n + 1, q1 =>
  cond (decide (q1 < (q0.length : Int)))
  (((ay q0 q1).bind fun x4 =>
  cond (decide (x4 < (0 : Int))) (some (true, ())) ((ay q0 q1).bind fun x5 =>
  some ((decide (x5 > (100 : Int))), ()))).bind fun b6 =>
  cond b6.1
  (some (Sum.inr (false, ())))
  (scarfjointref40_in.l0 q0 n (IntKind.i64.wrap (q1 + (1 : Int)))))
  (some (Sum.inl (())))
def scarfjointref40_in (k : Nat) (a0 : List Int) : Option (Bool × Unit) :=
  (scarfjointref40_in.l0 a0 k (0 : Int)).bind fun o7 =>
  aG o7
  (fun y8 => some (true, ()))
  (fun z9 => some (z9.1, ()))
def dE (a0 : ad) (a1 : bM) (a2 : Int) : Option (Int × Unit) :=
  cond (decide (a2 < (a0.nodes.length : Int)))
  ((ay a1.nodes a2).bind fun x1 =>
  some (x1, ()))
  ((ay a1.edges (IntKind.i64.wrap (a2 - (a0.nodes.length : Int)))).bind fun x2 =>
  some (x2, ()))
def scarfjointref40_Check.l2 (q0 : List aH) (q1 : ad) (q2 : bM) (q3 : Int) (q4 : List Int) (q5 : List Int) : Nat → Int → Option (Sum ((List aH) × (ad × (bM × (Int × ((List Int) × Unit))))) (Bool × Unit))
 | 0, _ => none
 | n + 1, q6 =>
  cond (decide (q6 < ((q4).length : Int)))
  (cond (decide (0 ≤ q6) && decide (q6 < ((q4).length : Int))) ((nth q4 (Int.toNat q6)).bind fun x13 =>
  (dE q1 q2 x13).bind fun r14 =>
  (ay q2.rules q3).bind fun x15 =>
  cond (decide (r14.1 > x15))
  (some (Sum.inr (false, ())))
  (scarfjointref40_Check.l2 q0 q1 q2 q3 q4 q5 n (IntKind.i64.wrap (q6 + (1 : Int))))) none)
  (some (Sum.inl (q0, q1, q2, q3, q5, ())))
def scarfjointref40_Check.l4 (q0 : List aH) (q1 : ad) (q2 : bM) (q3 : Int) (q4 : List Int) : Nat → Int → Option (Sum ((List aH) × (ad × (bM × (Int × Unit)))) (Bool × Unit))
 | 0, _ => none
 | n + 1, q5 =>
  cond (decide (q5 < ((q4).length : Int)))
  (cond (decide (0 ≤ q5) && decide (q5 < ((q4).length : Int))) ((nth q4 (Int.toNat q5)).bind fun x22 =>
  (dE q1 q2 x22).bind fun r23 =>
  (ay q2.rules q3).bind fun x24 =>
  cond (decide (r23.1 ≤ x24))
  (some (Sum.inr (false, ())))
  (scarfjointref40_Check.l4 q0 q1 q2 q3 q4 n (IntKind.i64.wrap (q5 + (1 : Int))))) none)
  (some (Sum.inl (q0, q1, q2, q3, ())))
def scarfjointref40_Check.l0 (k : Nat)  : Nat → (List aH) → ad → bM → Int → Option (Sum Unit (Bool × Unit))
 | 0, _, _, _, _ => none
 | n + 1, q0, q1, q2, q3 =>
  cond (decide (q3 < (q0.length : Int)))
  ((ay q0 q3).bind fun x38 =>
  (aI k q1 x38).bind fun r39 =>
  (ay q0 q3).bind fun x40 =>
  (bp k q1 x40).bind fun r41 =>
  cond (((r39.1).length : Int) == (0 : Int))
  (some (Sum.inr (false, ())))
  ((scarfjointref40_Check.l2 q0 q1 q2 q3 r39.1 r41.1 k (0 : Int)).bind fun o42 =>
  aG o42
  (fun y43 => (scarfjointref40_Check.l4 y43.1 y43.2.1 y43.2.2.1 y43.2.2.2.1 y43.2.2.2.2.1 k (0 : Int)).bind fun o45 =>
  aG o45
  (fun y46 => scarfjointref40_Check.l0 k n y46.1 y46.2.1 y46.2.2.1 (IntKind.i64.wrap (y46.2.2.2.1 + (1 : Int))))
  (fun z47 => some (Sum.inr (z47.1, ()))))
  (fun z44 => some (Sum.inr (z44.1, ())))))
  (some (Sum.inl (())))
def scarfjointref40_Check (k : Nat) (a0 : ad) (a1 : List aH) (a2 : bM) : Option (Bool × Unit) :=
  ((scarfjointref40_Given k a0 a1).bind fun r1 =>
  cond (r1.1 != (0 : Int)) (some (true, ())) (cond ((a2.rules.length : Int) != (a1.length : Int)) (some (true, ())) (cond ((a2.nodes.length : Int) != (a0.nodes.length : Int)) (some (true, ())) (cond ((a2.edges.length : Int) != (a0.edges.length : Int)) (some (true, ())) ((scarfjointref40_in k a2.rules).bind fun r2 =>
  cond (!r2.1) (some (true, ())) ((scarfjointref40_in k a2.nodes).bind fun r3 =>
  cond (!r3.1) (some (true, ())) ((scarfjointref40_in k a2.edges).bind fun r4 =>
  some ((!r4.1), ())))))))).bind fun b5 =>
  cond b5.1
  (some (false, ()))
  ((scarfjointref40_Check.l0 k k a1 a0 a2 (0 : Int)).bind fun o48 =>
  aG o48
  (fun y49 => some (true, ()))
  (fun z50 => some (z50.1, ())))
end Go.Ev
end
