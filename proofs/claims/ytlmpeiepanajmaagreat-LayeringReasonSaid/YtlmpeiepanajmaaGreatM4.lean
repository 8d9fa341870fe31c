import Derived.Shelf.Small.Strs
import Derived.Shelf.Sort.Plain
import Derived.Shelf.Slices.In.SortNone
import Derived.Test.YtlmpeiepanajmaaGreatProg
import Derived.Test.YtlmpeiepanajmaaGreatM3
set_option linter.all false
section
namespace Go.Ev
def jj : Code → Nat → List (Nat × Code)
 | .seq a b, i => jj a i ++ jj b i
 | .cond _ a b, i => jj a i ++ jj b i
 | .block id c, _ => jj c id
 | .loop c, i => (i, c) :: jj c i
 | _, _ => []
def AR : List (Nat × Code) → Bool
 | [] => true
 | (b, _) :: r => r.all (fun q => !(Nat.beq b q.1)) && AR r
def iq (b : Nat) : List (Nat × Code) → Option Code
 | [] => none
 | (i, c) :: r => cond (Nat.beq i b) (some c) (iq b r)
theorem lK (b : Nat) : ∀ l m : List (Nat × Code), iq b (l ++ m) = match iq b l with | some c => some c | none => iq b m
 | [], m => rfl
 | (i, c) :: r, m => by
  rw [List.cons_append, iq, iq]
  cases Nat.beq i b with
  | true => rfl
  | false => exact lK b r m
theorem kd (b : Nat) : ∀ (c : Code) (i : Nat), i5 b c i = iq b (jj c i) := by
 intro c
 induction c with
 | seq x y ih1 ih2 => intro i; rw [i5, jj, lK, ih1, ih2]; cases iq b (jj x i) <;> rfl
 | cond c x y ih1 ih2 => intro i; rw [i5, jj, lK, ih1, ih2]; cases iq b (jj x i) <;> rfl
 | block id c ih => intro i; rw [i5, jj, ih]
 | loop c ih => intro i; rw [i5, jj, iq, ih]
 | _ => intro i; rfl
theorem oD {b : Nat} {c : Code} : ∀ {l : List (Nat × Code)}, iq b l = some c → (b, c) ∈ l
 | [], h => by cases h
 | (i, d) :: r, h => by
  rw [iq] at h
  cases hb : Nat.beq i b with
  | true => rw [hb] at h; cases h; rw [Nat.eq_of_beq_eq_true hb]; simp
  | false => rw [hb] at h; exact List.mem_cons_of_mem _ (oD h)
theorem lQ {b : Nat} {c : Code} : ∀ {l : List (Nat × Code)}, AR l = true → (b, c) ∈ l → iq b l = some c
 | [], _, h => by simp at h
 | (i, d) :: r, hn, h => by
  simp only [AR, Bool.and_eq_true] at hn
  rw [iq]
  rcases List.mem_cons.1 h with e | h
  ·cases e; rw [show Nat.beq b b = true by simp]; rfl
  ·have := List.all_eq_true.1 hn.1 _ h
   cases hb : Nat.beq i b with
   | true => rw [hb] at this; cases this
   | false => exact lQ hn.2 h
theorem nQ : ∀ (c : Code) (i : Nat), ∀ q ∈ gu c i, q ∈ jj c i := by
 intro c
 induction c with
 | seq x y ih1 ih2 => intro i q h; exact (List.mem_append.1 h).elim (fun h => List.mem_append_left _ (ih1 i q h)) fun h => List.mem_append_right _ (ih2 i q h)
 | cond c x y ih1 ih2 => intro i q h; exact (List.mem_append.1 h).elim (fun h => List.mem_append_left _ (ih1 i q h)) fun h => List.mem_append_right _ (ih2 i q h)
 | block id c ih => intro i q h; exact ih id q h
 | loop c ih => intro i q h; simp only [gu, List.mem_singleton] at h; subst h; simp [jj]
 | _ => intro i q h; cases h
theorem yP : ∀ (c : Code) (i b : Nat) (d : Code), (b, d) ∈ jj c i → ∀ q ∈ jj d b, q ∈ jj c i := by
 intro c
 induction c with
 | seq x y ih1 ih2 => intro i b d h q hq; exact (List.mem_append.1 h).elim (fun h => List.mem_append_left _ (ih1 i b d h q hq)) fun h => List.mem_append_right _ (ih2 i b d h q hq)
 | cond c x y ih1 ih2 => intro i b d h q hq; exact (List.mem_append.1 h).elim (fun h => List.mem_append_left _ (ih1 i b d h q hq)) fun h => List.mem_append_right _ (ih2 i b d h q hq)
 | block id c ih => intro i b d h q hq; exact ih id b d h q hq
 | loop c ih =>
  intro i b d h q hq
  rcases List.mem_cons.1 h with e | h
  ·cases e; exact List.mem_cons_of_mem _ hq
  ·exact List.mem_cons_of_mem _ (ih i b d h q hq)
 | _ => intro i b d h; cases h
def Aq (f : Func) : Bool := AR (jj (eF f) 0)
section
variable {P : Program} {E : dD} {F : List (Nat × cw E.C)}
structure Cs (P : Program) (E : dD) (F : List (Nat × cw E.C)) : Prop where
 t : eP P E
 m : P.follows .mixedOrders = true
 f : jq P E F
 c : dp P F
theorem cf {f : Nat} {sp : lr E.C} (h : fS P E f sp) (k : Cs P E F) : Cs P E ((f, .f sp) :: F) := ⟨k.t, k.m, xL h k.f, xV k.c⟩
theorem cc {f : Nat} {sp : mc E.C} (h : nJ P E f sp) (k : Cs P E F) : Cs P E ((f, .c sp) :: F) := ⟨k.t, k.m, xK k.f, xM h k.c⟩
structure rr (P : Program) (E : dD) (f : Func) (pins : List Nat) (Ls : List (Nat × s6 E)) : Prop where
 i : Aq f = true
 h : ∀ b p, s7 b Ls = some p → gq pins p.head.at_ p.head.sh = true ∧ lb P E pins f.ntmps (ka f b) p
variable {f : Func} {pins : List Nat} {Ls : List (Nat × s6 E)}
theorem rr.top (l : rr P E f pins Ls) (js : List (Nat × List (Nat × Ty))) : dX P E ⟨Ls, js, pins⟩ f.ntmps (eF f) 0 := by
 refine iE fun b c hm p hp => ?_
 have h1 := lQ l.i (nQ _ _ _ hm)
 have := l.h b p hp
 rwa [ka, kd, h1] at this
theorem rr.at (l : rr P E f pins Ls) (js : List (Nat × List (Nat × Ty))) (b : Nat) : dX P E ⟨Ls, js, pins⟩ f.ntmps (ka f b) b := by
 rw [ka, kd]
 cases h0 : iq b (jj (eF f) 0) with
 | none => trivial
 | some d =>
  refine iE fun b' c hm p hp => ?_
  have h1 := lQ l.i (yP _ _ _ _ (oD h0) _ (nQ _ _ _ hm))
  have := l.h b' p hp
  rwa [ka, kd, h1] at this
theorem ln (c : Cs P E F) (f : Func) (pins : List Nat) (h : Aq f = true) : rr P E f pins [] := ⟨h, fun b p h => by cases h⟩
theorem lc (c : Cs P E F) (l : rr P E f pins Ls) (js : List (Nat × List (Nat × Ty))) (b : Nat) (hd : qw) (ws : List (sV × qw)) (call : Nat → ap E.C hd.ty → Option (ap E.C (kJ ws))) (fuel : ap E.C hd.ty → Nat)
  (h0 : ∀ x, none = call 0 x) (hs : ∀ n x, l5 E F ⟨Ls, js, pins⟩ f.ntmps (ka f b) b hd ws (call n) some x = call (n + 1) x) (h1 : (gq pins hd.at_ hd.sh && lR pins ws) = true) :
  rr P E f pins ((b, ⟨hd, ws, fun x => call (fuel x) x⟩) :: Ls) := by
 rw [Bool.and_eq_true] at h1
 refine ⟨l.i, fun b' p hp => ?_⟩
 rw [s7] at hp
 cases hb : Nat.beq b' b with
 | false => rw [hb] at hp; exact l.h b' p hp
 | true =>
  rw [hb] at hp
  cases hp
  obtain rfl := Nat.eq_of_beq_eq_true hb
  refine ⟨h1.1, qL c.t c.c c.f c.m (A := ⟨Ls, js, pins⟩) (b := b') fuel (fun x => ?_) (l.at js b') h1.1 h1.2⟩
  have key : ∀ n, rZ (fun next x => l5 E F ⟨Ls, js, pins⟩ f.ntmps (ka f b') b' hd ws next some x) n = call n := by
   intro n
   induction n with
   | zero => exact funext fun x => h0 x
   | succ n ih => exact funext fun x => (congrArg (fun g => l5 E F ⟨Ls, js, pins⟩ f.ntmps (ka f b') b' hd ws g some x) ih).trans (hs n x)
  exact (congrFun (key (fuel x)) x).symm
def fB (f : Func) (pins : List Nat) (ins outs : List Sh) : Bool := f.body.isSome && (!(f.name == "runtime.NumGoroutine") && si pins f.ntmps ins outs)
theorem pM {f : Func} (h : f.body.isSome = true) : f.body = some (eF f) := by
 unfold eF
 cases hb : f.body with
 | none => rw [hb] at h; cases h
 | some c => rfl
theorem fo (c : Cs P E F) (l : rr P E f pins Ls) (js : List (Nat × List (Nat × Ty))) {i : FuncId} (hf : P.funcs[i]? = some f) {ins outs : List Sh} {fn : ap E.C (bh ins) → Option (ap E.C (bh outs))}
  (h : fB f pins ins outs = true) (he : ∀ x, zR E F ⟨Ls, js, pins⟩ f ins outs x = fn x) : fS P E i ⟨ins, outs, fn⟩ := by
 simp only [fB, Bool.and_eq_true, Bool.not_eq_true'] at h
 exact qA c.t c.c c.f c.m (A := ⟨Ls, js, pins⟩) hf (pM h.1) h.2.1 h.2.2 (l.top js) he
theorem f0 (c : Cs P E F) (pins : List Nat) (js : List (Nat × List (Nat × Ty))) {i : FuncId} (hf : P.funcs[i]? = some f) {ins outs : List Sh} {fn : ap E.C (bh ins) → Option (ap E.C (bh outs))}
  (h : fB f pins ins outs = true) (he : ∀ x, zR E F ⟨[], js, pins⟩ f ins outs x = fn x) : fS P E i ⟨ins, outs, fn⟩ := by
 simp only [fB, Bool.and_eq_true, Bool.not_eq_true'] at h
 exact qA c.t c.c c.f c.m (A := ⟨[], js, pins⟩) hf (pM h.1) h.2.1 h.2.2 (iE fun b c _ p hp => by cases hp) he
def cB (f : Func) (caps d c : Ty) : Bool := f.body.isSome && (!(f.name == "runtime.NumGoroutine") && (Nat.ble (bd d ++ bd caps).length f.ntmps && (gv caps && (gv d && gv c))))
theorem c0 (c : Cs P E F) (js : List (Nat × List (Nat × Ty))) {i : FuncId} (hf : P.funcs[i]? = some f) {caps d cc : Ty} {fn : ap E.C caps → ap E.C d → Option (ap E.C cc)}
  (h : cB f caps d cc = true) (he : ∀ x y, yQ E F ⟨[], js, []⟩ f (bd d ++ bd caps) cc (nD E caps y d x) = fn y x) : nJ P E i ⟨caps, d, cc, fn⟩ := by
 simp only [cB, Bool.and_eq_true, Bool.not_eq_true'] at h
 exact xn c.t c.c c.f c.m (A := ⟨[], js, []⟩) hf (pM h.1) h.2.1 h.2.2.1 (iE fun b c _ p hp => by cases hp) h.2.2.2.1 h.2.2.2.2.1 h.2.2.2.2.2 he
end
abbrev HI : Sh := .hole (.int .i64)
abbrev HB : Sh := .hole .bool
abbrev HS : Sh := .hole .str
abbrev HN (n : Nat) : Sh := .hole (.nm n)
abbrev HL (t : Ty) : Sh := .hole (.slice t)
abbrev RI : Sh := .rowh (.int .i64)
abbrev RN (n : Nat) : Sh := .rowh (.nm n)
end Go.Ev
end
section
namespace Go.Ev
structure bQ where
 name : ByteArray
 low : Int
 high : Int
 names : List ByteArray
structure aZ where
 name : ByteArray
 parent : Int
 abstract : Bool
 attrs : List bQ
structure bk where
 name : ByteArray
 frm : Int
 to : Int
 outLow : Int
 outHigh : Int
 inLow : Int
 inHigh : Int
structure ad where
 nodes : List aZ
 edges : List bk
structure Edge where
 typ : Int
 frm : Int
 to : Int
structure ag where
 nodes : List Int
 edges : List Edge
structure nt where
 var : Int
 add : Int
structure dR where
 node : Int
 attr : Int
 term : nt
structure dA where
 kind : Int
 left : nt
 right : nt
structure ai where
 graph : ag
 slots : List dR
 vars : Int
 tests : List dA
structure dT where
 nodes : List Int
 edges : List Int
structure aO where
 nodes : List Int
 edges : List Int
structure af where
 kind : Int
 kids : List af
 map : aO
 pattern : ai
structure aC where
 name : ByteArray
 left : ai
 right : ai
 keep : dT
 into : aO
 injective : Bool
 condition : af
structure ae where
 rule : Int
 frm : Int
 to : Int
 strict : Int
structure jR where
 rules : List Int
 nodes : List Int
 edges : List Int
structure iI where
 nodes : List (List Int)
 edges : List (List Int)
structure iK where
 nodes : List Int
 edges : List (List Int)
structure gF where
 graph : iK
 slots : List (List Int)
 tests : List (List Int)
structure cZ where
 left : gF
 keep : Int
 nodes : List Int
 edges : List (List Int)
 slots : List (List Int)
 plain : Bool
 injective : Bool
 forbid : List Int
 order : List Int
structure gy where
 nodes : List (List Int)
 edges : List (List Int)
 rules : List cZ
 host : iI
structure yx where
 graph : ag
 values : List (List Int)
structure a8 where
 deletes : List Int
 creates : List Int
structure et where
 kind : Int
 text : ByteArray
 line : Int
def Ag : Nat → Type
 | 0 => bQ
 | 1 => aZ
 | 2 => bk
 | 3 => ad
 | 4 => Edge
 | 5 => ag
 | 6 => nt
 | 7 => dR
 | 8 => dA
 | 9 => ai
 | 10 => dT
 | 11 => aO
 | 12 => af
 | 13 => aC
 | 14 => ae
 | 15 => jR
 | 16 => iI
 | 17 => iK
 | 18 => gF
 | 19 => cZ
 | 20 => gy
 | 21 => yx
 | 22 => a8
 | 23 => et
 | _ + 24 => Unit
def sM : Nat → Ty
 | 0 => (.pair .str (.pair (.int .i64) (.pair (.int .i64) (.pair (.slice .str) .unit))))
 | 1 => (.pair .str (.pair (.int .i64) (.pair .bool (.pair (.slice (.nm 0)) .unit))))
 | 2 => (.pair .str (.pair (.int .i64) (.pair (.int .i64) (.pair (.int .i64) (.pair (.int .i64) (.pair (.int .i64) (.pair (.int .i64) .unit)))))))
 | 3 => (.pair (.slice (.nm 1)) (.pair (.slice (.nm 2)) .unit))
 | 4 => (.pair (.int .i64) (.pair (.int .i64) (.pair (.int .i64) .unit)))
 | 5 => (.pair (.slice (.int .i64)) (.pair (.slice (.nm 4)) .unit))
 | 6 => (.pair (.int .i64) (.pair (.int .i64) .unit))
 | 7 => (.pair (.int .i64) (.pair (.int .i64) (.pair (.nm 6) .unit)))
 | 8 => (.pair (.int .i64) (.pair (.nm 6) (.pair (.nm 6) .unit)))
 | 9 => (.pair (.nm 5) (.pair (.slice (.nm 7)) (.pair (.int .i64) (.pair (.slice (.nm 8)) .unit))))
 | 10 => (.pair (.slice (.int .i64)) (.pair (.slice (.int .i64)) .unit))
 | 11 => (.pair (.slice (.int .i64)) (.pair (.slice (.int .i64)) .unit))
 | 12 => (.pair (.int .i64) (.pair (.slice (.nm 12)) (.pair (.nm 11) (.pair (.nm 9) .unit))))
 | 13 => (.pair .str (.pair (.nm 9) (.pair (.nm 9) (.pair (.nm 10) (.pair (.nm 11) (.pair .bool (.pair (.nm 12) .unit)))))))
 | 14 => (.pair (.int .i64) (.pair (.int .i64) (.pair (.int .i64) (.pair (.int .i64) .unit))))
 | 15 => (.pair (.slice (.int .i64)) (.pair (.slice (.int .i64)) (.pair (.slice (.int .i64)) .unit)))
 | 16 => (.pair (.slice (.arr 2 (.int .u8))) (.pair (.slice (.arr 3 (.int .u8))) .unit))
 | 17 => (.pair (.slice (.int .u8)) (.pair (.slice (.arr 3 (.int .u8))) .unit))
 | 18 => (.pair (.nm 17) (.pair (.slice (.arr 3 (.int .u8))) (.pair (.slice (.arr 4 (.int .i8))) .unit)))
 | 19 => (.pair (.nm 18) (.pair (.int .u64) (.pair (.slice (.int .u8)) (.pair (.slice (.arr 3 (.int .u8))) (.pair (.slice (.arr 3 (.int .u8))) (.pair .bool (.pair .bool (.pair (.arr 4 (.int .u8)) (.pair (.slice (.int .u8)) .unit)))))))))
 | 20 => (.pair (.slice (.arr 2 (.int .u8))) (.pair (.slice (.arr 2 (.int .u8))) (.pair (.slice (.nm 19)) (.pair (.nm 16) .unit))))
 | 21 => (.pair (.nm 5) (.pair (.slice (.slice (.int .i64))) .unit))
 | 22 => (.pair (.slice (.int .i64)) (.pair (.slice (.int .i64)) .unit))
 | 23 => (.pair (.int .i64) (.pair .str (.pair (.int .i64) .unit)))
 | _ + 24 => .unit
def yt : (n : Nat) → Ag n → ap Ag (sM n)
 | 0, x => (bQ.name x, bQ.low x, bQ.high x, bQ.names x, ())
 | 1, x => (aZ.name x, aZ.parent x, aZ.abstract x, aZ.attrs x, ())
 | 2, x => (bk.name x, bk.frm x, bk.to x, bk.outLow x, bk.outHigh x, bk.inLow x, bk.inHigh x, ())
 | 3, x => (ad.nodes x, ad.edges x, ())
 | 4, x => (Edge.typ x, Edge.frm x, Edge.to x, ())
 | 5, x => (ag.nodes x, ag.edges x, ())
 | 6, x => (nt.var x, nt.add x, ())
 | 7, x => (dR.node x, dR.attr x, dR.term x, ())
 | 8, x => (dA.kind x, dA.left x, dA.right x, ())
 | 9, x => (ai.graph x, ai.slots x, ai.vars x, ai.tests x, ())
 | 10, x => (dT.nodes x, dT.edges x, ())
 | 11, x => (aO.nodes x, aO.edges x, ())
 | 12, x => (af.kind x, af.kids x, af.map x, af.pattern x, ())
 | 13, x => (aC.name x, aC.left x, aC.right x, aC.keep x, aC.into x, aC.injective x, aC.condition x, ())
 | 14, x => (ae.rule x, ae.frm x, ae.to x, ae.strict x, ())
 | 15, x => (jR.rules x, jR.nodes x, jR.edges x, ())
 | 16, x => (iI.nodes x, iI.edges x, ())
 | 17, x => (iK.nodes x, iK.edges x, ())
 | 18, x => (gF.graph x, gF.slots x, gF.tests x, ())
 | 19, x => (cZ.left x, cZ.keep x, cZ.nodes x, cZ.edges x, cZ.slots x, cZ.plain x, cZ.injective x, cZ.forbid x, cZ.order x, ())
 | 20, x => (gy.nodes x, gy.edges x, gy.rules x, gy.host x, ())
 | 21, x => (yx.graph x, yx.values x, ())
 | 22, x => (a8.deletes x, a8.creates x, ())
 | 23, x => (et.kind x, et.text x, et.line x, ())
 | _ + 24, _ => ()
def zo : (n : Nat) → ap Ag (sM n) → Ag n
 | 0, x => (⟨x.1, x.2.1, x.2.2.1, x.2.2.2.1⟩ : bQ)
 | 1, x => (⟨x.1, x.2.1, x.2.2.1, x.2.2.2.1⟩ : aZ)
 | 2, x => (⟨x.1, x.2.1, x.2.2.1, x.2.2.2.1, x.2.2.2.2.1, x.2.2.2.2.2.1, x.2.2.2.2.2.2.1⟩ : bk)
 | 3, x => (⟨x.1, x.2.1⟩ : ad)
 | 4, x => (⟨x.1, x.2.1, x.2.2.1⟩ : Edge)
 | 5, x => (⟨x.1, x.2.1⟩ : ag)
 | 6, x => (⟨x.1, x.2.1⟩ : nt)
 | 7, x => (⟨x.1, x.2.1, x.2.2.1⟩ : dR)
 | 8, x => (⟨x.1, x.2.1, x.2.2.1⟩ : dA)
 | 9, x => (⟨x.1, x.2.1, x.2.2.1, x.2.2.2.1⟩ : ai)
 | 10, x => (⟨x.1, x.2.1⟩ : dT)
 | 11, x => (⟨x.1, x.2.1⟩ : aO)
 | 12, x => (⟨x.1, x.2.1, x.2.2.1, x.2.2.2.1⟩ : af)
 | 13, x => (⟨x.1, x.2.1, x.2.2.1, x.2.2.2.1, x.2.2.2.2.1, x.2.2.2.2.2.1, x.2.2.2.2.2.2.1⟩ : aC)
 | 14, x => (⟨x.1, x.2.1, x.2.2.1, x.2.2.2.1⟩ : ae)
 | 15, x => (⟨x.1, x.2.1, x.2.2.1⟩ : jR)
 | 16, x => (⟨x.1, x.2.1⟩ : iI)
 | 17, x => (⟨x.1, x.2.1⟩ : iK)
 | 18, x => (⟨x.1, x.2.1, x.2.2.1⟩ : gF)
 | 19, x => (⟨x.1, x.2.1, x.2.2.1, x.2.2.2.1, x.2.2.2.2.1, x.2.2.2.2.2.1, x.2.2.2.2.2.2.1, x.2.2.2.2.2.2.2.1, x.2.2.2.2.2.2.2.2.1⟩ : cZ)
 | 20, x => (⟨x.1, x.2.1, x.2.2.1, x.2.2.2.1⟩ : gy)
 | 21, x => (⟨x.1, x.2.1⟩ : yx)
 | 22, x => (⟨x.1, x.2.1⟩ : a8)
 | 23, x => (⟨x.1, x.2.1, x.2.2.1⟩ : et)
 | _ + 24, _ => ()
def zP : Nat → Nat
 | 0 => 4
 | 1 => 4
 | 2 => 7
 | 3 => 2
 | 4 => 3
 | 5 => 2
 | 6 => 2
 | 7 => 4
 | 8 => 5
 | 9 => 5
 | 10 => 2
 | 11 => 2
 | 12 => 9
 | 13 => 25
 | 14 => 4
 | 15 => 3
 | 16 => 2
 | 17 => 2
 | 18 => 4
 | 19 => 15
 | 20 => 5
 | 21 => 3
 | 22 => 2
 | 23 => 3
 | _ + 24 => 0
def za (tid : List (Option Ty)) (eqs : Nat → Bool) : dD := ⟨Ag, sM, yt, zo, zP, tid, eqs⟩
end Go.Ev
end
section
namespace Go.Ev
theorem wK (tid : List (Option Ty)) (eqs : Nat → Bool) : iC (za tid eqs) where
 siz := fun n => match n with
  | 0 => rfl
  | 1 => rfl
  | 2 => rfl
  | 3 => rfl
  | 4 => rfl
  | 5 => rfl
  | 6 => rfl
  | 7 => rfl
  | 8 => rfl
  | 9 => rfl
  | 10 => rfl
  | 11 => rfl
  | 12 => rfl
  | 13 => rfl
  | 14 => rfl
  | 15 => rfl
  | 16 => rfl
  | 17 => rfl
  | 18 => rfl
  | 19 => rfl
  | 20 => rfl
  | 21 => rfl
  | 22 => rfl
  | 23 => rfl
  | _ + 24 => rfl
 new := fun n x => match n, x with
  | 0, _ => rfl
  | 1, _ => rfl
  | 2, _ => rfl
  | 3, _ => rfl
  | 4, _ => rfl
  | 5, _ => rfl
  | 6, _ => rfl
  | 7, _ => rfl
  | 8, _ => rfl
  | 9, _ => rfl
  | 10, _ => rfl
  | 11, _ => rfl
  | 12, _ => rfl
  | 13, _ => rfl
  | 14, _ => rfl
  | 15, _ => rfl
  | 16, _ => rfl
  | 17, _ => rfl
  | 18, _ => rfl
  | 19, _ => rfl
  | 20, _ => rfl
  | 21, _ => rfl
  | 22, _ => rfl
  | 23, _ => rfl
  | _ + 24, _ => rfl
 chn := fun n => match n with
  | 0 => rfl
  | 1 => rfl
  | 2 => rfl
  | 3 => rfl
  | 4 => rfl
  | 5 => rfl
  | 6 => rfl
  | 7 => rfl
  | 8 => rfl
  | 9 => rfl
  | 10 => rfl
  | 11 => rfl
  | 12 => rfl
  | 13 => rfl
  | 14 => rfl
  | 15 => rfl
  | 16 => rfl
  | 17 => rfl
  | 18 => rfl
  | 19 => rfl
  | 20 => rfl
  | 21 => rfl
  | 22 => rfl
  | 23 => rfl
  | _ + 24 => rfl
end Go.Ev
end
section
namespace Go.Ev
def env : dD := za [none, none,
 some (.int .i64),
 some (.int .i64),
 some .bool,
 some (.int .u8),
 some (.int .u8), none, none,
 some .str,
 some .str,
 some .str,
 some (.int .u64), none, none, none, none, none, none, none, none,
 some (.int .i32),
 some (.slice (.nm 1)),
 some (.slice (.nm 2)), none,
 some (.nm 3),
 some (.slice (.nm 13)), none, none,
 some (.slice (.nm 14)),
 some (.int .i64), none, none, none,
 some (.slice (.int .i64)),
 some (.slice (.nm 4)), none,
 some (.nm 5),
 some (.slice (.nm 7)),
 some (.slice (.nm 8)), none,
 some (.nm 9), none,
 some (.nm 10),
 some (.nm 11),
 some (.slice (.nm 12)), none,
 some (.nm 12), none,
 some (.nm 13), none, none,
 some (.nm 14), none,
 some (.nm 15), none, none, none, none, none, none, none,
 some (.slice (.arr 2 (.int .u8))),
 some (.slice (.nm 19)),
 some (.slice (.arr 3 (.int .u8))), none,
 some (.nm 16), none,
 some (.nm 20),
 some (.slice (.slice (.int .i64))), none,
 some (.nm 21), none, none, none, none, none, none, none, none,
 some (.slice (.nm 22)), none, none, none, none,
 some (.nm 22), none, none, none, none, none, none, none, none, none, none, none, none, none, none, none, none, none, none, none, none, none, none,
 some (.slice .str), none,
 some (.nm 0),
 some (.slice (.nm 0)), none,
 some (.nm 1), none,
 some (.nm 2), none,
 some (.nm 4), none, none, none, none, none, none, none, none, none, none, none, none, none, none, none, none, none, none, none, none, none, none,
 some (.arr 2 (.int .u8)), none,
 some (.slice (.int .u8)), none,
 some (.nm 17),
 some (.slice (.arr 4 (.int .i8))), none,
 some (.nm 18),
 some (.int .u64),
 some (.arr 4 (.int .u8)), none,
 some (.nm 19), none, none, none,
 some (.arr 3 (.int .u8)), none, none, none, none, none, none, none, none, none, none, none, none, none, none, none, none, none, none, none, none, none, none, none, none, none, none, none, none, none, none,
 some (.int .u64), none, none, none, none, none, none, none, none, none,
 some (.slice (.arr 2 (.int .i64))),
 some (.arr 2 (.int .i64)), none,
 some (.nm 6), none,
 some (.nm 7), none,
 some (.nm 8), none,
 some (.int .i8),
 some (.arr 4 (.int .i8)),
 some (.slice .bool), none, none, none, none, none, none, none, none, none, none, none,
 some (.nm 23), none, none, none, none, none, none,
 some (.int .u32), none, none, none, none, none, none, none, none, none, none, none, none, none, none, none, none, none, none, none, none, none, none, none, none, none, none, none, none, none,
 some (.int .i64), none, none, none, none, none, none, none, none, none, none, none, none, none, none, none, none, none, none, none, none, none, none, none, none, none, none, none, none, none,
 some (.int .u64), none, none, none,
 some (.ptr (.int .i64)), none, none, none, none, none, none, none, none, none, none,
 some (.ptr (.int .u64)), none, none, none, none, none, none, none, none, none,
 some (.int .u8),
 some (.int .u8), none,
 some (.ptr (.int .u8)),
 some (.int .i32),
 some (.int .i32), none, none, none] fun T => Nat.beq T 52
end Go.Ev
end
section
set_option linter.unusedVariables false
namespace Go.Proofs
open Go.Shelf
def Tryz.lays137_ren : Go.Shelf.Ren := ⟨fun | 137 => 226 | 217 => 264 | 266 => 278 | n => n, fun | 9 => 9 | 5 => 5 | 3 => 3 | n => n, fun | n => n⟩
theorem Tryz.lays137 : Go.Proofs.Lays.n137 Tryz.prog Tryz.lays137_ren where
 mixed := by kernel_rfl
 f137 := Tryz.func226.trans (congrArg some (by kernel_rfl))
 f217 := Tryz.func264.trans (congrArg some (by kernel_rfl))
 f266 := Tryz.func278.trans (congrArg some (by kernel_rfl))
 t3 := Tryz.underlying3
 a3 := Tryz.isAgg3
 z3 := Tryz.sizeOf3
 v3 := Tryz.zeroValue3
 t5 := Tryz.underlying5
 a5 := Tryz.isAgg5
 z5 := Tryz.sizeOf5
 v5 := Tryz.zeroValue5
 t9 := Tryz.underlying9
 a9 := Tryz.isAgg9
 z9 := Tryz.sizeOf9
 v9 := Tryz.zeroValue9
def Tryz.lays189_ren : Go.Shelf.Ren := ⟨fun | 189 => 120 | 125 => 156 | 257 => 155 | 128 => 209 | 129 => 210 | 294 => 200 | 295 => 201 | 296 => 202 | 297 => 203 | 298 => 204 | 299 => 205 | 216 => 206 | 300 => 207 | 301 => 208 | 328 => 249 | 329 => 250 | 330 => 251 | 331 => 252 | 332 => 253 | 215 => 254 | 343 => 276 | n => n, fun | 28 => 34 | 3 => 3 | 46 => 186 | 0 => 0 | 51 => 226 | 53 => 148 | 4 => 4 | 183 => 257 | 182 => 256 | 131 => 261 | 5 => 5 | 9 => 9 | 218 => 286 | 222 => 290 | 228 => 301 | 229 => 269 | n => n, fun | n => n⟩
theorem Tryz.lays189 : Go.Proofs.Lays.n189 Tryz.prog Tryz.lays189_ren where
 mixed := by kernel_rfl
 f125 := Tryz.func156.trans (congrArg some (by kernel_rfl))
 f128 := Tryz.func209.trans (congrArg some (by kernel_rfl))
 f129 := Tryz.func210.trans (congrArg some (by kernel_rfl))
 f189 := Tryz.func120.trans (congrArg some (by kernel_rfl))
 f215 := Tryz.func254.trans (congrArg some (by kernel_rfl))
 f216 := Tryz.func206.trans (congrArg some (by kernel_rfl))
 f257 := Tryz.func155.trans (congrArg some (by kernel_rfl))
 f294 := Tryz.func200.trans (congrArg some (by kernel_rfl))
 f295 := Tryz.func201.trans (congrArg some (by kernel_rfl))
 f296 := Tryz.func202.trans (congrArg some (by kernel_rfl))
 f297 := Tryz.func203.trans (congrArg some (by kernel_rfl))
 f298 := Tryz.func204.trans (congrArg some (by kernel_rfl))
 f299 := Tryz.func205.trans (congrArg some (by kernel_rfl))
 f300 := Tryz.func207.trans (congrArg some (by kernel_rfl))
 f301 := Tryz.func208.trans (congrArg some (by kernel_rfl))
 f328 := Tryz.func249.trans (congrArg some (by kernel_rfl))
 f329 := Tryz.func250.trans (congrArg some (by kernel_rfl))
 f330 := Tryz.func251.trans (congrArg some (by kernel_rfl))
 f331 := Tryz.func252.trans (congrArg some (by kernel_rfl))
 f332 := Tryz.func253.trans (congrArg some (by kernel_rfl))
 f343 := Tryz.func276.trans (congrArg some (by kernel_rfl))
 t0 := Tryz.underlying0
 a0 := Tryz.isAgg0
 z0 := Tryz.sizeOf0
 v0 := Tryz.zeroValue0
 t3 := Tryz.underlying3
 a3 := Tryz.isAgg3
 z3 := Tryz.sizeOf3
 v3 := Tryz.zeroValue3
 t4 := Tryz.underlying4
 a4 := Tryz.isAgg4
 z4 := Tryz.sizeOf4
 v4 := Tryz.zeroValue4
 t5 := Tryz.underlying5
 a5 := Tryz.isAgg5
 z5 := Tryz.sizeOf5
 v5 := Tryz.zeroValue5
 t9 := Tryz.underlying9
 a9 := Tryz.isAgg9
 z9 := Tryz.sizeOf9
 v9 := Tryz.zeroValue9
 t28 := Tryz.underlying34
 a28 := Tryz.isAgg34
 z28 := Tryz.sizeOf34
 v28 := Tryz.zeroValue34
 t46 := Tryz.underlying186
 a46 := Tryz.isAgg186
 z46 := Tryz.sizeOf186
 v46 := Tryz.zeroValue186
 t51 := Tryz.underlying226
 a51 := Tryz.isAgg226
 z51 := Tryz.sizeOf226
 v51 := Tryz.zeroValue226
 t53 := Tryz.underlying148
 a53 := Tryz.isAgg148
 z53 := Tryz.sizeOf148
 v53 := Tryz.zeroValue148
 t131 := Tryz.underlying261
 a131 := Tryz.isAgg261
 z131 := Tryz.sizeOf261
 v131 := Tryz.zeroValue261
 t182 := Tryz.underlying256
 a182 := Tryz.isAgg256
 z182 := Tryz.sizeOf256
 v182 := Tryz.zeroValue256
 t183 := Tryz.underlying257
 a183 := Tryz.isAgg257
 z183 := Tryz.sizeOf257
 v183 := Tryz.zeroValue257
 t218 := Tryz.underlying286
 a218 := Tryz.isAgg286
 z218 := Tryz.sizeOf286
 v218 := Tryz.zeroValue286
 t222 := Tryz.underlying290
 a222 := Tryz.isAgg290
 z222 := Tryz.sizeOf290
 v222 := Tryz.zeroValue290
 t228 := Tryz.underlying301
 a228 := Tryz.isAgg301
 z228 := Tryz.sizeOf301
 v228 := Tryz.zeroValue301
 t229 := Tryz.underlying269
 a229 := Tryz.isAgg269
 z229 := Tryz.sizeOf269
 v229 := Tryz.zeroValue269
end Go.Proofs
namespace Go.Ev
theorem AB : rd Go.Proofs.Tryz.prog env env.tid 0 = true := by kernel_rfl
theorem A3 : eP Go.Proofs.Tryz.prog env := eP.of (wK _ _) AB fun T h => by
 have e : T = 52 := Nat.eq_of_beq_eq_true h
 subst e
 exact ⟨by kernel_rfl, by kernel_rfl⟩
theorem mixed : Go.Proofs.Tryz.prog.follows .mixedOrders = true := by kernel_rfl
theorem cn : Cs Go.Proofs.Tryz.prog env [] := ⟨A3, mixed, kg, jn⟩
abbrev G (n : Nat) (s : lr env.C) : Prop := fS Go.Proofs.Tryz.prog env n s
abbrev GC (n : Nat) (s : mc env.C) : Prop := nJ Go.Proofs.Tryz.prog env n s
theorem lib11.good (k : Nat) : fS Go.Proofs.Tryz.prog env 11 ⟨[(HL (.nm 13))], [(RN 13)], fun x => iR x.1⟩ := jI A3 mixed (fun l => an (.pv (.slice _) l :: List.replicate 7 .undef) 2 .nils) Go.Proofs.Tryz.func11 rfl (by kernel_rfl) (by kernel_rfl) (by kernel_rfl) ⟨rfl, rfl, rfl⟩ ⟨rfl, rfl, rfl⟩ (fun _ => rfl) (fun l => by kernel_rfl) (dJ (L := []) (by kernel_rfl) trivial) (dJ (L := []) (by kernel_rfl) trivial) (fun l b => by cases b <;> kernel_rfl)
theorem lib16.good (k : Nat) : fS Go.Proofs.Tryz.prog env 16 ⟨[(HL (.nm 14))], [(RN 14)], fun x => iR x.1⟩ := jI A3 mixed (fun l => an (.pv (.slice _) l :: List.replicate 7 .undef) 2 .nils) Go.Proofs.Tryz.func16 rfl (by kernel_rfl) (by kernel_rfl) (by kernel_rfl) ⟨rfl, rfl, rfl⟩ ⟨rfl, rfl, rfl⟩ (fun _ => rfl) (fun l => by kernel_rfl) (dJ (L := []) (by kernel_rfl) trivial) (dJ (L := []) (by kernel_rfl) trivial) (fun l b => by cases b <;> kernel_rfl)
theorem lib21.good (k : Nat) : fS Go.Proofs.Tryz.prog env 21 ⟨[(HL (.int .i64))], [RI], fun x => iR x.1⟩ := jI A3 mixed (fun l => an (.pv (.slice _) l :: List.replicate 7 .undef) 2 .nils) Go.Proofs.Tryz.func21 rfl (by kernel_rfl) (by kernel_rfl) (by kernel_rfl) ⟨rfl, rfl, rfl⟩ ⟨rfl, rfl, rfl⟩ (fun _ => rfl) (fun l => by kernel_rfl) (dJ (L := []) (by kernel_rfl) trivial) (dJ (L := []) (by kernel_rfl) trivial) (fun l b => by cases b <;> kernel_rfl)
theorem lib120.good (k : Nat) : fS Go.Proofs.Tryz.prog env 120 ⟨[RI], [RI], fun x => slices_Sort_int x.1⟩ := vO (fun blk off cap zs w h1 h2 h3 => Go.Proofs.Any.slices_Sort_int Go.Proofs.Tryz.lays189 blk off cap zs w h1 h2 h3) (fun p cap w => Go.Proofs.Any.slices_Sort_int_none Go.Proofs.Tryz.lays189 p cap w) Go.Proofs.Tryz.func120 rfl (by kernel_rfl)
theorem lib226.good (k : Nat) : fS Go.Proofs.Tryz.prog env 226 ⟨[HS, (.hole (.int .u8))], [HI], fun x => indexByte x.1 x.2.1⟩ := n7 (fun s c w => Go.Proofs.Any.strings_IndexByte Go.Proofs.Tryz.lays137 s c w) Go.Proofs.Tryz.func226 rfl (by kernel_rfl)
theorem lib265.good (k : Nat) : fS Go.Proofs.Tryz.prog env 265 ⟨[(HL .str)], [(.rowh .str)], fun x => iR x.1⟩ := jI A3 mixed (fun l => an (.pv (.slice _) l :: List.replicate 7 .undef) 2 .nils) Go.Proofs.Tryz.func265 rfl (by kernel_rfl) (by kernel_rfl) (by kernel_rfl) ⟨rfl, rfl, rfl⟩ ⟨rfl, rfl, rfl⟩ (fun _ => rfl) (fun l => by kernel_rfl) (dJ (L := []) (by kernel_rfl) trivial) (dJ (L := []) (by kernel_rfl) trivial) (fun l b => by cases b <;> kernel_rfl)
end Go.Ev
end
section
set_option linter.unusedVariables false
namespace Go.Ev
def api_NodeType_118.l0 (q0 : List aZ) (q1 : (aZ × Unit) → Option Bool) (q2 : Int) : Nat → Int → Option (Sum Unit (Int × Unit))
 | 0, _ => none
 | n + 1, q3 =>
  cond (decide (q3 < q2))
  ((aB q0 q3).bind fun x3 =>
  (q1 (x3, ())).bind fun r4 =>
  cond r4
  (some (Sum.inr (q3, ())))
  (api_NodeType_118.l0 q0 q1 q2 n (IntKind.i64.wrap (q3 + (1 : Int)))))
  (some (Sum.inl (())))
def api_NodeType_118 (a0 : List aZ) (a1 : (aZ × Unit) → Option Bool) : Option (Int × Unit) :=
  (api_NodeType_118.l0 a0 a1 (a0.length : Int) (Int.toNat (a0.length : Int) + 1) (0 : Int)).bind fun o5 =>
  aJ o5
  (fun y6 => some ((-1 : Int), ()))
  (fun z7 => some (z7.1, ()))
def da (a0 : List aZ) (a1 : (aZ × Unit) → Option Bool) : Option (Bool × Unit) :=
  (api_NodeType_118 a0 a1).bind fun r1 =>
  some ((decide (r1.1 ≥ (0 : Int))), ())
def dP (a0 : Int) : Option (Bool × Unit) :=
  (cond (decide (a0 ≥ (97 : Int))) (cond (decide (a0 ≤ (122 : Int))) (some (true, ())) (cond (decide (a0 ≥ (65 : Int))) (some ((decide (a0 ≤ (90 : Int))), ())) (some (false, ())))) (cond (decide (a0 ≥ (65 : Int))) (some ((decide (a0 ≤ (90 : Int))), ())) (some (false, ())))).bind fun b1 =>
  some (b1.1, ())
def token_run.l0 (q0 : ByteArray) (q1 : (Int × Unit) → Option Bool) : Nat → Int → Option (Int × Unit)
 | 0, _ => none
 | n + 1, q2 =>
  (cond (decide (q2 < (q0.size : Int))) ((kv q0 q2).bind fun c4 =>
  (q1 (c4, ())).bind fun r5 =>
  some (r5, ())) (some (false, ()))).bind fun b6 =>
  cond b6.1
  (token_run.l0 q0 q1 n (IntKind.i64.wrap (q2 + (1 : Int))))
  (some (q2, ()))
def token_run (k : Nat) (a0 : ByteArray) (a1 : (Int × Unit) → Option Bool) : Option (Int × Unit) :=
  (token_run.l0 a0 a1 k (0 : Int)).bind fun o7 =>
  some (o7.1, ())
def cU (a0 : Int) : Option (Bool × Unit) :=
  (cond (decide (a0 ≥ (48 : Int))) (some ((decide (a0 ≤ (57 : Int))), ())) (some (false, ()))).bind fun b1 =>
  some (b1.1, ())
def ff (a0 : Int) : Option (Bool × Unit) :=
  ((dP a0).bind fun r1 =>
  cond r1.1 (some (true, ())) ((cU a0).bind fun r2 =>
  cond r2.1 (some (true, ())) (some ((a0 == (95 : Int)), ())))).bind fun b3 =>
  some (b3.1, ())
def eh (a0 : Int) : Option Bool :=
  (cond (decide (a0 ≥ (32 : Int))) (cond (decide (a0 ≤ (126 : Int))) (some ((a0 != (34 : Int)), ())) (some (false, ()))) (some (false, ()))).bind fun b1 =>
  some b1.1
def fk (k : Nat) (a0 : ByteArray) : Option (Int × (Int × Unit)) :=
  cond (decide (0 ≤ (1 : Int)) && decide ((1 : Int) ≤ (a0.size : Int)) && decide ((a0.size : Int) ≤ (a0.size : Int))) ((token_run k (a0.extract 1 (Int.toNat (a0.size : Int))) (fun z1 => eh z1.1)).bind fun r2 =>
  (cond ((IntKind.i64.wrap ((1 : Int) + r2.1)) == (a0.size : Int)) (some (true, ())) ((kv a0 (IntKind.i64.wrap ((1 : Int) + r2.1))).bind fun c3 =>
  some ((c3 != (34 : Int)), ()))).bind fun b4 =>
  cond b4.1
  (some ((0 : Int), (2 : Int), ()))
  (cond (decide (r2.1 > (60 : Int)))
  (some ((0 : Int), (3 : Int), ()))
  (some (IntKind.i64.wrap (r2.1 + (2 : Int)), (0 : Int), ())))) none
def slices_Index_lstring.l0 (q0 : List ByteArray) (q1 : ByteArray) (q2 : Int) : Nat → Int → Option (Sum Unit (Int × Unit))
 | 0, _ => none
 | n + 1, q3 =>
  cond (decide (q3 < q2))
  ((aB q0 q3).bind fun x2 =>
  cond (di q1 x2)
  (some (Sum.inr (q3, ())))
  (slices_Index_lstring.l0 q0 q1 q2 n (IntKind.i64.wrap (q3 + (1 : Int)))))
  (some (Sum.inl (())))
def slices_Index_lstring (a0 : List ByteArray) (a1 : ByteArray) : Option (Int × Unit) :=
  (slices_Index_lstring.l0 a0 a1 (a0.length : Int) (Int.toNat (a0.length : Int) + 1) (0 : Int)).bind fun o3 =>
  aJ o3
  (fun y4 => some ((-1 : Int), ()))
  (fun z5 => some (z5.1, ()))
def aU (a0 : List ByteArray) (a1 : ByteArray) : Option (Bool × Unit) :=
  (slices_Index_lstring a0 a1).bind fun r1 =>
  some ((decide (r1.1 ≥ (0 : Int))), ())
def gA (a0 : ByteArray) : Option (Bool × Unit) :=
  (cond (decide ((a0.size : Int) ≥ (2 : Int))) (cond (decide (0 ≤ (0 : Int)) && decide ((0 : Int) ≤ (2 : Int)) && decide ((2 : Int) ≤ (a0.size : Int))) ((aU ([(⟨#[45, 62]⟩ : ByteArray), (⟨#[60, 61]⟩ : ByteArray), (⟨#[62, 61]⟩ : ByteArray), (⟨#[61, 61]⟩ : ByteArray), (⟨#[33, 61]⟩ : ByteArray)]) (a0.extract 0 2)).bind fun r1 =>
  some (r1.1, ())) none) (some (false, ()))).bind fun b2 =>
  some (b2.1, ())
def eL (k : Nat) (a0 : ByteArray) : Option (Int × (Int × (Int × Unit))) :=
  (kv a0 (0 : Int)).bind fun c1 =>
  (dP c1).bind fun r2 =>
  cond r2.1
  ((token_run k a0 (fun z3 => (ff z3.1).map (·.1))).bind fun r4 =>
  cond (decide (r4.1 > (20 : Int)))
  (some ((0 : Int), (0 : Int), (3 : Int), ()))
  (some ((1 : Int), r4.1, (0 : Int), ())))
  ((cU c1).bind fun r5 =>
  cond r5.1
  ((token_run k a0 (fun z6 => (cU z6.1).map (·.1))).bind fun r7 =>
  cond (decide (r7.1 > (9 : Int)))
  (some ((0 : Int), (0 : Int), (3 : Int), ()))
  (some ((2 : Int), r7.1, (0 : Int), ())))
  (cond (c1 == (34 : Int))
  ((fk k a0).bind fun r8 =>
  some ((3 : Int), r8.1, r8.2.1, ()))
  ((gA a0).bind fun r9 =>
  cond r9.1
  (some ((4 : Int), (2 : Int), (0 : Int), ()))
  ((indexByte (⟨#[123, 125, 40, 41, 91, 93, 44, 59, 58, 61, 43, 45, 42, 60, 62, 33, 38, 124, 46, 63]⟩ : ByteArray) c1).bind fun r10 =>
  cond (decide (r10.1 ≥ (0 : Int)))
  (some ((4 : Int), (1 : Int), (0 : Int), ()))
  (some ((0 : Int), (0 : Int), (2 : Int), ()))))))
def gV (k : Nat) (a0 : et) : Option (ByteArray × (Bool × Unit)) :=
  cond (a0.kind == (3 : Int))
  (cond (bX ((⟨#[34]⟩ : ByteArray).size + a0.text.size)) (cond (bX (((⟨#[34]⟩ : ByteArray) ++ a0.text).size + (⟨#[34]⟩ : ByteArray).size)) (cond (di (((⟨#[34]⟩ : ByteArray) ++ a0.text) ++ (⟨#[34]⟩ : ByteArray)) (⟨#[]⟩ : ByteArray))
  (some ((⟨#[]⟩ : ByteArray), false, ()))
  ((eL k (((⟨#[34]⟩ : ByteArray) ++ a0.text) ++ (⟨#[34]⟩ : ByteArray))).bind fun r1 =>
  (cond (r1.2.2.1 == (0 : Int)) (cond (r1.1 == a0.kind) (some ((((⟨#[34]⟩ : ByteArray) ++ a0.text) ++ (⟨#[34]⟩ : ByteArray)), (r1.2.1 == ((((⟨#[34]⟩ : ByteArray) ++ a0.text) ++ (⟨#[34]⟩ : ByteArray)).size : Int)), ())) (some ((((⟨#[34]⟩ : ByteArray) ++ a0.text) ++ (⟨#[34]⟩ : ByteArray)), false, ()))) (some ((((⟨#[34]⟩ : ByteArray) ++ a0.text) ++ (⟨#[34]⟩ : ByteArray)), false, ()))).bind fun b2 =>
  some (b2.1, b2.2.1, ()))) none) none)
  (cond (di a0.text (⟨#[]⟩ : ByteArray))
  (some ((⟨#[]⟩ : ByteArray), false, ()))
  ((eL k a0.text).bind fun r3 =>
  (cond (r3.2.2.1 == (0 : Int)) (cond (r3.1 == a0.kind) (some (a0.text, (r3.2.1 == (a0.text.size : Int)), ())) (some (a0.text, false, ()))) (some (a0.text, false, ()))).bind fun b4 =>
  some (b4.1, b4.2.1, ())))
def bJ (k : Nat) (a0 : ByteArray) : Option (Bool × Unit) :=
  (gV k (⟨(1 : Int), a0, (0 : Int)⟩ : et)).bind fun r1 =>
  some (r1.2.1, ())
def cS : Nat → ad → Int → Option ((List bQ) × Unit)
 | 0, _, _ => none
 | k + 1, a0, a1 =>
  (aB a0.nodes a1).bind fun x1 =>
  cond (decide (x1.parent ≥ (0 : Int)))
  ((cS k a0 x1.parent).bind fun r2 =>
  (aB a0.nodes a1).bind fun x3 =>
  cond (bX ((r2.1).length + (x3.attrs).length)) (some ((r2.1 ++ x3.attrs), ())) none)
  ((aB a0.nodes a1).bind fun x4 =>
  cond (bX ((([] : List bQ)).length + (x4.attrs).length)) (some ((([] : List bQ) ++ x4.attrs), ())) none)
def api_Attr_179.l0 (q0 : List bQ) (q1 : (bQ × Unit) → Option Bool) (q2 : Int) : Nat → Int → Option (Sum Unit (Int × Unit))
 | 0, _ => none
 | n + 1, q3 =>
  cond (decide (q3 < q2))
  ((aB q0 q3).bind fun x3 =>
  (q1 (x3, ())).bind fun r4 =>
  cond r4
  (some (Sum.inr (q3, ())))
  (api_Attr_179.l0 q0 q1 q2 n (IntKind.i64.wrap (q3 + (1 : Int)))))
  (some (Sum.inl (())))
def api_Attr_179 (a0 : List bQ) (a1 : (bQ × Unit) → Option Bool) : Option (Int × Unit) :=
  (api_Attr_179.l0 a0 a1 (a0.length : Int) (Int.toNat (a0.length : Int) + 1) (0 : Int)).bind fun o5 =>
  aJ o5
  (fun y6 => some ((-1 : Int), ()))
  (fun z7 => some (z7.1, ()))
def fZ (a0 : List bQ) (a1 : (bQ × Unit) → Option Bool) : Option (Bool × Unit) :=
  (api_Attr_179 a0 a1).bind fun r1 =>
  some ((decide (r1.1 ≥ (0 : Int))), ())
def types_names.l0 (k : Nat) (q0 : List ByteArray) (q1 : List ByteArray) (q2 : Int) : Nat → Int → Option (Sum Unit (Int × Unit))
 | 0, _ => none
 | n + 1, q3 =>
  cond (decide (q3 < q2))
  ((aB q1 q3).bind fun x7 =>
  (bJ k x7).bind fun r8 =>
  cond (!r8.1)
  (some (Sum.inr ((2 : Int), ())))
  (cond (decide (0 ≤ (0 : Int)) && decide ((0 : Int) ≤ q3) && decide (q3 ≤ (q0.length : Int))) ((aU (slc q0 0 (Int.toNat q3)) x7).bind fun r9 =>
  cond r9.1
  (some (Sum.inr ((5 : Int), ())))
  (types_names.l0 k q0 q1 q2 n (IntKind.i64.wrap (q3 + (1 : Int))))) none))
  (some (Sum.inl (())))
def types_names (k : Nat) (a0 : List ByteArray) : Option (Int × Unit) :=
  cond (decide ((a0.length : Int) > (20 : Int)))
  (some ((3 : Int), ()))
  ((types_names.l0 k a0 a0 (a0.length : Int) (Int.toNat (a0.length : Int) + 1) (0 : Int)).bind fun o10 =>
  aJ o10
  (fun y11 => some ((0 : Int), ()))
  (fun z12 => some (z12.1, ())))
def dN (a0 : bQ) (a1 : bQ) : Option Bool :=
  some (di a0.name a1.name)
def dI (k : Nat) (a0 : bQ) (a1 : List bQ) : Option (Int × Unit) :=
  (bJ k a0.name).bind fun r1 =>
  cond (!r1.1)
  (some ((2 : Int), ()))
  ((fZ a1 (fun z2 => dN z2.1 a0)).bind fun r3 =>
  cond r3.1
  (some ((5 : Int), ()))
  ((types_names k a0.names).bind fun r4 =>
  cond (r4.1 != (0 : Int))
  (some (r4.1, ()))
  ((cond (decide ((-1000000 : Int) ≤ a0.low)) (cond (decide (a0.low ≤ a0.high)) (some ((decide (a0.high ≤ (1000000 : Int))), ())) (some (false, ()))) (some (false, ()))).bind fun b5 =>
  cond (decide ((a0.names.length : Int) > (0 : Int)))
  ((cond (a0.low == (0 : Int)) (some ((a0.high == (IntKind.i64.wrap ((a0.names.length : Int) - (1 : Int)))), ())) (some (false, ()))).bind fun b6 =>
  cond (!b6.1)
  (some ((6 : Int), ()))
  (some ((0 : Int), ())))
  (cond (!b5.1)
  (some ((6 : Int), ()))
  (some ((0 : Int), ()))))))
def g9 (a0 : aZ) (a1 : aZ) : Option Bool :=
  some (di a0.name a1.name)
def types_node.l1 (k : Nat) (q0 : List bQ) : Nat → Int → Option (Sum Unit (Int × Unit))
 | 0, _ => none
 | n + 1, q1 =>
  cond (decide (q1 < ((q0).length : Int)))
  (cond (decide (0 ≤ q1) && decide (q1 < ((q0).length : Int))) ((nth q0 (Int.toNat q1)).bind fun x11 =>
  cond (decide (0 ≤ (0 : Int)) && decide ((0 : Int) ≤ q1) && decide (q1 ≤ ((q0).length : Int))) (cond (decide (0 ≤ (Int.toNat q1)) && decide ((Int.toNat q1) ≤ (q0).length)) ((dI k x11 (slc q0 0 (Int.toNat q1))).bind fun r12 =>
  cond (r12.1 != (0 : Int))
  (some (Sum.inr (r12.1, ())))
  (types_node.l1 k q0 n (IntKind.i64.wrap (q1 + (1 : Int))))) none) none) none)
  (some (Sum.inl (())))
def types_node (k : Nat) (a0 : ad) (a1 : Int) : Option (Int × Unit) :=
  (aB a0.nodes a1).bind fun x1 =>
  (bJ k x1.name).bind fun r2 =>
  cond (!r2.1)
  (some ((2 : Int), ()))
  (cond (decide (0 ≤ (0 : Int)) && decide ((0 : Int) ≤ a1) && decide (a1 ≤ (a0.nodes.length : Int))) ((da (slc a0.nodes 0 (Int.toNat a1)) (fun z3 => g9 z3.1 x1)).bind fun r4 =>
  cond r4.1
  (some ((5 : Int), ()))
  ((cond (decide (x1.parent < (-1 : Int))) (some (true, ())) (some ((decide (x1.parent ≥ a1)), ()))).bind fun b5 =>
  cond b5.1
  (some ((6 : Int), ()))
  (cond (decide ((x1.attrs.length : Int) > (4 : Int)))
  (some ((3 : Int), ()))
  ((cS k a0 a1).bind fun r6 =>
  cond (decide (((r6.1).length : Int) > (8 : Int)))
  (some ((3 : Int), ()))
  ((types_node.l1 k r6.1 k (IntKind.i64.wrap (((r6.1).length : Int) - (x1.attrs.length : Int)))).bind fun o13 =>
  aJ o13
  (fun y14 => some ((0 : Int), ()))
  (fun z15 => some (z15.1, ()))))))) none)
def api_EdgeType_148.l0 (q0 : List bk) (q1 : (bk × Unit) → Option Bool) (q2 : Int) : Nat → Int → Option (Sum Unit (Int × Unit))
 | 0, _ => none
 | n + 1, q3 =>
  cond (decide (q3 < q2))
  ((aB q0 q3).bind fun x3 =>
  (q1 (x3, ())).bind fun r4 =>
  cond r4
  (some (Sum.inr (q3, ())))
  (api_EdgeType_148.l0 q0 q1 q2 n (IntKind.i64.wrap (q3 + (1 : Int)))))
  (some (Sum.inl (())))
def api_EdgeType_148 (a0 : List bk) (a1 : (bk × Unit) → Option Bool) : Option (Int × Unit) :=
  (api_EdgeType_148.l0 a0 a1 (a0.length : Int) (Int.toNat (a0.length : Int) + 1) (0 : Int)).bind fun o5 =>
  aJ o5
  (fun y6 => some ((-1 : Int), ()))
  (fun z7 => some (z7.1, ()))
def eB (a0 : List bk) (a1 : (bk × Unit) → Option Bool) : Option (Bool × Unit) :=
  (api_EdgeType_148 a0 a1).bind fun r1 =>
  some ((decide (r1.1 ≥ (0 : Int))), ())
def dV (a0 : Int) (a1 : Int) : Option (Bool × Unit) :=
  (cond (decide (a0 ≥ (0 : Int))) (cond (decide (a0 ≤ (40 : Int))) (cond (a1 == (-1 : Int)) (some (true, ())) (cond (decide (a1 ≥ a0)) (some ((decide (a1 ≤ (40 : Int))), ())) (some (false, ())))) (some (false, ()))) (some (false, ()))).bind fun b1 =>
  some (b1.1, ())
def gk (a0 : bk) (a1 : bk) : Option Bool :=
  some (di a0.name a1.name)
def ft (a0 : Int) (a1 : ad) : Option Bool :=
  (cond (decide (a0 ≥ (0 : Int))) (some ((decide (a0 < (a1.nodes.length : Int))), ())) (some (false, ()))).bind fun b1 =>
  some b1.1
def gK (k : Nat) (a0 : ad) (a1 : Int) : Option (Int × Unit) :=
  (aB a0.edges a1).bind fun x1 =>
  (bJ k x1.name).bind fun r2 =>
  cond (!r2.1)
  (some ((2 : Int), ()))
  (cond (decide (0 ≤ (0 : Int)) && decide ((0 : Int) ≤ a1) && decide (a1 ≤ (a0.edges.length : Int))) ((eB (slc a0.edges 0 (Int.toNat a1)) (fun z3 => gk z3.1 x1)).bind fun r4 =>
  cond r4.1
  (some ((5 : Int), ()))
  (((ft x1.frm a0).bind fun r5 =>
  cond (!r5) (some (true, ())) ((ft x1.to a0).bind fun r6 =>
  some ((!r6), ()))).bind fun b7 =>
  cond b7.1
  (cond b7.1
  (some ((6 : Int), ()))
  (some ((0 : Int), ())))
  (((dV x1.outLow x1.outHigh).bind fun r8 =>
  cond (!r8.1) (some (true, ())) ((dV x1.inLow x1.inHigh).bind fun r9 =>
  some ((!r9.1), ()))).bind fun b10 =>
  cond b10.1
  (some ((6 : Int), ()))
  (some ((0 : Int), ()))))) none)
def types_Valid.l1 (k : Nat) (q0 : ad) (q1 : List aZ) (q2 : Int) : Nat → Int → Option (Sum (ad × Unit) (ByteArray × (Int × Unit)))
 | 0, _ => none
 | n + 1, q3 =>
  cond (decide (q3 < q2))
  ((aB q1 q3).bind fun x6 =>
  (types_node k q0 q3).bind fun r7 =>
  cond (r7.1 != (0 : Int))
  (some (Sum.inr (x6.name, r7.1, ())))
  (types_Valid.l1 k q0 q1 q2 n (IntKind.i64.wrap (q3 + (1 : Int)))))
  (some (Sum.inl (q0, ())))
def types_Valid.l3 (k : Nat) (q0 : ad) (q1 : List bk) (q2 : Int) : Nat → Int → Option (Sum Unit (ByteArray × (Int × Unit)))
 | 0, _ => none
 | n + 1, q3 =>
  cond (decide (q3 < q2))
  ((aB q1 q3).bind fun x15 =>
  (gK k q0 q3).bind fun r16 =>
  cond (r16.1 != (0 : Int))
  (some (Sum.inr (x15.name, r16.1, ())))
  (types_Valid.l3 k q0 q1 q2 n (IntKind.i64.wrap (q3 + (1 : Int)))))
  (some (Sum.inl (())))
def types_Valid (k : Nat) (a0 : ad) : Option (ByteArray × (Int × Unit)) :=
  cond ((a0.nodes.length : Int) == (0 : Int))
  (some ((⟨#[]⟩ : ByteArray), (7 : Int), ()))
  ((cond (decide ((a0.nodes.length : Int) > (12 : Int))) (some (true, ())) (some ((decide ((a0.edges.length : Int) > (20 : Int))), ()))).bind fun b1 =>
  cond b1.1
  (some ((⟨#[]⟩ : ByteArray), (3 : Int), ()))
  ((types_Valid.l1 k a0 a0.nodes (a0.nodes.length : Int) (Int.toNat (a0.nodes.length : Int) + 1) (0 : Int)).bind fun o8 =>
  aJ o8
  (fun y9 => (types_Valid.l3 k y9.1 y9.1.edges (y9.1.edges.length : Int) (Int.toNat (y9.1.edges.length : Int) + 1) (0 : Int)).bind fun o17 =>
  aJ o17
  (fun y18 => some ((⟨#[]⟩ : ByteArray), (0 : Int), ()))
  (fun z19 => some (z19.1, z19.2.1, ())))
  (fun z10 => some (z10.1, z10.2.1, ()))))
def slices_Index_lint.l0 (q0 : List Int) (q1 : Int) (q2 : Int) : Nat → Int → Option (Sum Unit (Int × Unit))
 | 0, _ => none
 | n + 1, q3 =>
  cond (decide (q3 < q2))
  ((aB q0 q3).bind fun x2 =>
  cond (q1 == x2)
  (some (Sum.inr (q3, ())))
  (slices_Index_lint.l0 q0 q1 q2 n (IntKind.i64.wrap (q3 + (1 : Int)))))
  (some (Sum.inl (())))
def slices_Index_lint (a0 : List Int) (a1 : Int) : Option (Int × Unit) :=
  (slices_Index_lint.l0 a0 a1 (a0.length : Int) (Int.toNat (a0.length : Int) + 1) (0 : Int)).bind fun o3 =>
  aJ o3
  (fun y4 => some ((-1 : Int), ()))
  (fun z5 => some (z5.1, ()))
def bA (a0 : List Int) (a1 : Int) : Option (Bool × Unit) :=
  (slices_Index_lint a0 a1).bind fun r1 =>
  some ((decide (r1.1 ≥ (0 : Int))), ())
def rule_others.l0 (q0 : List Int) (q2 : Int) : Nat → (List Int) → Int → Option ((List Int) × Unit)
 | 0, _, _ => none
 | n + 1, q1, q3 =>
  cond (decide (q3 < q2))
  ((bA q0 q3).bind fun r2 =>
  cond (!r2.1)
  (cond (bX ((q1).length + ([q3]).length)) (rule_others.l0 q0 q2 n (q1 ++ [q3]) (IntKind.i64.wrap (q3 + (1 : Int)))) none)
  (rule_others.l0 q0 q2 n q1 (IntKind.i64.wrap (q3 + (1 : Int)))))
  (some (q1, ()))
def rule_others (a0 : List Int) (a1 : Int) : Option ((List Int) × Unit) :=
  (rule_others.l0 a0 a1 (Int.toNat a1 + 1) ([] : List Int) (0 : Int)).bind fun o3 =>
  some (o3.1, ())
def dK (a0 : aC) : Option ((List Int) × ((List Int) × Unit)) :=
  (rule_others a0.into.nodes (a0.right.graph.nodes.length : Int)).bind fun r1 =>
  (rule_others a0.into.edges (a0.right.graph.edges.length : Int)).bind fun r2 =>
  some (r1.1, r2.1, ())
def slices_IndexFunc_lint.l0 (q0 : List Int) (q1 : (Int × Unit) → Option Bool) (q2 : Int) : Nat → Int → Option (Sum Unit (Int × Unit))
 | 0, _ => none
 | n + 1, q3 =>
  cond (decide (q3 < q2))
  ((aB q0 q3).bind fun x3 =>
  (q1 (x3, ())).bind fun r4 =>
  cond r4
  (some (Sum.inr (q3, ())))
  (slices_IndexFunc_lint.l0 q0 q1 q2 n (IntKind.i64.wrap (q3 + (1 : Int)))))
  (some (Sum.inl (())))
def slices_IndexFunc_lint (a0 : List Int) (a1 : (Int × Unit) → Option Bool) : Option (Int × Unit) :=
  (slices_IndexFunc_lint.l0 a0 a1 (a0.length : Int) (Int.toNat (a0.length : Int) + 1) (0 : Int)).bind fun o5 =>
  aJ o5
  (fun y6 => some ((-1 : Int), ()))
  (fun z7 => some (z7.1, ()))
def am (a0 : List Int) (a1 : (Int × Unit) → Option Bool) : Option (Bool × Unit) :=
  (slices_IndexFunc_lint a0 a1).bind fun r1 =>
  some ((decide (r1.1 ≥ (0 : Int))), ())
def api_Edge_232.l0 (q0 : List Edge) (q1 : (Edge × Unit) → Option Bool) (q2 : Int) : Nat → Int → Option (Sum Unit (Int × Unit))
 | 0, _ => none
 | n + 1, q3 =>
  cond (decide (q3 < q2))
  ((aB q0 q3).bind fun x3 =>
  (q1 (x3, ())).bind fun r4 =>
  cond r4
  (some (Sum.inr (q3, ())))
  (api_Edge_232.l0 q0 q1 q2 n (IntKind.i64.wrap (q3 + (1 : Int)))))
  (some (Sum.inl (())))
def api_Edge_232 (a0 : List Edge) (a1 : (Edge × Unit) → Option Bool) : Option (Int × Unit) :=
  (api_Edge_232.l0 a0 a1 (a0.length : Int) (Int.toNat (a0.length : Int) + 1) (0 : Int)).bind fun o5 =>
  aJ o5
  (fun y6 => some ((-1 : Int), ()))
  (fun z7 => some (z7.1, ()))
def dn (a0 : List Edge) (a1 : (Edge × Unit) → Option Bool) : Option (Bool × Unit) :=
  (api_Edge_232 a0 a1).bind fun r1 =>
  some ((decide (r1.1 ≥ (0 : Int))), ())
def cR (a0 : Int) (a1 : Int) : Option (Bool × Unit) :=
  (cond (decide (a0 ≥ (0 : Int))) (some ((decide (a0 ≤ a1)), ())) (some (false, ()))).bind fun b1 =>
  some (b1.1, ())
def gM (a0 : Edge) (a1 : Int) : Option (Bool × Unit) :=
  ((cR a0.typ (99 : Int)).bind fun r1 =>
  cond r1.1 ((cR a0.frm (IntKind.i64.wrap (a1 - (1 : Int)))).bind fun r2 =>
  cond r2.1 ((cR a0.to (IntKind.i64.wrap (a1 - (1 : Int)))).bind fun r3 =>
  some (r3.1, ())) (some (false, ()))) (some (false, ()))).bind fun b4 =>
  some (b4.1, ())
def eX (a0 : Int) : Option Bool :=
  (cR a0 (99 : Int)).bind fun r1 =>
  some (!r1.1)
def eU (a0 : Edge) (a1 : ag) : Option Bool :=
  (gM a0 (a1.nodes.length : Int)).bind fun r1 =>
  some (!r1.1)
def ct (a0 : ag) : Option (Int × Unit) :=
  (cond (decide ((a0.nodes.length : Int) > (40 : Int))) (some (true, ())) (some ((decide ((a0.edges.length : Int) > (80 : Int))), ()))).bind fun b1 =>
  cond b1.1
  (some ((3 : Int), ()))
  ((am a0.nodes (fun z2 => eX z2.1)).bind fun r3 =>
  cond r3.1
  (some ((6 : Int), ()))
  ((dn a0.edges (fun z4 => eU z4.1 a0)).bind fun r5 =>
  cond r5.1
  (some ((6 : Int), ()))
  (some ((0 : Int), ()))))
def be (a0 : Int) (a1 : Int) (a2 : Int) : Option (Bool × Unit) :=
  (cond (decide (a0 ≥ a1)) (some ((decide (a0 ≤ a2)), ())) (some (false, ()))).bind fun b1 =>
  some (b1.1, ())
def eV (a0 : Int) (a1 : ad) : Option Bool :=
  (cond (decide (a0 < (0 : Int))) (some (true, ())) (some ((decide (a0 ≥ (a1.nodes.length : Int))), ()))).bind fun b1 =>
  some b1.1
def eK (k : Nat) (a0 : ad) (a1 : List Int) : Option (Int × Unit) :=
  (types_Valid k a0).bind fun r1 =>
  cond (r1.2.1 != (0 : Int))
  (some (r1.2.1, ()))
  ((am a1 (fun z2 => eV z2.1 a0)).bind fun r3 =>
  cond r3.1
  (some ((6 : Int), ()))
  (some ((0 : Int), ())))
def types_Attrs.l0 (q1 : Int) : Nat → (List bQ) → Int → Option ((List bQ) × Unit)
 | 0, _, _ => none
 | n + 1, q0, q2 =>
  cond (decide (q2 < q1))
  (cond (decide (0 ≤ q2) && decide (q2 < ((q0).length : Int))) ((nth q0 (Int.toNat q2)).bind fun x6 =>
  (iR x6.names).bind fun r7 =>
  cond (decide (0 ≤ q2) && decide (q2 < ((q0).length : Int))) ((nth q0 (Int.toNat q2)).bind fun x8 =>
  types_Attrs.l0 q1 n ((q0).set (Int.toNat q2) (⟨x8.name, x8.low, x8.high, r7.1⟩ : bQ)) (IntKind.i64.wrap (q2 + (1 : Int)))) none) none)
  (some (q0, ()))
def types_Attrs (k : Nat) (a0 : ad) (a1 : Int) : Option ((List bQ) × (Int × Unit)) :=
  (eK k a0 [a1]).bind fun r1 =>
  cond (r1.1 != (0 : Int))
  (some (([] : List bQ), r1.1, ()))
  ((cS k a0 a1).bind fun r2 =>
  (types_Attrs.l0 ((r2.1).length : Int) (Int.toNat ((r2.1).length : Int) + 1) r2.1 (0 : Int)).bind fun o9 =>
  some (o9.1, (0 : Int), ()))
def ek (k : Nat) (a0 : ad) (a1 : ai) (a2 : dR) : Option (bQ × (Bool × Unit)) :=
  (be a2.node (0 : Int) (IntKind.i64.wrap ((a1.graph.nodes.length : Int) - (1 : Int)))).bind fun r1 =>
  cond (!r1.1)
  (some ((⟨(⟨#[]⟩ : ByteArray), (0 : Int), (0 : Int), ([] : List ByteArray)⟩ : bQ), false, ()))
  ((aB a1.graph.nodes a2.node).bind fun x2 =>
  (types_Attrs k a0 x2).bind fun r3 =>
  (be a2.attr (0 : Int) (IntKind.i64.wrap (((r3.1).length : Int) - (1 : Int)))).bind fun r4 =>
  cond (!r4.1)
  (some ((⟨(⟨#[]⟩ : ByteArray), (0 : Int), (0 : Int), ([] : List ByteArray)⟩ : bQ), false, ()))
  (cond (decide (0 ≤ a2.attr) && decide (a2.attr < ((r3.1).length : Int))) ((nth r3.1 (Int.toNat a2.attr)).bind fun x5 =>
  some (x5, true, ())) none))
def dH (a0 : Int) (a1 : nt) : Option (Bool × Unit) :=
  (cond (decide (a1.var ≥ (-1 : Int))) (cond (decide (a1.var < a0)) (cond (decide (a1.add ≥ (-1000000 : Int))) (some ((decide (a1.add ≤ (1000000 : Int))), ())) (some (false, ()))) (some (false, ()))) (some (false, ()))).bind fun b1 =>
  some (b1.1, ())
def eE (a0 : Int) (a1 : dA) : Option (Int × Unit) :=
  (cond (a1.kind != (1 : Int)) (some ((a1.kind != (2 : Int)), ())) (some (false, ()))).bind fun b1 =>
  cond b1.1
  (some ((1 : Int), ()))
  (((dH a0 a1.left).bind fun r2 =>
  cond (!r2.1) (some (true, ())) ((dH a0 a1.right).bind fun r3 =>
  some ((!r3.1), ()))).bind fun b4 =>
  cond b4.1
  (some ((6 : Int), ()))
  (some ((0 : Int), ())))
def difference_Valid.l0 (q0 : Int) (q1 : List dA) (q2 : Int) : Nat → Int → Option (Sum Unit (Int × Unit))
 | 0, _ => none
 | n + 1, q3 =>
  cond (decide (q3 < q2))
  ((aB q1 q3).bind fun x4 =>
  (eE q0 x4).bind fun r5 =>
  cond (r5.1 != (0 : Int))
  (some (Sum.inr (r5.1, ())))
  (difference_Valid.l0 q0 q1 q2 n (IntKind.i64.wrap (q3 + (1 : Int)))))
  (some (Sum.inl (())))
def difference_Valid (a0 : Int) (a1 : List dA) : Option (Int × Unit) :=
  (cond (decide (a0 < (0 : Int))) (some (true, ())) (some ((decide (a0 > (12 : Int))), ()))).bind fun b1 =>
  cond b1.1
  (some ((6 : Int), ()))
  (cond (decide ((a1.length : Int) > (40 : Int)))
  (some ((3 : Int), ()))
  ((difference_Valid.l0 a0 a1 (a1.length : Int) (Int.toNat (a1.length : Int) + 1) (0 : Int)).bind fun o6 =>
  aJ o6
  (fun y7 => some ((0 : Int), ()))
  (fun z8 => some (z8.1, ()))))
def slices_Index_lbool.l0 (q0 : List Bool) (q1 : Bool) (q2 : Int) : Nat → Int → Option (Sum Unit (Int × Unit))
 | 0, _ => none
 | n + 1, q3 =>
  cond (decide (q3 < q2))
  ((aB q0 q3).bind fun x2 =>
  cond (q1 == x2)
  (some (Sum.inr (q3, ())))
  (slices_Index_lbool.l0 q0 q1 q2 n (IntKind.i64.wrap (q3 + (1 : Int)))))
  (some (Sum.inl (())))
def slices_Index_lbool (a0 : List Bool) (a1 : Bool) : Option (Int × Unit) :=
  (slices_Index_lbool.l0 a0 a1 (a0.length : Int) (Int.toNat (a0.length : Int) + 1) (0 : Int)).bind fun o3 =>
  aJ o3
  (fun y4 => some ((-1 : Int), ()))
  (fun z5 => some (z5.1, ()))
def ca (a0 : List Bool) (a1 : Bool) : Option (Bool × Unit) :=
  (slices_Index_lbool a0 a1).bind fun r1 =>
  some ((decide (r1.1 ≥ (0 : Int))), ())
def dO (a0 : Int) (a1 : ad) : Option Bool :=
  some (decide (a0 ≥ (a1.nodes.length : Int)))
def dS (a0 : Edge) (a1 : ad) : Option Bool :=
  some (decide (a0.typ ≥ (a1.edges.length : Int)))
def attribute_Valid.l0 (k : Nat) (q0 : ad) (q1 : ai) (q3 : List dR) (q4 : Int) : Nat → (List Bool) → Int → Option (Sum (ai × ((List Bool) × Unit)) (Int × Unit))
 | 0, _, _ => none
 | n + 1, q2, q5 =>
  cond (decide (q5 < q4))
  ((aB q3 q5).bind fun x22 =>
  (ek k q0 q1 x22).bind fun r23 =>
  (cond (!r23.2.1) (some (true, ())) ((be x22.term.var (-1 : Int) (IntKind.i64.wrap (q1.vars - (1 : Int)))).bind fun r24 =>
  cond (!r24.1) (some (true, ())) ((be x22.term.add (-1000000 : Int) (1000000 : Int)).bind fun r25 =>
  some ((!r25.1), ())))).bind fun b26 =>
  cond b26.1
  (some (Sum.inr ((6 : Int), ())))
  (cond (decide (x22.term.var ≥ (0 : Int)))
  (cond (decide (0 ≤ x22.term.var) && decide (x22.term.var < ((q2).length : Int))) ((nth q2 (Int.toNat x22.term.var)).bind fun x27 =>
  attribute_Valid.l0 k q0 q1 q3 q4 n ((q2).set (Int.toNat x22.term.var) true) (IntKind.i64.wrap (q5 + (1 : Int)))) none)
  (attribute_Valid.l0 k q0 q1 q3 q4 n q2 (IntKind.i64.wrap (q5 + (1 : Int))))))
  (some (Sum.inl (q1, q2, ())))
def attribute_Valid (k : Nat) (a0 : ad) (a1 : ai) : Option (Int × Unit) :=
  (types_Valid k a0).bind fun r1 =>
  cond (r1.2.1 != (0 : Int))
  (some (r1.2.1, ()))
  ((ct a1.graph).bind fun r2 =>
  cond (r2.1 != (0 : Int))
  (some (r2.1, ()))
  (((am a1.graph.nodes (fun z3 => dO z3.1 a0)).bind fun r4 =>
  cond r4.1 (some (true, ())) ((dn a1.graph.edges (fun z5 => dS z5.1 a0)).bind fun r6 =>
  some (r6.1, ()))).bind fun b7 =>
  cond b7.1
  (some ((13 : Int), ()))
  ((be a1.vars (0 : Int) (12 : Int)).bind fun r8 =>
  cond (!r8.1)
  (some ((6 : Int), ()))
  ((cond (decide ((a1.slots.length : Int) > (10 : Int))) (some (true, ())) (some ((decide ((a1.tests.length : Int) > (10 : Int))), ()))).bind fun b9 =>
  cond b9.1
  (some ((3 : Int), ()))
  (cond (decide (0 ≤ a1.vars) && decide (a1.vars ≤ a1.vars) && bX (Int.toNat a1.vars)) ((attribute_Valid.l0 k a0 a1 a1.slots (a1.slots.length : Int) (Int.toNat (a1.slots.length : Int) + 1) (List.replicate (Int.toNat a1.vars) false) (0 : Int)).bind fun o28 =>
  aJ o28
  (fun y29 => (difference_Valid y29.1.vars y29.1.tests).bind fun r31 =>
  cond (r31.1 != (0 : Int))
  (some (r31.1, ()))
  ((ca y29.2.1 false).bind fun r32 =>
  cond r32.1
  (some ((9 : Int), ()))
  (some ((0 : Int), ()))))
  (fun z30 => some (z30.1, ()))) none)))))
def gp (a0 : Int) (a1 : ad) : Option Bool :=
  some (decide (a0 ≥ (a1.nodes.length : Int)))
def gj (a0 : Edge) (a1 : ad) : Option Bool :=
  some (decide (a0.typ ≥ (a1.edges.length : Int)))
def gG (a0 : ad) (a1 : ag) : Option (Bool × Unit) :=
  ((am a1.nodes (fun z1 => gp z1.1 a0)).bind fun r2 =>
  cond (!r2.1) ((dn a1.edges (fun z3 => gj z3.1 a0)).bind fun r4 =>
  some ((!r4.1), ())) (some (false, ()))).bind fun b5 =>
  some (b5.1, ())
def api_Slot_267.l0 (q0 : List dR) (q1 : (dR × Unit) → Option Bool) (q2 : Int) : Nat → Int → Option (Sum Unit (Int × Unit))
 | 0, _ => none
 | n + 1, q3 =>
  cond (decide (q3 < q2))
  ((aB q0 q3).bind fun x3 =>
  (q1 (x3, ())).bind fun r4 =>
  cond r4
  (some (Sum.inr (q3, ())))
  (api_Slot_267.l0 q0 q1 q2 n (IntKind.i64.wrap (q3 + (1 : Int)))))
  (some (Sum.inl (())))
def api_Slot_267 (a0 : List dR) (a1 : (dR × Unit) → Option Bool) : Option (Int × Unit) :=
  (api_Slot_267.l0 a0 a1 (a0.length : Int) (Int.toNat (a0.length : Int) + 1) (0 : Int)).bind fun o5 =>
  aJ o5
  (fun y6 => some ((-1 : Int), ()))
  (fun z7 => some (z7.1, ()))
def eO (a0 : List dR) (a1 : (dR × Unit) → Option Bool) : Option (Bool × Unit) :=
  (api_Slot_267 a0 a1).bind fun r1 =>
  some ((decide (r1.1 ≥ (0 : Int))), ())
def fR (a0 : dR) (a1 : dR) : Option Bool :=
  (cond (a0.node == a1.node) (some ((a0.attr == a1.attr), ())) (some (false, ()))).bind fun b1 =>
  some b1.1
def im (k : Nat) (a0 : ad) (a1 : aC) (a2 : Int) : Option (Int × Unit) :=
  (aB a1.right.slots a2).bind fun x1 =>
  (cond (decide (x1.node < (0 : Int))) (some (true, ())) (some ((decide (x1.node ≥ (a1.right.graph.nodes.length : Int))), ()))).bind fun b2 =>
  cond b2.1
  (some ((6 : Int), ()))
  ((aB a1.right.graph.nodes x1.node).bind fun x3 =>
  (types_Attrs k a0 x3).bind fun r4 =>
  (cond (decide (x1.attr < (0 : Int))) (some (true, ())) (cond (decide (x1.attr ≥ ((r4.1).length : Int))) (some (true, ())) (cond (decide (x1.term.var < (-1 : Int))) (some (true, ())) (cond (decide (x1.term.var ≥ a1.right.vars)) (some (true, ())) (cond (decide (x1.term.add < (-1000000 : Int))) (some (true, ())) (some ((decide (x1.term.add > (1000000 : Int))), ()))))))).bind fun b5 =>
  cond b5.1
  (some ((6 : Int), ()))
  (cond (decide (0 ≤ (0 : Int)) && decide ((0 : Int) ≤ a2) && decide (a2 ≤ (a1.right.slots.length : Int))) ((eO (slc a1.right.slots 0 (Int.toNat a2)) (fun z6 => fR z6.1 x1)).bind fun r7 =>
  cond r7.1
  (some ((5 : Int), ()))
  (some ((0 : Int), ()))) none))
def rule_right.l1 (k : Nat) (q0 : ad) (q1 : aC) (q2 : Int) : Nat → Int → Option (Sum Unit (Int × Unit))
 | 0, _ => none
 | n + 1, q3 =>
  cond (decide (q3 < q2))
  ((im k q0 q1 q3).bind fun r6 =>
  cond (r6.1 != (0 : Int))
  (some (Sum.inr (r6.1, ())))
  (rule_right.l1 k q0 q1 q2 n (IntKind.i64.wrap (q3 + (1 : Int)))))
  (some (Sum.inl (())))
def rule_right (k : Nat) (a0 : ad) (a1 : aC) : Option (Int × Unit) :=
  (ct a1.right.graph).bind fun r1 =>
  cond (r1.1 != (0 : Int))
  (some (r1.1, ()))
  ((gG a0 a1.right.graph).bind fun r2 =>
  cond (!r2.1)
  (some ((13 : Int), ()))
  ((cond (a1.right.vars != a1.left.vars) (some (true, ())) (some ((decide ((a1.right.tests.length : Int) > (0 : Int))), ()))).bind fun b3 =>
  cond b3.1
  (some ((1 : Int), ()))
  (cond (decide ((a1.right.slots.length : Int) > (10 : Int)))
  (some ((3 : Int), ()))
  ((rule_right.l1 k a0 a1 (a1.right.slots.length : Int) (Int.toNat (a1.right.slots.length : Int) + 1) (0 : Int)).bind fun o7 =>
  aJ o7
  (fun y8 => some ((0 : Int), ()))
  (fun z9 => some (z9.1, ()))))))
def subgraph_list.l0 (q0 : List Int) (q1 : Int) (q2 : List Int) (q3 : Int) : Nat → Int → Option (Sum Unit (Int × Unit))
 | 0, _ => none
 | n + 1, q4 =>
  cond (decide (q4 < q3))
  ((aB q2 q4).bind fun x5 =>
  (cond (decide (x5 < (0 : Int))) (some (true, ())) (some ((decide (x5 ≥ q1)), ()))).bind fun b6 =>
  cond b6.1
  (some (Sum.inr ((6 : Int), ())))
  ((cond (decide (q4 > (0 : Int))) ((aB q0 (IntKind.i64.wrap (q4 - (1 : Int)))).bind fun x7 =>
  some ((decide (x5 ≤ x7)), ())) (some (false, ()))).bind fun b8 =>
  cond b8.1
  (some (Sum.inr ((12 : Int), ())))
  (subgraph_list.l0 q0 q1 q2 q3 n (IntKind.i64.wrap (q4 + (1 : Int))))))
  (some (Sum.inl (())))
def subgraph_list (a0 : List Int) (a1 : Int) : Option (Int × Unit) :=
  (subgraph_list.l0 a0 a1 a0 (a0.length : Int) (Int.toNat (a0.length : Int) + 1) (0 : Int)).bind fun o9 =>
  aJ o9
  (fun y10 => some ((0 : Int), ()))
  (fun z11 => some (z11.1, ()))
def eS (a0 : Int) : Option (Bool × Unit) :=
  some ((a0 != a0), ())
def gn (a0 : Int) (a1 : Int) : Option (Bool × Unit) :=
  ((eS a0).bind fun r1 =>
  cond r1.1 ((eS a1).bind fun r2 =>
  cond (!r2.1) (some (true, ())) (some ((decide (a0 < a1)), ()))) (some ((decide (a0 < a1)), ()))).bind fun b3 =>
  some (b3.1, ())
def dt (a0 : Int) : Option (Bool × Unit) :=
  some ((a0 != a0), ())
def slices_BinarySearch_lint.l0 (q0 : List Int) (q1 : Int) (q2 : Int) : Nat → Int → Int → Option ((List Int) × (Int × (Int × (Int × Unit))))
 | 0, _, _ => none
 | n + 1, q3, q4 =>
  cond (decide (q3 < q4))
  (cond (decide (0 ≤ (1 : Int))) ((aB q0 (IntKind.i64.wrap (Int.fdiv (IntKind.u64.wrap (IntKind.i64.wrap (q3 + q4))) (2 ^ (min (Int.toNat (1 : Int)) (IntKind.bits .u64)))))).bind fun x3 =>
  (gn x3 q1).bind fun r4 =>
  cond r4.1
  (slices_BinarySearch_lint.l0 q0 q1 q2 n (IntKind.i64.wrap ((IntKind.i64.wrap (Int.fdiv (IntKind.u64.wrap (IntKind.i64.wrap (q3 + q4))) (2 ^ (min (Int.toNat (1 : Int)) (IntKind.bits .u64))))) + (1 : Int))) q4)
  (slices_BinarySearch_lint.l0 q0 q1 q2 n q3 (IntKind.i64.wrap (Int.fdiv (IntKind.u64.wrap (IntKind.i64.wrap (q3 + q4))) (2 ^ (min (Int.toNat (1 : Int)) (IntKind.bits .u64))))))) none)
  (some (q0, q1, q2, q3, ()))
def slices_BinarySearch_lint (k : Nat) (a0 : List Int) (a1 : Int) : Option (Int × (Bool × Unit)) :=
  (slices_BinarySearch_lint.l0 a0 a1 (a0.length : Int) k (0 : Int) (a0.length : Int)).bind fun o5 =>
  (cond (decide (o5.2.2.2.1 < o5.2.2.1)) ((aB o5.1 o5.2.2.2.1).bind fun x6 =>
  cond (x6 == o5.2.1) (some (o5.2.2.2.1, true, ())) ((aB o5.1 o5.2.2.2.1).bind fun x7 =>
  (dt x7).bind fun r8 =>
  cond r8.1 ((dt o5.2.1).bind fun r9 =>
  some (o5.2.2.2.1, r9.1, ())) (some (o5.2.2.2.1, false, ())))) (some (o5.2.2.2.1, false, ()))).bind fun b10 =>
  some (b10.1, b10.2.1, ())
def fh (k : Nat) (a0 : List Int) (a1 : Int) : Option (Bool × Unit) :=
  (slices_BinarySearch_lint k a0 a1).bind fun r1 =>
  some (r1.2.1, ())
def subgraph_part.l0 (k : Nat) (q0 : ag) (q1 : dT) (q2 : List Int) (q3 : Int) : Nat → Int → Option (Sum Unit (Int × Unit))
 | 0, _ => none
 | n + 1, q4 =>
  cond (decide (q4 < q3))
  ((aB q2 q4).bind fun x15 =>
  ((aB q0.edges x15).bind fun x16 =>
  (fh k q1.nodes x16.frm).bind fun r17 =>
  cond (!r17.1) (some (true, ())) ((aB q0.edges x15).bind fun x18 =>
  (fh k q1.nodes x18.to).bind fun r19 =>
  some ((!r19.1), ()))).bind fun b20 =>
  cond b20.1
  (some (Sum.inr ((14 : Int), ())))
  (subgraph_part.l0 k q0 q1 q2 q3 n (IntKind.i64.wrap (q4 + (1 : Int)))))
  (some (Sum.inl (())))
def subgraph_part (k : Nat) (a0 : ag) (a1 : dT) : Option (Int × Unit) :=
  (subgraph_list a1.nodes (a0.nodes.length : Int)).bind fun r1 =>
  cond (r1.1 != (0 : Int))
  (some (r1.1, ()))
  ((subgraph_list a1.edges (a0.edges.length : Int)).bind fun r2 =>
  cond (r2.1 != (0 : Int))
  (some (r2.1, ()))
  ((subgraph_part.l0 k a0 a1 a1.edges (a1.edges.length : Int) (Int.toNat (a1.edges.length : Int) + 1) (0 : Int)).bind fun o21 =>
  aJ o21
  (fun y22 => some ((0 : Int), ()))
  (fun z23 => some (z23.1, ()))))
def eI (k : Nat) (a0 : ag) (a1 : dT) : Option (Int × Unit) :=
  (ct a0).bind fun r1 =>
  cond (r1.1 != (0 : Int))
  (some (r1.1, ()))
  ((subgraph_part k a0 a1).bind fun r2 =>
  some (r2.1, ()))
def subgraph_Extract.l0 (q0 : ag) (q1 : dT) (q2 : List Int) (q3 : List Edge) (q4 : List Int) (q5 : List Int) (q7 : List Edge) (q8 : List Int) (q9 : Int) : Nat → (List Int) → Int → Option (ag × (dT × (((List Int) × ((List Edge) × Unit)) × (((List Int) × ((List Int) × Unit)) × (((List Int) × ((List Edge) × Unit)) × Unit)))))
 | 0, _, _ => none
 | n + 1, q6, q10 =>
  cond (decide (q10 < q9))
  ((aB q8 q10).bind fun x4 =>
  (aB q0.nodes x4).bind fun x5 =>
  cond (bX ((q6).length + ([x5]).length)) (subgraph_Extract.l0 q0 q1 q2 q3 q4 q5 q7 q8 q9 n (q6 ++ [x5]) (IntKind.i64.wrap (q10 + (1 : Int)))) none)
  (some (q0, q1, (q2, q3, ()), (q4, q5, ()), (q6, q7, ()), ()))
def subgraph_Extract.l2 (k : Nat) (q0 : ag) (q1 : dT) (q2 : List Int) (q3 : List Edge) (q4 : List Int) (q5 : List Int) (q6 : List Int) (q8 : List Int) (q9 : Int) : Nat → (List Edge) → Int → Option (dT × (((List Int) × ((List Edge) × Unit)) × (((List Int) × ((List Int) × Unit)) × (((List Int) × ((List Edge) × Unit)) × Unit))))
 | 0, _, _ => none
 | n + 1, q7, q10 =>
  cond (decide (q10 < q9))
  ((aB q8 q10).bind fun x15 =>
  (aB q0.edges x15).bind fun x16 =>
  (slices_BinarySearch_lint k q1.nodes x16.frm).bind fun r17 =>
  (slices_BinarySearch_lint k q1.nodes x16.to).bind fun r18 =>
  cond (bX ((q7).length + ([(⟨x16.typ, r17.1, r18.1⟩ : Edge)]).length)) (subgraph_Extract.l2 k q0 q1 q2 q3 q4 q5 q6 q8 q9 n (q7 ++ [(⟨x16.typ, r17.1, r18.1⟩ : Edge)]) (IntKind.i64.wrap (q10 + (1 : Int)))) none)
  (some (q1, (q2, q3, ()), (q4, q5, ()), (q6, q7, ()), ()))
def subgraph_Extract (k : Nat) (a0 : ag) (a1 : dT) : Option (((List Int) × ((List Edge) × Unit)) × (((List Int) × ((List Int) × Unit)) × (Int × Unit))) :=
  (eI k a0 a1).bind fun r1 =>
  cond (r1.1 != (0 : Int))
  (some ((([] : List Int), ([] : List Edge), ()), (([] : List Int), ([] : List Int), ()), r1.1, ()))
  ((subgraph_Extract.l0 a0 a1 ([] : List Int) ([] : List Edge) ([] : List Int) ([] : List Int) ([] : List Edge) a1.nodes (a1.nodes.length : Int) (Int.toNat (a1.nodes.length : Int) + 1) ([] : List Int) (0 : Int)).bind fun o6 =>
  (subgraph_Extract.l2 k o6.1 o6.2.1 o6.2.2.1.1 o6.2.2.1.2.1 o6.2.2.2.1.1 o6.2.2.2.1.2.1 o6.2.2.2.2.1.1 o6.2.1.edges (o6.2.1.edges.length : Int) (Int.toNat (o6.2.1.edges.length : Int) + 1) o6.2.2.2.2.1.2.1 (0 : Int)).bind fun o19 =>
  (iR o19.1.nodes).bind fun r20 =>
  (iR o19.1.edges).bind fun r21 =>
  some ((o19.2.2.2.1.1, o19.2.2.2.1.2.1, ()), (r20.1, r21.1, ()), (0 : Int), ()))
def morphism_Valid.l0 (q0 : ag) (q1 : ag) (q2 : aO) (q3 : List Int) (q4 : Int) : Nat → Int → Option (Sum (ag × (ag × (aO × Unit))) (Int × Unit))
 | 0, _ => none
 | n + 1, q5 =>
  cond (decide (q5 < q4))
  ((aB q3 q5).bind fun x8 =>
  (cond (decide (x8 < (0 : Int))) (some (true, ())) (some ((decide (x8 ≥ (q1.nodes.length : Int))), ()))).bind fun b9 =>
  cond b9.1
  (some (Sum.inr ((6 : Int), ())))
  ((aB q1.nodes x8).bind fun x10 =>
  (aB q0.nodes q5).bind fun x11 =>
  cond (x10 != x11)
  (some (Sum.inr ((13 : Int), ())))
  (morphism_Valid.l0 q0 q1 q2 q3 q4 n (IntKind.i64.wrap (q5 + (1 : Int))))))
  (some (Sum.inl (q0, q1, q2, ())))
def morphism_Valid.l2 (q0 : ag) (q1 : ag) (q2 : aO) (q3 : List Int) (q4 : Int) : Nat → Int → Option (Sum Unit (Int × Unit))
 | 0, _ => none
 | n + 1, q5 =>
  cond (decide (q5 < q4))
  ((aB q3 q5).bind fun x22 =>
  (cond (decide (x22 < (0 : Int))) (some (true, ())) (some ((decide (x22 ≥ (q1.edges.length : Int))), ()))).bind fun b23 =>
  cond b23.1
  (some (Sum.inr ((6 : Int), ())))
  ((aB q0.edges q5).bind fun x24 =>
  (aB q1.edges x22).bind fun x25 =>
  cond (x24.typ != x25.typ)
  (some (Sum.inr ((13 : Int), ())))
  (((aB q2.nodes x24.frm).bind fun x26 =>
  cond (x26 != x25.frm) (some (true, ())) ((aB q2.nodes x24.to).bind fun x27 =>
  some ((x27 != x25.to), ()))).bind fun b28 =>
  cond b28.1
  (some (Sum.inr ((11 : Int), ())))
  (morphism_Valid.l2 q0 q1 q2 q3 q4 n (IntKind.i64.wrap (q5 + (1 : Int)))))))
  (some (Sum.inl (())))
def morphism_Valid (a0 : ag) (a1 : ag) (a2 : aO) : Option (Int × Unit) :=
  (ct a0).bind fun r1 =>
  cond (r1.1 != (0 : Int))
  (some (r1.1, ()))
  ((ct a1).bind fun r2 =>
  cond (r2.1 != (0 : Int))
  (some (r2.1, ()))
  ((cond ((a2.nodes.length : Int) != (a0.nodes.length : Int)) (some (true, ())) (some (((a2.edges.length : Int) != (a0.edges.length : Int)), ()))).bind fun b3 =>
  cond b3.1
  (some ((20 : Int), ()))
  ((morphism_Valid.l0 a0 a1 a2 a2.nodes (a2.nodes.length : Int) (Int.toNat (a2.nodes.length : Int) + 1) (0 : Int)).bind fun o12 =>
  aJ o12
  (fun y13 => (morphism_Valid.l2 y13.1 y13.2.1 y13.2.2.1 y13.2.2.1.edges (y13.2.2.1.edges.length : Int) (Int.toNat (y13.2.2.1.edges.length : Int) + 1) (0 : Int)).bind fun o29 =>
  aJ o29
  (fun y30 => some ((0 : Int), ()))
  (fun z31 => some (z31.1, ())))
  (fun z14 => some (z14.1, ())))))
def slices_Compact_lint.l2  : Nat → (List Int) → Int → Int → Int → Int → Option ((List Int) × (Int × Unit))
 | 0, _, _, _, _, _ => none
 | n + 1, q0, q1, q2, q3, q4 =>
  cond (decide (q4 < (((Int.toNat q3) - (Int.toNat q2) : Nat) : Int)))
  (cond (decide (0 ≤ q4) && decide (q4 < (((Int.toNat q3) - (Int.toNat q2) : Nat) : Int)) && decide ((Int.toNat q3) ≤ (q0).length)) ((nth q0 ((Int.toNat q2) + (Int.toNat q4))).bind fun x7 =>
  cond (decide (0 ≤ IntKind.i64.wrap (q4 - (1 : Int))) && decide (IntKind.i64.wrap (q4 - (1 : Int)) < (((Int.toNat q3) - (Int.toNat q2) : Nat) : Int)) && decide ((Int.toNat q3) ≤ (q0).length)) ((nth q0 ((Int.toNat q2) + (Int.toNat (IntKind.i64.wrap (q4 - (1 : Int)))))).bind fun x8 =>
  cond (x7 != x8)
  (cond (decide (0 ≤ q4) && decide (q4 < (((Int.toNat q3) - (Int.toNat q2) : Nat) : Int)) && decide ((Int.toNat q3) ≤ (q0).length)) ((nth q0 ((Int.toNat q2) + (Int.toNat q4))).bind fun x9 =>
  cond (decide (0 ≤ q1) && decide (q1 < ((q0).length : Int))) ((nth q0 (Int.toNat q1)).bind fun x10 =>
  slices_Compact_lint.l2 n ((q0).set (Int.toNat q1) x9) (IntKind.i64.wrap (q1 + (1 : Int))) (((Int.toNat q2) : Nat) : Int) (((Int.toNat q3) : Nat) : Int) (IntKind.i64.wrap (q4 + (1 : Int)))) none) none)
  (slices_Compact_lint.l2 n q0 q1 (((Int.toNat q2) : Nat) : Int) (((Int.toNat q3) : Nat) : Int) (IntKind.i64.wrap (q4 + (1 : Int))))) none) none)
  (some (q0, q1, ()))
def slices_Compact_lint.l0 (k : Nat) (q0 : List Int) : Nat → Int → Option (Sum ((List Int) × Unit) ((List Int) × ((Int × Int) × Unit)))
 | 0, _ => none
 | n + 1, q1 =>
  cond (decide (q1 < ((q0).length : Int)))
  (cond (decide (0 ≤ q1) && decide (q1 < ((q0).length : Int))) ((nth q0 (Int.toNat q1)).bind fun x15 =>
  cond (decide (0 ≤ IntKind.i64.wrap (q1 - (1 : Int))) && decide (IntKind.i64.wrap (q1 - (1 : Int)) < ((q0).length : Int))) ((nth q0 (Int.toNat (IntKind.i64.wrap (q1 - (1 : Int))))).bind fun x16 =>
  cond (x15 == x16)
  (cond (decide (0 ≤ q1) && decide (q1 ≤ ((q0).length : Int)) && decide (((q0).length : Int) ≤ ((q0).length : Int))) ((slices_Compact_lint.l2 k q0 q1 (((Int.toNat q1) : Nat) : Int) (((Int.toNat ((q0).length : Int)) : Nat) : Int) (1 : Int)).bind fun o17 =>
  cond (decide (0 ≤ o17.2.1) && decide (o17.2.1 ≤ ((o17.1).length : Int)) && decide (((o17.1).length : Int) ≤ ((o17.1).length : Int))) (cond (decide ((Int.toNat o17.2.1) ≤ (Int.toNat ((o17.1).length : Int))) && decide ((Int.toNat ((o17.1).length : Int)) ≤ (o17.1).length)) (cond (decide (0 ≤ (0 : Int)) && decide ((0 : Int) ≤ o17.2.1) && decide (o17.2.1 ≤ ((nu o17.1 (Int.toNat o17.2.1) (List.replicate ((Int.toNat ((o17.1).length : Int)) - (Int.toNat o17.2.1)) (0 : Int))).length : Int))) (some (Sum.inr (nu o17.1 (Int.toNat o17.2.1) (List.replicate ((Int.toNat ((o17.1).length : Int)) - (Int.toNat o17.2.1)) (0 : Int)), (((0 : Nat) : Int), (((Int.toNat o17.2.1) : Nat) : Int)), ()))) none) none) none) none)
  (slices_Compact_lint.l0 k q0 n (IntKind.i64.wrap (q1 + (1 : Int))))) none) none)
  (some (Sum.inl (q0, ())))
def slices_Compact_lint (k : Nat) (a0 : List Int) : Option ((List Int) × ((Int × Int) × Unit)) :=
  cond (decide (((a0).length : Int) < (2 : Int)))
  (some (a0, ((0 : Int), ((a0).length : Int)), ()))
  ((slices_Compact_lint.l0 k a0 k (1 : Int)).bind fun o18 =>
  aJ o18
  (fun y19 => some (y19.1, ((0 : Int), ((y19.1).length : Int)), ()))
  (fun z20 => some (z20.1, ((((Int.toNat z20.2.1.1) : Nat) : Int), (((Int.toNat z20.2.1.2) : Nat) : Int)), ())))
def d9 (k : Nat) (a0 : List Int) : Option (Int × Unit) :=
  (iR a0).bind fun r1 =>
  (slices_Sort_int r1.1).bind fun r2 =>
  (slices_Compact_lint k r2.1).bind fun r3 =>
  some ((((Int.toNat r3.2.1.2) - (Int.toNat r3.2.1.1) : Nat) : Int), ())
def bN (k : Nat) (a0 : ag) (a1 : ag) (a2 : aO) : Option (Bool × Unit) :=
  ((morphism_Valid a0 a1 a2).bind fun r1 =>
  cond (r1.1 == (0 : Int)) ((d9 k a2.nodes).bind fun r2 =>
  cond (r2.1 == (a2.nodes.length : Int)) ((d9 k a2.edges).bind fun r3 =>
  some ((r3.1 == (a2.edges.length : Int)), ())) (some (false, ()))) (some (false, ()))).bind fun b4 =>
  some (b4.1, ())
def ip (k : Nat) (a0 : aC) : Option (Int × Unit) :=
  (subgraph_Extract k a0.left.graph a0.keep).bind fun r1 =>
  cond (r1.2.2.1 != (0 : Int))
  (some (r1.2.2.1, ()))
  ((morphism_Valid (⟨r1.1.1, r1.1.2.1⟩ : ag) a0.right.graph a0.into).bind fun r2 =>
  cond (r2.1 != (0 : Int))
  (some (r2.1, ()))
  ((bN k (⟨r1.1.1, r1.1.2.1⟩ : ag) a0.right.graph a0.into).bind fun r3 =>
  cond (!r3.1)
  (some ((11 : Int), ()))
  (some ((0 : Int), ()))))
def slices_Reverse_lint.l0  : Nat → (List Int) → Int → Int → Option ((List Int) × Unit)
 | 0, _, _, _ => none
 | n + 1, q0, q1, q2 =>
  cond (decide (q1 < q2))
  (cond (decide (0 ≤ q2) && decide (q2 < ((q0).length : Int))) ((nth q0 (Int.toNat q2)).bind fun x5 =>
  cond (decide (0 ≤ q1) && decide (q1 < ((q0).length : Int))) ((nth q0 (Int.toNat q1)).bind fun x6 =>
  cond (decide (0 ≤ q1) && decide (q1 < ((q0).length : Int))) ((nth q0 (Int.toNat q1)).bind fun x7 =>
  cond (decide (0 ≤ q2) && decide (q2 < (((q0).set (Int.toNat q1) x5).length : Int))) ((nth ((q0).set (Int.toNat q1) x5) (Int.toNat q2)).bind fun x8 =>
  slices_Reverse_lint.l0 n (((q0).set (Int.toNat q1) x5).set (Int.toNat q2) x6) (IntKind.i64.wrap (q1 + (1 : Int))) (IntKind.i64.wrap (q2 - (1 : Int)))) none) none) none) none)
  (some (q0, ()))
def slices_Reverse_lint (k : Nat) (a0 : List Int) : Option ((List Int) × Unit) :=
  (slices_Reverse_lint.l0 k a0 (0 : Int) (IntKind.i64.wrap (((a0).length : Int) - (1 : Int)))).bind fun o9 =>
  some (o9.1, ())
def types_line.l0 (q1 : ad) : Nat → Int → (List Int) → Option ((List Int) × Unit)
 | 0, _, _ => none
 | n + 1, q0, q2 =>
  cond (decide (q0 ≥ (0 : Int)))
  (cond (bX ((q2).length + ([q0]).length)) ((aB q1.nodes q0).bind fun x2 =>
  types_line.l0 q1 n x2.parent (q2 ++ [q0])) none)
  (some (q2, ()))
def types_line (k : Nat) (a0 : ad) (a1 : Int) : Option ((List Int) × Unit) :=
  (types_line.l0 a0 k a1 ([] : List Int)).bind fun o3 =>
  (slices_Reverse_lint k o3.1).bind fun r4 =>
  some (r4.1, ())
def iF (k : Nat) (a0 : ad) (a1 : Int) (a2 : Int) : Option (Bool × Unit) :=
  (types_line k a0 a1).bind fun r1 =>
  (bA r1.1 a2).bind fun r2 =>
  some (r2.1, ())
def gH (k : Nat) (a0 : ad) (a1 : Int) (a2 : Int) (a3 : Int) : Option (Bool × Unit) :=
  ((eK k a0 [a2, a3]).bind fun r1 =>
  cond (r1.1 != (0 : Int)) (some (true, ())) (cond (decide (a1 < (0 : Int))) (some (true, ())) (some ((decide (a1 ≥ (a0.edges.length : Int))), ())))).bind fun b2 =>
  cond b2.1
  (some (false, ()))
  (((aB a0.edges a1).bind fun x3 =>
  (iF k a0 a2 x3.frm).bind fun r4 =>
  cond r4.1 ((aB a0.edges a1).bind fun x5 =>
  (iF k a0 a3 x5.to).bind fun r6 =>
  some (r6.1, ())) (some (false, ()))).bind fun b7 =>
  some (b7.1, ()))
def ez (a0 : Int) (a1 : ad) (a2 : ag) : Option Bool :=
  (aB a2.nodes a0).bind fun x1 =>
  (aB a1.nodes x1).bind fun x2 =>
  some x2.abstract
def ev (k : Nat) (a0 : Int) (a1 : ag) (a2 : ad) : Option Bool :=
  (aB a1.edges a0).bind fun x1 =>
  (aB a1.nodes x1.frm).bind fun x2 =>
  (aB a1.nodes x1.to).bind fun x3 =>
  (gH k a2 x1.typ x2 x3).bind fun r4 =>
  some (!r4.1)
def fi (k : Nat) (a0 : ad) (a1 : ag) (a2 : List Int) (a3 : List Int) : Option (Bool × Unit) :=
  ((am a2 (fun z1 => ez z1.1 a0 a1)).bind fun r2 =>
  cond (!r2.1) ((am a3 (fun z3 => ev k z3.1 a1 a0)).bind fun r4 =>
  some ((!r4.1), ())) (some (false, ()))).bind fun b5 =>
  some (b5.1, ())
def cE (a0 : af) : Option (Bool × Unit) :=
  (cond ((IntKind.i64.wrap ((IntKind.i64.wrap ((IntKind.i64.wrap ((IntKind.i64.wrap ((IntKind.i64.wrap ((a0.map.nodes.length : Int) + (a0.map.edges.length : Int))) + (a0.pattern.graph.nodes.length : Int))) + (a0.pattern.graph.edges.length : Int))) + (a0.pattern.slots.length : Int))) + (a0.pattern.tests.length : Int))) == (0 : Int)) (some ((a0.pattern.vars == (0 : Int)), ())) (some (false, ()))).bind fun b1 =>
  some (b1.1, ())
def api_Condition_282.l0 (q0 : List af) (q1 : (af × Unit) → Option Bool) (q2 : Int) : Nat → Int → Option (Sum Unit (Int × Unit))
 | 0, _ => none
 | n + 1, q3 =>
  cond (decide (q3 < q2))
  ((aB q0 q3).bind fun x3 =>
  (q1 (x3, ())).bind fun r4 =>
  cond r4
  (some (Sum.inr (q3, ())))
  (api_Condition_282.l0 q0 q1 q2 n (IntKind.i64.wrap (q3 + (1 : Int)))))
  (some (Sum.inl (())))
def api_Condition_282 (a0 : List af) (a1 : (af × Unit) → Option Bool) : Option (Int × Unit) :=
  (api_Condition_282.l0 a0 a1 (a0.length : Int) (Int.toNat (a0.length : Int) + 1) (0 : Int)).bind fun o5 =>
  aJ o5
  (fun y6 => some ((-1 : Int), ()))
  (fun z7 => some (z7.1, ()))
def bz (a0 : List af) (a1 : (af × Unit) → Option Bool) : Option (Bool × Unit) :=
  (api_Condition_282 a0 a1).bind fun r1 =>
  some ((decide (r1.1 ≥ (0 : Int))), ())
def aG (rec_ : af → Option (Bool × Unit)) (a0 : af) : Option Bool :=
  (rec_ a0).bind fun r1 =>
  some (!r1.1)
def aq : Nat → af → Option (Bool × Unit)
 | 0, _ => none
 | k + 1, a0 =>
  cond (a0.kind == (1 : Int))
  ((cond ((a0.kids.length : Int) == (0 : Int)) ((cE a0).bind fun r1 =>
  some (r1.1, ())) (some (false, ()))).bind fun b2 =>
  (cond b2.1 ((bz a0.kids (fun z3 => aG (aq k) z3.1)).bind fun r4 =>
  some ((!r4.1), ())) (some (false, ()))).bind fun b5 =>
  some (b5.1, ()))
  (cond (a0.kind == (2 : Int))
  ((cond ((a0.kids.length : Int) == (1 : Int)) ((cE a0).bind fun r6 =>
  some (r6.1, ())) (some (false, ()))).bind fun b7 =>
  (cond b7.1 ((bz a0.kids (fun z8 => aG (aq k) z8.1)).bind fun r9 =>
  some ((!r9.1), ())) (some (false, ()))).bind fun b10 =>
  some (b10.1, ()))
  (cond (a0.kind == (3 : Int))
  (cond (a0.kind == (3 : Int))
  ((cond (decide ((a0.kids.length : Int) ≥ (1 : Int))) ((cE a0).bind fun r11 =>
  some (r11.1, ())) (some (false, ()))).bind fun b12 =>
  (cond b12.1 ((bz a0.kids (fun z13 => aG (aq k) z13.1)).bind fun r14 =>
  some ((!r14.1), ())) (some (false, ()))).bind fun b15 =>
  some (b15.1, ()))
  (cond (a0.kind == (5 : Int))
  ((cond ((a0.kids.length : Int) == (1 : Int)) ((bz a0.kids (fun z16 => aG (aq k) z16.1)).bind fun r17 =>
  some ((!r17.1), ())) (some (false, ()))).bind fun b18 =>
  some (b18.1, ()))
  ((some (false, ())).bind fun b19 =>
  some (b19.1, ()))))
  (cond (a0.kind == (4 : Int))
  ((cond (decide ((a0.kids.length : Int) ≥ (1 : Int))) ((cE a0).bind fun r20 =>
  some (r20.1, ())) (some (false, ()))).bind fun b21 =>
  (cond b21.1 ((bz a0.kids (fun z22 => aG (aq k) z22.1)).bind fun r23 =>
  some ((!r23.1), ())) (some (false, ()))).bind fun b24 =>
  some (b24.1, ()))
  (cond (a0.kind == (5 : Int))
  ((cond ((a0.kids.length : Int) == (1 : Int)) ((bz a0.kids (fun z25 => aG (aq k) z25.1)).bind fun r26 =>
  some ((!r26.1), ())) (some (false, ()))).bind fun b27 =>
  some (b27.1, ()))
  ((some (false, ())).bind fun b28 =>
  some (b28.1, ()))))))
def condition_measure.l0 (rec_ : af → Option (Int × (Int × Unit))) (q0 : af) (q3 : List af) (q4 : Int) : Nat → Int → Int → Int → Option (af × (Int × (Int × Unit)))
 | 0, _, _, _ => none
 | n + 1, q1, q2, q5 =>
  cond (decide (q5 < q4))
  ((aB q3 q5).bind fun x5 =>
  (rec_ x5).bind fun r6 =>
  condition_measure.l0 rec_ q0 q3 q4 n (IntKind.i64.wrap (q1 + r6.1)) (fF q2 r6.2.1) (IntKind.i64.wrap (q5 + (1 : Int))))
  (some (q0, q1, q2, ()))
def condition_measure : Nat → af → Option (Int × (Int × Unit))
 | 0, _ => none
 | k + 1, a0 =>
  (condition_measure.l0 (condition_measure k) a0 a0.kids (a0.kids.length : Int) (Int.toNat (a0.kids.length : Int) + 1) (1 : Int) (0 : Int) (0 : Int)).bind fun o7 =>
  cond (o7.1.kind == (5 : Int))
  (some (o7.2.1, IntKind.i64.wrap (o7.2.2.1 + (1 : Int)), ()))
  (some (o7.2.1, o7.2.2.1, ()))
def dG (k : Nat) (a0 : af) : Option (Int × Unit) :=
  (aq k a0).bind fun r1 =>
  cond (!r1.1)
  (some ((1 : Int), ()))
  ((condition_measure k a0).bind fun r2 =>
  (cond (decide (r2.1 > (12 : Int))) (some (true, ())) (some ((decide (r2.2.1 > (3 : Int))), ()))).bind fun b3 =>
  cond b3.1
  (some ((3 : Int), ()))
  (some ((0 : Int), ())))
def dg (a0 : dR) (a1 : Int) : Option Bool :=
  some (a0.term.var == a1)
def condition_pattern.l0 (q0 : ai) (q1 : Int) : Nat → Int → Option (Sum Unit (Int × Unit))
 | 0, _ => none
 | n + 1, q2 =>
  cond (decide (q2 < q0.vars))
  ((eO q0.slots (fun z4 => dg z4.1 q2)).bind fun r5 =>
  cond (!r5.1)
  (some (Sum.inr (q1, ())))
  (condition_pattern.l0 q0 q1 n (IntKind.i64.wrap (q2 + (1 : Int)))))
  (some (Sum.inl (())))
def condition_pattern (k : Nat) (a0 : ad) (a1 : ai) (a2 : Int) : Option (Int × Unit) :=
  (attribute_Valid k a0 a1).bind fun r1 =>
  cond (r1.1 != (9 : Int))
  (some (r1.1, ()))
  ((condition_pattern.l0 a1 r1.1 k a2).bind fun o6 =>
  aJ o6
  (fun y7 => some ((0 : Int), ()))
  (fun z8 => some (z8.1, ())))
def condition_inside.l0 (rec_ : ad → ai → af → Option (Int × Unit)) (q0 : ad) (q1 : ai) (q2 : List af) (q3 : Int) : Nat → Int → Option (Sum Unit (Int × Unit))
 | 0, _ => none
 | n + 1, q4 =>
  cond (decide (q4 < q3))
  ((aB q2 q4).bind fun x8 =>
  (rec_ q0 q1 x8).bind fun r9 =>
  cond (r9.1 != (0 : Int))
  (some (Sum.inr (r9.1, ())))
  (condition_inside.l0 rec_ q0 q1 q2 q3 n (IntKind.i64.wrap (q4 + (1 : Int)))))
  (some (Sum.inl (())))
def condition_inside : Nat → ad → ai → af → Option (Int × Unit)
 | 0, _, _, _ => none
 | k + 1, a0, a1, a2 =>
  cond (a2.kind == (5 : Int))
  (cond (decide (a2.pattern.vars < a1.vars))
  (some ((20 : Int), ()))
  ((condition_pattern k a0 a2.pattern a1.vars).bind fun r1 =>
  cond (r1.1 != (0 : Int))
  (some (r1.1, ()))
  ((morphism_Valid a1.graph a2.pattern.graph a2.map).bind fun r2 =>
  cond (r2.1 != (0 : Int))
  (some (r2.1, ()))
  ((bN k a1.graph a2.pattern.graph a2.map).bind fun r3 =>
  cond (!r3.1)
  (some ((1 : Int), ()))
  ((condition_inside.l0 (condition_inside k) a0 a2.pattern a2.kids (a2.kids.length : Int) (Int.toNat (a2.kids.length : Int) + 1) (0 : Int)).bind fun o10 =>
  aJ o10
  (fun y11 => some ((0 : Int), ()))
  (fun z12 => some (z12.1, ())))))))
  ((condition_inside.l0 (condition_inside k) a0 a1 a2.kids (a2.kids.length : Int) (Int.toNat (a2.kids.length : Int) + 1) (0 : Int)).bind fun o13 =>
  aJ o13
  (fun y14 => some ((0 : Int), ()))
  (fun z15 => some (z15.1, ())))
def dF (k : Nat) (a0 : ad) (a1 : ai) (a2 : af) : Option (Int × Unit) :=
  (attribute_Valid k a0 a1).bind fun r1 =>
  cond (r1.1 != (0 : Int))
  (some (r1.1, ()))
  ((dG k a2).bind fun r2 =>
  cond (r2.1 != (0 : Int))
  (some (r2.1, ()))
  ((condition_inside k a0 a1 a2).bind fun r3 =>
  some (r3.1, ())))
def fc (k : Nat) (a0 : ad) (a1 : aC) : Option (Int × Unit) :=
  (types_Valid k a0).bind fun r1 =>
  cond (r1.2.1 != (0 : Int))
  (some (r1.2.1, ()))
  ((bJ k a1.name).bind fun r2 =>
  cond (!r2.1)
  (some ((2 : Int), ()))
  ((attribute_Valid k a0 a1.left).bind fun r3 =>
  cond (r3.1 != (0 : Int))
  (some (r3.1, ()))
  ((rule_right k a0 a1).bind fun r4 =>
  cond (r4.1 != (0 : Int))
  (some (r4.1, ()))
  ((ip k a1).bind fun r5 =>
  cond (r5.1 != (0 : Int))
  (some (r5.1, ()))
  ((dK a1).bind fun r6 =>
  (fi k a0 a1.right.graph r6.1 r6.2.1).bind fun r7 =>
  cond (!r7.1)
  (some ((13 : Int), ()))
  ((dF k a0 a1.left a1.condition).bind fun r8 =>
  some (r8.1, ())))))))
def fq (a0 : aC) : Option ((List Int) × ((List Int) × Unit)) :=
  (rule_others a0.keep.nodes (a0.left.graph.nodes.length : Int)).bind fun r1 =>
  (rule_others a0.keep.edges (a0.left.graph.edges.length : Int)).bind fun r2 =>
  some (r1.1, r2.1, ())
def fm (k : Nat) (a0 : ad) (a1 : aC) : Option ((List Int) × ((List Int) × (Int × Unit))) :=
  (fc k a0 a1).bind fun r1 =>
  cond (r1.1 != (0 : Int))
  (some (([] : List Int), ([] : List Int), r1.1, ()))
  ((fq a1).bind fun r2 =>
  some (r2.1, r2.2.1, (0 : Int), ()))
def fu (k : Nat) (a0 : ad) (a1 : aC) : Option ((List Int) × ((List Int) × (Int × Unit))) :=
  (fc k a0 a1).bind fun r1 =>
  cond (r1.1 != (0 : Int))
  (some (([] : List Int), ([] : List Int), r1.1, ()))
  ((dK a1).bind fun r2 =>
  some (r2.1, r2.2.1, (0 : Int), ()))
def layering_places.l0 (q0 : List Int) (q1 : ad) (q2 : ag) (q4 : List Int) (q5 : Int) : Nat → (List Int) → Int → Option ((List Int) × (ad × (ag × ((List Int) × Unit))))
 | 0, _, _ => none
 | n + 1, q3, q6 =>
  cond (decide (q6 < q5))
  ((aB q4 q6).bind fun x3 =>
  (aB q2.nodes x3).bind fun x4 =>
  cond (bX ((q3).length + ([x4]).length)) (layering_places.l0 q0 q1 q2 q4 q5 n (q3 ++ [x4]) (IntKind.i64.wrap (q6 + (1 : Int)))) none)
  (some (q0, q1, q2, q3, ()))
def layering_places.l2 (q0 : ad) (q1 : ag) (q3 : List Int) (q4 : Int) : Nat → (List Int) → Int → Option ((List Int) × Unit)
 | 0, _, _ => none
 | n + 1, q2, q5 =>
  cond (decide (q5 < q4))
  ((aB q3 q5).bind fun x8 =>
  (aB q1.edges x8).bind fun x9 =>
  cond (bX ((q2).length + ([IntKind.i64.wrap ((q0.nodes.length : Int) + x9.typ)]).length)) (layering_places.l2 q0 q1 q3 q4 n (q2 ++ [IntKind.i64.wrap ((q0.nodes.length : Int) + x9.typ)]) (IntKind.i64.wrap (q5 + (1 : Int)))) none)
  (some (q2, ()))
def layering_places (k : Nat) (a0 : ad) (a1 : ag) (a2 : List Int) (a3 : List Int) : Option ((List Int) × Unit) :=
  (layering_places.l0 a3 a0 a1 a2 (a2.length : Int) (Int.toNat (a2.length : Int) + 1) ([] : List Int) (0 : Int)).bind fun o5 =>
  (layering_places.l2 o5.2.1 o5.2.2.1 o5.1 (o5.1.length : Int) (Int.toNat (o5.1.length : Int) + 1) o5.2.2.2.1 (0 : Int)).bind fun o10 =>
  (slices_Sort_int o10.1).bind fun r11 =>
  (slices_Compact_lint k r11.1).bind fun r12 =>
  cond (decide ((Int.toNat r12.2.1.1) ≤ (Int.toNat r12.2.1.2)) && decide ((Int.toNat r12.2.1.2) ≤ (r12.1).length)) (some (slc r12.1 (Int.toNat r12.2.1.1) (Int.toNat r12.2.1.2), ())) none
def eW (a0 : aZ) (a1 : aC) (a2 : Int) : Option Bool :=
  (aB a1.left.graph.nodes a2).bind fun x1 =>
  some (a0.parent == x1)
def layering_of.l0 (q0 : ad) (q1 : aC) (q2 : List Int) (q3 : List Int) (q4 : List Int) (q5 : List Int) (q6 : Int) : Nat → Int → Option (Sum (ad × (aC × (((List Int) × ((List Int) × Unit)) × ((List Int) × ((List Int) × Unit))))) (((List Int) × ((List Int) × Unit)) × (Int × Unit)))
 | 0, _ => none
 | n + 1, q7 =>
  cond (decide (q7 < q6))
  (cond (decide (0 ≤ q7) && decide (q7 < ((q4).length : Int))) ((nth q4 (Int.toNat q7)).bind fun x5 =>
  (da q0.nodes (fun z6 => eW z6.1 q1 x5)).bind fun r7 =>
  cond r7.1
  (some (Sum.inr ((([] : List Int), ([] : List Int), ()), (13 : Int), ())))
  (layering_of.l0 q0 q1 q2 q3 q4 q5 q6 n (IntKind.i64.wrap (q7 + (1 : Int))))) none)
  (some (Sum.inl (q0, q1, (q2, q3, ()), q4, q5, ())))
def layering_of (k : Nat) (a0 : ad) (a1 : aC) : Option (a8 × (Int × Unit)) :=
  (fm k a0 a1).bind fun r1 =>
  cond (r1.2.2.1 != (0 : Int))
  (some ((⟨([] : List Int), ([] : List Int)⟩ : a8), r1.2.2.1, ()))
  ((layering_of.l0 a0 a1 ([] : List Int) ([] : List Int) r1.1 r1.2.1 ((r1.1).length : Int) (Int.toNat ((r1.1).length : Int) + 1) (0 : Int)).bind fun o8 =>
  aJ o8
  (fun y9 => (fu k y9.1 y9.2.1).bind fun r11 =>
  (layering_places k y9.1 y9.2.1.left.graph y9.2.2.2.1 y9.2.2.2.2.1).bind fun r12 =>
  (layering_places k y9.1 y9.2.1.right.graph r11.1 r11.2.1).bind fun r13 =>
  some ((⟨r12.1, r13.1⟩ : a8), (0 : Int), ()))
  (fun z10 => some ((⟨z10.1.1, z10.1.2.1⟩ : a8), z10.2.1, ())))
def layering_given.l0 (k : Nat) (q0 : ad) (q2 : List aC) (q3 : Int) : Nat → (List a8) → Int → Option (Sum ((List a8) × Unit) ((List a8) × (Int × Unit)))
 | 0, _, _ => none
 | n + 1, q1, q4 =>
  cond (decide (q4 < q3))
  ((aB q2 q4).bind fun x6 =>
  (layering_of k q0 x6).bind fun r7 =>
  cond (r7.2.1 != (0 : Int))
  (some (Sum.inr (([] : List a8), r7.2.1, ())))
  (cond (bX ((q1).length + ([r7.1]).length)) (layering_given.l0 k q0 q2 q3 n (q1 ++ [r7.1]) (IntKind.i64.wrap (q4 + (1 : Int)))) none))
  (some (Sum.inl (q1, ())))
def layering_given (k : Nat) (a0 : ad) (a1 : List aC) : Option ((List a8) × (Int × Unit)) :=
  (types_Valid k a0).bind fun r1 =>
  cond (r1.2.1 != (0 : Int))
  (some (([] : List a8), r1.2.1, ()))
  (cond (decide ((a1.length : Int) > (6 : Int)))
  (some (([] : List a8), (3 : Int), ()))
  ((layering_given.l0 k a0 a1 (a1.length : Int) (Int.toNat (a1.length : Int) + 1) ([] : List a8) (0 : Int)).bind fun o8 =>
  aJ o8
  (fun y9 => some (y9.1, (0 : Int), ()))
  (fun z10 => some (z10.1, z10.2.1, ()))))
def layering_effect_30.l0 (q0 : List a8) (q1 : (a8 × Unit) → Option Bool) (q2 : Int) : Nat → Int → Option (Sum Unit (Int × Unit))
 | 0, _ => none
 | n + 1, q3 =>
  cond (decide (q3 < q2))
  ((aB q0 q3).bind fun x3 =>
  (q1 (x3, ())).bind fun r4 =>
  cond r4
  (some (Sum.inr (q3, ())))
  (layering_effect_30.l0 q0 q1 q2 n (IntKind.i64.wrap (q3 + (1 : Int)))))
  (some (Sum.inl (())))
def layering_effect_30 (a0 : List a8) (a1 : (a8 × Unit) → Option Bool) : Option (Int × Unit) :=
  (layering_effect_30.l0 a0 a1 (a0.length : Int) (Int.toNat (a0.length : Int) + 1) (0 : Int)).bind fun o5 =>
  aJ o5
  (fun y6 => some ((-1 : Int), ()))
  (fun z7 => some (z7.1, ()))
def kH (a0 : Int) (a1 : Int) : Option (Int × (Int × Unit)) :=
  cond (decide (0 ≤ (32 : Int))) (some (IntKind.u32.wrap (Int.fdiv (IntKind.u64.wrap ((IntKind.u64.wrap a0) * (IntKind.u64.wrap a1))) (2 ^ (min (Int.toNat (32 : Int)) (IntKind.bits .u64)))), IntKind.u32.wrap (IntKind.u64.wrap ((IntKind.u64.wrap a0) * (IntKind.u64.wrap a1))), ())) none
def jC (a0 : Int) (a1 : Int) : Option (Int × (Int × Unit)) :=
  cond (decide (0 ≤ (32 : Int))) (cond (decide (0 ≤ (32 : Int))) (cond (decide (0 ≤ (32 : Int))) (cond (decide (0 ≤ (32 : Int))) (cond (decide (0 ≤ (32 : Int))) (some (IntKind.u64.wrap ((IntKind.u64.wrap ((IntKind.u64.wrap ((Int.fdiv a0 (2 ^ (min (Int.toNat (32 : Int)) (IntKind.bits .u64)))) * (Int.fdiv a1 (2 ^ (min (Int.toNat (32 : Int)) (IntKind.bits .u64)))))) + (Int.fdiv (IntKind.u64.wrap ((IntKind.u64.wrap ((Int.fdiv a0 (2 ^ (min (Int.toNat (32 : Int)) (IntKind.bits .u64)))) * (bits (fun _ a b => a &&& b) .u64 a1 (4294967295 : Int)))) + (Int.fdiv (IntKind.u64.wrap ((bits (fun _ a b => a &&& b) .u64 a0 (4294967295 : Int)) * (bits (fun _ a b => a &&& b) .u64 a1 (4294967295 : Int)))) (2 ^ (min (Int.toNat (32 : Int)) (IntKind.bits .u64)))))) (2 ^ (min (Int.toNat (32 : Int)) (IntKind.bits .u64)))))) + (Int.fdiv (IntKind.u64.wrap ((bits (fun _ a b => a &&& b) .u64 (IntKind.u64.wrap ((IntKind.u64.wrap ((Int.fdiv a0 (2 ^ (min (Int.toNat (32 : Int)) (IntKind.bits .u64)))) * (bits (fun _ a b => a &&& b) .u64 a1 (4294967295 : Int)))) + (Int.fdiv (IntKind.u64.wrap ((bits (fun _ a b => a &&& b) .u64 a0 (4294967295 : Int)) * (bits (fun _ a b => a &&& b) .u64 a1 (4294967295 : Int)))) (2 ^ (min (Int.toNat (32 : Int)) (IntKind.bits .u64)))))) (4294967295 : Int)) + (IntKind.u64.wrap ((bits (fun _ a b => a &&& b) .u64 a0 (4294967295 : Int)) * (Int.fdiv a1 (2 ^ (min (Int.toNat (32 : Int)) (IntKind.bits .u64)))))))) (2 ^ (min (Int.toNat (32 : Int)) (IntKind.bits .u64))))), IntKind.u64.wrap (a0 * a1), ())) none) none) none) none) none
def jX (a0 : Int) (a1 : Int) : Option (Int × (Int × Unit)) :=
  (jC a0 a1).bind fun r1 =>
  some (r1.1, r1.2.1, ())
def slices_Repeat_lint.l0  : Nat → (List Int) → Int → Option ((List Int) × Unit)
 | 0, _, _ => none
 | n + 1, q0, q1 =>
  cond (decide (q1 < ((q0).length : Int)))
  (cond (decide (0 ≤ q1) && decide (q1 ≤ ((q0).length : Int)) && decide (((q0).length : Int) ≤ ((q0).length : Int))) (cond (decide (0 ≤ (0 : Int)) && decide ((0 : Int) ≤ q1) && decide (q1 ≤ ((q0).length : Int))) (cond (decide (0 ≤ (Int.toNat q1)) && decide ((Int.toNat q1) ≤ (q0).length)) (cond (decide ((Int.toNat q1) ≤ (Int.toNat ((q0).length : Int))) && decide ((Int.toNat ((q0).length : Int)) ≤ (q0).length)) (slices_Repeat_lint.l0 n (nu q0 (Int.toNat q1) ((slc q0 0 (Int.toNat q1)).take ((Int.toNat ((q0).length : Int)) - (Int.toNat q1)))) (IntKind.i64.wrap (q1 + ((min (slc q0 0 (Int.toNat q1)).length ((Int.toNat ((q0).length : Int)) - (Int.toNat q1)) : Nat) : Int)))) none) none) none) none)
  (some (q0, ()))
def slices_Repeat_lint (k : Nat) (a0 : List Int) (a1 : Int) : Option ((List Int) × Unit) :=
  cond (decide (a1 < (0 : Int)))
  (none)
  ((jX (IntKind.u64.wrap (a0.length : Int)) (IntKind.u64.wrap a1)).bind fun r1 =>
  (cond (decide (r1.1 > (0 : Int))) (some (true, ())) (some ((decide (r1.2.1 > (9223372036854775807 : Int))), ()))).bind fun b2 =>
  cond b2.1
  (none)
  (cond (decide (0 ≤ IntKind.i64.wrap r1.2.1) && decide (IntKind.i64.wrap r1.2.1 ≤ IntKind.i64.wrap r1.2.1) && bX (Int.toNat (IntKind.i64.wrap r1.2.1))) ((slices_Repeat_lint.l0 k (nu (List.replicate (Int.toNat (IntKind.i64.wrap r1.2.1)) (0 : Int)) 0 ((a0).take (List.replicate (Int.toNat (IntKind.i64.wrap r1.2.1)) (0 : Int)).length)) ((min (a0).length (List.replicate (Int.toNat (IntKind.i64.wrap r1.2.1)) (0 : Int)).length : Nat) : Int)).bind fun o3 =>
  some (o3.1, ())) none))
def layering_distances.l2 (q0 : List ae) (q3 : List ae) (q4 : Int) : Nat → (List Int) → (List Int) → Int → Option ((List ae) × ((List Int) × ((List Int) × Unit)))
 | 0, _, _, _ => none
 | n + 1, q1, q2, q5 =>
  cond (decide (q5 < q4))
  ((aB q3 q5).bind fun x10 =>
  (cond (decide (0 ≤ (0 : Int)) && decide ((0 : Int) < ((q2).length : Int))) ((nth q2 0).bind fun x11 =>
  cond (x10.to == x11) (cond (decide (0 ≤ x10.frm) && decide (x10.frm < ((q1).length : Int))) ((nth q1 (Int.toNat x10.frm)).bind fun x12 =>
  some ((decide (x12 < (0 : Int))), ())) none) (some (false, ()))) none).bind fun b13 =>
  cond b13.1
  (cond (decide (0 ≤ (0 : Int)) && decide ((0 : Int) < ((q2).length : Int))) ((nth q2 0).bind fun x14 =>
  cond (decide (0 ≤ x14) && decide (x14 < ((q1).length : Int))) ((nth q1 (Int.toNat x14)).bind fun x15 =>
  cond (decide (0 ≤ x10.frm) && decide (x10.frm < ((q1).length : Int))) ((nth q1 (Int.toNat x10.frm)).bind fun x16 =>
  cond (bX ((q2).length + ([x10.frm]).length)) (layering_distances.l2 q0 q3 q4 n ((q1).set (Int.toNat x10.frm) (IntKind.i64.wrap (x15 + (1 : Int)))) (q2 ++ [x10.frm]) (IntKind.i64.wrap (q5 + (1 : Int)))) none) none) none) none)
  (layering_distances.l2 q0 q3 q4 n q1 q2 (IntKind.i64.wrap (q5 + (1 : Int)))))
  (some (q0, q1, q2, ()))
def layering_distances.l0  : Nat → (List ae) → (List Int) → (List Int) → Option ((List Int) × Unit)
 | 0, _, _, _ => none
 | n + 1, q0, q1, q2 =>
  cond (decide (((q2).length : Int) > (0 : Int)))
  ((layering_distances.l2 q0 q0 (q0.length : Int) (Int.toNat (q0.length : Int) + 1) q1 q2 (0 : Int)).bind fun o18 =>
  cond (decide (0 ≤ (1 : Int)) && decide ((1 : Int) ≤ ((o18.2.2.1).length : Int)) && decide (((o18.2.2.1).length : Int) ≤ ((o18.2.2.1).length : Int))) (cond (decide (1 ≤ (Int.toNat ((o18.2.2.1).length : Int))) && decide ((Int.toNat ((o18.2.2.1).length : Int)) ≤ (o18.2.2.1).length)) (layering_distances.l0 n o18.1 o18.2.1 (slc o18.2.2.1 1 (Int.toNat ((o18.2.2.1).length : Int)))) none) none)
  (some (q1, ()))
def layering_distances (k : Nat) (a0 : List ae) (a1 : Int) (a2 : Int) : Option ((List Int) × Unit) :=
  (slices_Repeat_lint k [(-1 : Int)] a2).bind fun r1 =>
  cond (decide (0 ≤ a1) && decide (a1 < ((r1.1).length : Int))) ((nth r1.1 (Int.toNat a1)).bind fun x2 =>
  (layering_distances.l0 k a0 ((r1.1).set (Int.toNat a1) (0 : Int)) [a1]).bind fun o19 =>
  some (o19.1, ())) none
def api_Demand_61.l0 (q0 : List ae) (q1 : (ae × Unit) → Option Bool) (q2 : Int) : Nat → Int → Option (Sum Unit (Int × Unit))
 | 0, _ => none
 | n + 1, q3 =>
  cond (decide (q3 < q2))
  ((aB q0 q3).bind fun x3 =>
  (q1 (x3, ())).bind fun r4 =>
  cond r4
  (some (Sum.inr (q3, ())))
  (api_Demand_61.l0 q0 q1 q2 n (IntKind.i64.wrap (q3 + (1 : Int)))))
  (some (Sum.inl (())))
def api_Demand_61 (a0 : List ae) (a1 : (ae × Unit) → Option Bool) : Option (Int × Unit) :=
  (api_Demand_61.l0 a0 a1 (a0.length : Int) (Int.toNat (a0.length : Int) + 1) (0 : Int)).bind fun o5 =>
  aJ o5
  (fun y6 => some ((-1 : Int), ()))
  (fun z7 => some (z7.1, ()))
def cH (a0 : ae) (a1 : Int) (a2 : List Int) : Option Bool :=
  (cond (a0.frm == a1) ((aB a2 a0.to).bind fun x1 =>
  cond (decide (x1 ≥ (0 : Int))) ((aB a2 a0.to).bind fun x2 =>
  (aB a2 a1).bind fun x3 =>
  some ((x2 == (IntKind.i64.wrap (x3 - (1 : Int)))), ())) (some (false, ()))) (some (false, ()))).bind fun b4 =>
  some b4.1
def layering_circle.l2 (q0 : List ae) (q1 : Int) (q3 : ae) (q4 : List Int) (q6 : List ae) (q7 : Int) (q8 : Int) : Nat → (List ae) → Int → Option ((List ae) × (Int × ((List ae) × ((List ae) × (Int × (Int × Unit))))))
 | 0, _, _ => none
 | n + 1, q2, q5 =>
  cond (q5 != q3.frm)
  ((api_Demand_61 q0 (fun z10 => cH z10.1 q5 q4)).bind fun r11 =>
  (aB q0 r11.1).bind fun x12 =>
  cond (bX ((q2).length + ([x12]).length)) ((aB q0 r11.1).bind fun x13 =>
  layering_circle.l2 q0 q1 q3 q4 q6 q7 q8 n (q2 ++ [x12]) x13.to) none)
  (some (q0, q1, q2, q6, q7, q8, ()))
def layering_circle.l0 (k : Nat)  : Nat → (List ae) → Int → (List ae) → (List ae) → Int → Int → Option ((List ae) × Unit)
 | 0, _, _, _, _, _, _ => none
 | n + 1, q0, q1, q2, q3, q4, q5 =>
  cond (decide (q5 < q4))
  ((aB q3 q5).bind fun x21 =>
  (layering_distances k q0 x21.frm q1).bind fun r22 =>
  (cond (decide (0 ≤ x21.to) && decide (x21.to < ((r22.1).length : Int))) ((nth r22.1 (Int.toNat x21.to)).bind fun x23 =>
  cond (decide (x23 < (0 : Int))) (some (true, ())) (cond (decide (((q2).length : Int) > (0 : Int))) (cond (decide (0 ≤ x21.to) && decide (x21.to < ((r22.1).length : Int))) ((nth r22.1 (Int.toNat x21.to)).bind fun x24 =>
  some ((decide ((IntKind.i64.wrap (x24 + (1 : Int))) ≥ ((q2).length : Int))), ())) none) (some (false, ())))) none).bind fun b25 =>
  cond b25.1
  (layering_circle.l0 k n q0 q1 q2 q3 q4 (IntKind.i64.wrap (q5 + (1 : Int))))
  ((layering_circle.l2 q0 q1 x21 r22.1 q3 q4 q5 k [x21] x21.to).bind fun o26 =>
  layering_circle.l0 k n o26.1 o26.2.1 o26.2.2.1 o26.2.2.2.1 o26.2.2.2.2.1 (IntKind.i64.wrap (o26.2.2.2.2.2.1 + (1 : Int)))))
  (some (q2, ()))
def layering_circle (k : Nat) (a0 : List ae) (a1 : Int) : Option ((List ae) × Unit) :=
  (layering_circle.l0 k k a0 a1 ([] : List ae) a0 (a0.length : Int) (0 : Int)).bind fun o27 =>
  some (o27.1, ())
def layering_demands.l4 (q1 : Int) (q2 : a8) (q3 : Int) (q4 : List a8) (q5 : Int) (q6 : Int) (q7 : List Int) (q8 : Int) (q9 : Int) (q10 : List Int) (q11 : Int) : Nat → (List ae) → Int → Option ((List ae) × (Int × (a8 × ((List a8) × (Int × (Int × ((List Int) × (Int × (Int × Unit)))))))))
 | 0, _, _ => none
 | n + 1, q0, q12 =>
  cond (decide (q12 < q11))
  ((aB q10 q12).bind fun x4 =>
  cond (bX ((q0).length + ([(⟨q1, q3, x4, (1 : Int)⟩ : ae)]).length)) (layering_demands.l4 q1 q2 q3 q4 q5 q6 q7 q8 q9 q10 q11 n (q0 ++ [(⟨q1, q3, x4, (1 : Int)⟩ : ae)]) (IntKind.i64.wrap (q12 + (1 : Int)))) none)
  (some (q0, q1, q2, q4, q5, q6, q7, q8, q9, ()))
def layering_demands.l2  : Nat → (List ae) → Int → a8 → (List a8) → Int → Int → (List Int) → Int → Int → Option ((List ae) × ((List a8) × (Int × (Int × Unit))))
 | 0, _, _, _, _, _, _, _, _, _ => none
 | n + 1, q0, q1, q2, q3, q4, q5, q6, q7, q8 =>
  cond (decide (q8 < q7))
  ((aB q6 q8).bind fun x6 =>
  (layering_demands.l4 q1 q2 x6 q3 q4 q5 q6 q7 q8 q2.creates (q2.creates.length : Int) (Int.toNat (q2.creates.length : Int) + 1) q0 (0 : Int)).bind fun o7 =>
  layering_demands.l2 n o7.1 o7.2.1 o7.2.2.1 o7.2.2.2.1 o7.2.2.2.2.1 o7.2.2.2.2.2.1 o7.2.2.2.2.2.2.1 o7.2.2.2.2.2.2.2.1 (IntKind.i64.wrap (o7.2.2.2.2.2.2.2.2.1 + (1 : Int))))
  (some (q0, q3, q4, q5, ()))
def layering_demands.l0 (k : Nat)  : Nat → (List ae) → (List a8) → Int → Int → Option ((List ae) × Unit)
 | 0, _, _, _, _ => none
 | n + 1, q0, q1, q2, q3 =>
  cond (decide (q3 < q2))
  ((aB q1 q3).bind fun x11 =>
  (layering_demands.l2 k q0 q3 x11 q1 q2 q3 x11.deletes (x11.deletes.length : Int) (0 : Int)).bind fun o12 =>
  layering_demands.l0 k n o12.1 o12.2.1 o12.2.2.1 (IntKind.i64.wrap (o12.2.2.2.1 + (1 : Int))))
  (some (q0, ()))
def layering_demands (k : Nat) (a0 : List a8) : Option ((List ae) × Unit) :=
  (layering_demands.l0 k k ([] : List ae) a0 (a0.length : Int) (0 : Int)).bind fun o13 =>
  some (o13.1, ())
def dM (a0 : a8) : Option Bool :=
  some ((a0.deletes.length : Int) == (0 : Int))
def cK (k : Nat) (a0 : ad) (a1 : List aC) : Option ((List ae) × (Int × Unit)) :=
  (layering_given k a0 a1).bind fun r1 =>
  cond (r1.2.1 != (0 : Int))
  (some (([] : List ae), r1.2.1, ()))
  ((layering_effect_30 r1.1 (fun z2 => dM z2.1)).bind fun r3 =>
  cond (decide (r3.1 ≥ (0 : Int)))
  (some ([(⟨r3.1, (-1 : Int), (-1 : Int), (0 : Int)⟩ : ae)], (0 : Int), ()))
  ((layering_demands k r1.1).bind fun r4 =>
  (layering_circle k r4.1 (IntKind.i64.wrap ((a0.nodes.length : Int) + (a0.edges.length : Int)))).bind fun r5 =>
  cond (((r5.1).length : Int) == (0 : Int))
  (some (([] : List ae), (10 : Int), ()))
  (some (r5.1, (0 : Int), ()))))
def api_Demand_13.l0 (q0 : List ae) (q1 : List ae) (q2 : Int) : Nat → Int → Option (Sum Unit (Bool × Unit))
 | 0, _ => none
 | n + 1, q3 =>
  cond (decide (q3 < q2))
  ((aB q0 q3).bind fun x3 =>
  (aB q1 q3).bind fun x4 =>
  cond (!((x3.rule == x4.rule) && ((x3.frm == x4.frm) && ((x3.to == x4.to) && ((x3.strict == x4.strict) && true)))))
  (some (Sum.inr (false, ())))
  (api_Demand_13.l0 q0 q1 q2 n (IntKind.i64.wrap (q3 + (1 : Int)))))
  (some (Sum.inl (())))
def api_Demand_13 (a0 : List ae) (a1 : List ae) : Option (Bool × Unit) :=
  cond ((a0.length : Int) != (a1.length : Int))
  (some (false, ()))
  ((api_Demand_13.l0 a0 a1 (a0.length : Int) (Int.toNat (a0.length : Int) + 1) (0 : Int)).bind fun o5 =>
  aJ o5
  (fun y6 => some (true, ()))
  (fun z7 => some (z7.1, ())))
def dz (a0 : List a8) (a1 : (a8 × Unit) → Option Bool) : Option (Bool × Unit) :=
  (layering_effect_30 a0 a1).bind fun r1 =>
  some ((decide (r1.1 ≥ (0 : Int))), ())
def eC (a0 : a8) : Option Bool :=
  some ((a0.deletes.length : Int) == (0 : Int))
def layering_least.l4 (q0 : List a8) (q2 : List Int) (q4 : Int) (q5 : a8) (q6 : List a8) (q7 : Int) (q8 : Int) (q9 : List Int) (q10 : Int) : Nat → (List Int) → Bool → Int → Option ((List a8) × ((List Int) × ((List Int) × (Bool × (Int × (a8 × ((List a8) × (Int × (Int × Unit)))))))))
 | 0, _, _, _ => none
 | n + 1, q1, q3, q11 =>
  cond (decide (q11 < q10))
  ((aB q9 q11).bind fun x9 =>
  cond (decide (0 ≤ x9) && decide (x9 < ((q2).length : Int))) ((nth q2 (Int.toNat x9)).bind fun x10 =>
  cond (decide (0 ≤ q4) && decide (q4 < ((q1).length : Int))) ((nth q1 (Int.toNat q4)).bind fun x11 =>
  cond (decide (x10 > x11))
  (cond (decide (0 ≤ x9) && decide (x9 < ((q2).length : Int))) ((nth q2 (Int.toNat x9)).bind fun x12 =>
  cond (decide (0 ≤ q4) && decide (q4 < ((q1).length : Int))) ((nth q1 (Int.toNat q4)).bind fun x13 =>
  layering_least.l4 q0 q2 q4 q5 q6 q7 q8 q9 q10 n ((q1).set (Int.toNat q4) x12) true (IntKind.i64.wrap (q11 + (1 : Int)))) none) none)
  (layering_least.l4 q0 q2 q4 q5 q6 q7 q8 q9 q10 n q1 q3 (IntKind.i64.wrap (q11 + (1 : Int))))) none) none)
  (some (q0, q1, q2, q3, q4, q5, q6, q7, q8, ()))
def layering_least.l6 (q0 : List a8) (q1 : List Int) (q4 : Int) (q5 : List a8) (q6 : Int) (q7 : Int) (q8 : List Int) (q9 : Int) : Nat → (List Int) → Bool → Int → Option ((List a8) × ((List Int) × ((List Int) × (Bool × (Int × ((List a8) × (Int × (Int × Unit))))))))
 | 0, _, _, _ => none
 | n + 1, q2, q3, q10 =>
  cond (decide (q10 < q9))
  ((aB q8 q10).bind fun x20 =>
  cond (decide (0 ≤ x20) && decide (x20 < ((q2).length : Int))) ((nth q2 (Int.toNat x20)).bind fun x21 =>
  cond (decide (0 ≤ q4) && decide (q4 < ((q1).length : Int))) ((nth q1 (Int.toNat q4)).bind fun x22 =>
  cond (decide (x21 ≤ x22))
  (cond (decide (0 ≤ q4) && decide (q4 < ((q1).length : Int))) ((nth q1 (Int.toNat q4)).bind fun x23 =>
  cond (decide (0 ≤ x20) && decide (x20 < ((q2).length : Int))) ((nth q2 (Int.toNat x20)).bind fun x24 =>
  layering_least.l6 q0 q1 q4 q5 q6 q7 q8 q9 n ((q2).set (Int.toNat x20) (IntKind.i64.wrap (x23 + (1 : Int)))) true (IntKind.i64.wrap (q10 + (1 : Int)))) none) none)
  (layering_least.l6 q0 q1 q4 q5 q6 q7 q8 q9 n q2 q3 (IntKind.i64.wrap (q10 + (1 : Int))))) none) none)
  (some (q0, q1, q2, q3, q4, q5, q6, q7, ()))
def layering_least.l2  : Nat → (List a8) → (List Int) → (List Int) → Bool → (List a8) → Int → Int → Option (Sum ((List a8) × ((List Int) × ((List Int) × (Bool × Unit)))) ((List Int) × ((List Int) × (Bool × Unit))))
 | 0, _, _, _, _, _, _, _ => none
 | n + 1, q0, q1, q2, q3, q4, q5, q6 =>
  cond (decide (q6 < q5))
  ((aB q4 q6).bind fun x27 =>
  (layering_least.l4 q0 q2 q6 x27 q4 q5 q6 x27.deletes (x27.deletes.length : Int) (Int.toNat (x27.deletes.length : Int) + 1) q1 q3 (0 : Int)).bind fun o28 =>
  (layering_least.l6 o28.1 o28.2.1 o28.2.2.2.2.1 o28.2.2.2.2.2.2.1 o28.2.2.2.2.2.2.2.1 o28.2.2.2.2.2.2.2.2.1 o28.2.2.2.2.2.1.creates (o28.2.2.2.2.2.1.creates.length : Int) (Int.toNat (o28.2.2.2.2.2.1.creates.length : Int) + 1) o28.2.2.1 o28.2.2.2.1 (0 : Int)).bind fun o29 =>
  cond (decide (0 ≤ o29.2.2.2.2.1) && decide (o29.2.2.2.2.1 < ((o29.2.1).length : Int))) ((nth o29.2.1 (Int.toNat o29.2.2.2.2.1)).bind fun x30 =>
  cond (decide (x30 > (100 : Int)))
  (some (Sum.inr (([] : List Int), ([] : List Int), false, ())))
  (layering_least.l2 n o29.1 o29.2.1 o29.2.2.1 o29.2.2.2.1 o29.2.2.2.2.2.1 o29.2.2.2.2.2.2.1 (IntKind.i64.wrap (o29.2.2.2.2.2.2.2.1 + (1 : Int))))) none)
  (some (Sum.inl (q0, q1, q2, q3, ())))
def layering_least.l0 (k : Nat)  : Nat → (List a8) → (List Int) → (List Int) → Bool → Option (Sum ((List Int) × ((List Int) × Unit)) ((List Int) × ((List Int) × (Bool × Unit))))
 | 0, _, _, _, _ => none
 | n + 1, q0, q1, q2, q3 =>
  cond q3
  ((layering_least.l2 k q0 q1 q2 false q0 (q0.length : Int) (0 : Int)).bind fun o37 =>
  aJ o37
  (fun y38 => layering_least.l0 k n y38.1 y38.2.1 y38.2.2.1 y38.2.2.2.1)
  (fun z39 => some (Sum.inr (z39.1, z39.2.1, z39.2.2.1, ()))))
  (some (Sum.inl (q1, q2, ())))
def layering_least (k : Nat) (a0 : List a8) (a1 : Int) : Option ((List Int) × ((List Int) × (Bool × Unit))) :=
  cond (decide (0 ≤ (a0.length : Int)) && decide ((a0.length : Int) ≤ (a0.length : Int)) && bX (Int.toNat (a0.length : Int))) (cond (decide (0 ≤ a1) && decide (a1 ≤ a1) && bX (Int.toNat a1)) ((dz a0 (fun z1 => eC z1.1)).bind fun r2 =>
  cond r2.1
  (some (([] : List Int), ([] : List Int), false, ()))
  ((layering_least.l0 k k a0 (List.replicate (Int.toNat (a0.length : Int)) (0 : Int)) (List.replicate (Int.toNat a1) (0 : Int)) true).bind fun o40 =>
  aJ o40
  (fun y41 => some (y41.1, y41.2.1, true, ()))
  (fun z42 => some (z42.1, z42.2.1, z42.2.2.1, ())))) none) none
def cQ (k : Nat) (a0 : ad) (a1 : List aC) : Option (((List Int) × ((List Int) × ((List Int) × Unit))) × (Int × Unit)) :=
  (layering_given k a0 a1).bind fun r1 =>
  cond (r1.2.1 != (0 : Int))
  (some ((([] : List Int), ([] : List Int), ([] : List Int), ()), r1.2.1, ()))
  ((layering_least k r1.1 (IntKind.i64.wrap ((a0.nodes.length : Int) + (a0.edges.length : Int)))).bind fun r2 =>
  cond (!r2.2.2.1)
  (some ((([] : List Int), ([] : List Int), ([] : List Int), ()), (10 : Int), ()))
  (cond (decide (0 ≤ (0 : Int)) && decide ((0 : Int) ≤ (a0.nodes.length : Int)) && decide ((a0.nodes.length : Int) ≤ ((r2.2.1).length : Int))) (cond (decide ((a0.nodes.length : Int) ≤ (a0.nodes.length : Int)) && decide ((a0.nodes.length : Int) ≤ ((r2.2.1).length : Int))) (cond (decide (0 ≤ (a0.nodes.length : Int)) && decide ((a0.nodes.length : Int) ≤ ((r2.2.1).length : Int)) && decide (((r2.2.1).length : Int) ≤ ((r2.2.1).length : Int))) (cond (decide (0 ≤ (Int.toNat (a0.nodes.length : Int))) && decide ((Int.toNat (a0.nodes.length : Int)) ≤ (r2.2.1).length)) (cond (decide ((Int.toNat (a0.nodes.length : Int)) ≤ (Int.toNat ((r2.2.1).length : Int))) && decide ((Int.toNat ((r2.2.1).length : Int)) ≤ (r2.2.1).length)) (some ((r2.1, slc r2.2.1 0 (Int.toNat (a0.nodes.length : Int)), slc r2.2.1 (Int.toNat (a0.nodes.length : Int)) (Int.toNat ((r2.2.1).length : Int)), ()), (0 : Int), ())) none) none) none) none) none))
def cV  : Option (((List aZ) × ((List bk) × Unit)) × Unit) :=
  some (([(⟨(⟨#[65, 99, 99, 111, 117, 110, 116]⟩ : ByteArray), (-1 : Int), true, [(⟨(⟨#[98, 97, 108, 97, 110, 99, 101]⟩ : ByteArray), (-1000 : Int), (1000 : Int), ([] : List ByteArray)⟩ : bQ)]⟩ : aZ), (⟨(⟨#[67, 97, 115, 104]⟩ : ByteArray), (0 : Int), false, ([] : List bQ)⟩ : aZ), (⟨(⟨#[76, 111, 97, 110]⟩ : ByteArray), (0 : Int), false, [(⟨(⟨#[115, 116, 97, 116, 101]⟩ : ByteArray), (0 : Int), (1 : Int), [(⟨#[111, 112, 101, 110]⟩ : ByteArray), (⟨#[99, 108, 111, 115, 101, 100]⟩ : ByteArray)]⟩ : bQ)]⟩ : aZ), (⟨(⟨#[80, 101, 114, 115, 111, 110]⟩ : ByteArray), (-1 : Int), false, ([] : List bQ)⟩ : aZ)], [(⟨(⟨#[111, 119, 110, 115]⟩ : ByteArray), (3 : Int), (0 : Int), (0 : Int), (-1 : Int), (1 : Int), (1 : Int)⟩ : bk), (⟨(⟨#[112, 97, 121, 115]⟩ : ByteArray), (1 : Int), (1 : Int), (0 : Int), (-1 : Int), (0 : Int), (-1 : Int)⟩ : bk)], ()), ())
def cC (a0 : Int) : Option (aC × Unit) :=
  cond (a0 == (0 : Int))
  (some ((⟨(⟨#[112, 97, 121, 115]⟩ : ByteArray), (⟨(⟨[(1 : Int), (1 : Int)], [(⟨(1 : Int), (0 : Int), (1 : Int)⟩ : Edge)]⟩ : ag), ([] : List dR), (0 : Int), ([] : List dA)⟩ : ai), (⟨(⟨[(1 : Int), (1 : Int)], ([] : List Edge)⟩ : ag), ([] : List dR), (0 : Int), ([] : List dA)⟩ : ai), (⟨[(0 : Int), (1 : Int)], ([] : List Int)⟩ : dT), (⟨[(0 : Int), (1 : Int)], ([] : List Int)⟩ : aO), false, (⟨(1 : Int), ([] : List af), (⟨([] : List Int), ([] : List Int)⟩ : aO), (⟨(⟨([] : List Int), ([] : List Edge)⟩ : ag), ([] : List dR), (0 : Int), ([] : List dA)⟩ : ai)⟩ : af)⟩ : aC), ()))
  (cond (a0 == (1 : Int))
  (some ((⟨(⟨#[112, 97, 121, 115]⟩ : ByteArray), (⟨(⟨[(1 : Int), (1 : Int)], [(⟨(1 : Int), (0 : Int), (1 : Int)⟩ : Edge)]⟩ : ag), ([] : List dR), (0 : Int), ([] : List dA)⟩ : ai), (⟨(⟨[(1 : Int), (2 : Int)], ([] : List Edge)⟩ : ag), ([] : List dR), (0 : Int), ([] : List dA)⟩ : ai), (⟨[(0 : Int)], ([] : List Int)⟩ : dT), (⟨[(0 : Int)], ([] : List Int)⟩ : aO), false, (⟨(1 : Int), ([] : List af), (⟨([] : List Int), ([] : List Int)⟩ : aO), (⟨(⟨([] : List Int), ([] : List Edge)⟩ : ag), ([] : List dR), (0 : Int), ([] : List dA)⟩ : ai)⟩ : af)⟩ : aC), ()))
  (cond (a0 == (2 : Int))
  (some ((⟨(⟨#[112, 97, 121, 115]⟩ : ByteArray), (⟨(⟨[(1 : Int), (1 : Int)], [(⟨(1 : Int), (0 : Int), (1 : Int)⟩ : Edge)]⟩ : ag), ([] : List dR), (0 : Int), ([] : List dA)⟩ : ai), (⟨(⟨[(1 : Int), (1 : Int)], [(⟨(1 : Int), (0 : Int), (1 : Int)⟩ : Edge)]⟩ : ag), ([] : List dR), (0 : Int), ([] : List dA)⟩ : ai), (⟨[(0 : Int), (1 : Int)], ([] : List Int)⟩ : dT), (⟨[(0 : Int), (1 : Int)], ([] : List Int)⟩ : aO), false, (⟨(1 : Int), ([] : List af), (⟨([] : List Int), ([] : List Int)⟩ : aO), (⟨(⟨([] : List Int), ([] : List Edge)⟩ : ag), ([] : List dR), (0 : Int), ([] : List dA)⟩ : ai)⟩ : af)⟩ : aC), ()))
  (some ((⟨(⟨#[112, 97, 121, 115]⟩ : ByteArray), (⟨(⟨[(1 : Int), (1 : Int)], [(⟨(1 : Int), (0 : Int), (1 : Int)⟩ : Edge)]⟩ : ag), ([] : List dR), (0 : Int), ([] : List dA)⟩ : ai), (⟨(⟨([] : List Int), ([] : List Edge)⟩ : ag), ([] : List dR), (0 : Int), ([] : List dA)⟩ : ai), (⟨([] : List Int), ([] : List Int)⟩ : dT), (⟨([] : List Int), ([] : List Int)⟩ : aO), false, (⟨(1 : Int), ([] : List af), (⟨([] : List Int), ([] : List Int)⟩ : aO), (⟨(⟨([] : List Int), ([] : List Edge)⟩ : ag), ([] : List dR), (0 : Int), ([] : List dA)⟩ : ai)⟩ : af)⟩ : aC), ()))))
def slices_Equal_lint.l0 (q0 : List Int) (q1 : List Int) (q2 : Int) : Nat → Int → Option (Sum Unit (Bool × Unit))
 | 0, _ => none
 | n + 1, q3 =>
  cond (decide (q3 < q2))
  ((aB q0 q3).bind fun x3 =>
  (aB q1 q3).bind fun x4 =>
  cond (x3 != x4)
  (some (Sum.inr (false, ())))
  (slices_Equal_lint.l0 q0 q1 q2 n (IntKind.i64.wrap (q3 + (1 : Int)))))
  (some (Sum.inl (())))
def slices_Equal_lint (a0 : List Int) (a1 : List Int) : Option (Bool × Unit) :=
  cond ((a0.length : Int) != (a1.length : Int))
  (some (false, ()))
  ((slices_Equal_lint.l0 a0 a1 (a0.length : Int) (Int.toNat (a0.length : Int) + 1) (0 : Int)).bind fun o5 =>
  aJ o5
  (fun y6 => some (true, ()))
  (fun z7 => some (z7.1, ())))
def bH (k : Nat)  : Option (Bool × Unit) :=
  (cV).bind fun r1 =>
  (cC (0 : Int)).bind fun r2 =>
  (cQ k (⟨r1.1.1, r1.1.2.1⟩ : ad) [r2.1]).bind fun r3 =>
  (cC (1 : Int)).bind fun r4 =>
  (cQ k (⟨r1.1.1, r1.1.2.1⟩ : ad) [r4.1]).bind fun r5 =>
  (cC (2 : Int)).bind fun r6 =>
  (cK k (⟨r1.1.1, r1.1.2.1⟩ : ad) [r6.1]).bind fun r7 =>
  (cond (r3.2.1 == (0 : Int)) ((slices_Equal_lint r3.1.1 [(0 : Int)]).bind fun r8 =>
  cond r8.1 (cond (r5.2.1 == (0 : Int)) ((slices_Equal_lint r5.1.2.1 [(0 : Int), (0 : Int), (1 : Int), (0 : Int)]).bind fun r9 =>
  cond r9.1 (cond (r7.2.1 == (0 : Int)) ((api_Demand_13 r7.1 [(⟨(0 : Int), (5 : Int), (5 : Int), (1 : Int)⟩ : ae)]).bind fun r10 =>
  some (r10.1, ())) (some (false, ()))) (some (false, ()))) (some (false, ()))) (some (false, ()))) (some (false, ()))).bind fun b11 =>
  some (b11.1, ())
def scarfjointref04_Few.l4 (q0 : ad) (q1 : Int) (q2 : Int) (q3 : Int) (q4 : bQ) : Nat → Int → Option (Sum (ad × (Int × (Int × (Int × Unit)))) (Bool × Unit))
 | 0, _ => none
 | n + 1, q5 =>
  cond (decide (q5 < (q4.names.length : Int)))
  ((aB q4.names q5).bind fun x10 =>
  cond (decide ((x10.size : Int) > (40 : Int)))
  (some (Sum.inr (false, ())))
  (scarfjointref04_Few.l4 q0 q1 q2 q3 q4 n (IntKind.i64.wrap (q5 + (1 : Int)))))
  (some (Sum.inl (q0, q1, q2, q3, ())))
def scarfjointref04_Few.l2 (k : Nat)  : Nat → ad → Int → Int → Int → Option (Sum (ad × (Int × (Int × Unit))) (Bool × Unit))
 | 0, _, _, _, _ => none
 | n + 1, q0, q1, q2, q3 =>
  (aB q0.nodes q2).bind fun x21 =>
  cond (decide (q3 < (x21.attrs.length : Int)))
  ((aB q0.nodes q2).bind fun x22 =>
  (aB x22.attrs q3).bind fun x23 =>
  (cond (decide ((x23.name.size : Int) > (40 : Int))) (some (true, ())) (some ((decide ((x23.names.length : Int) > (25 : Int))), ()))).bind fun b24 =>
  cond b24.1
  (some (Sum.inr (false, ())))
  ((scarfjointref04_Few.l4 q0 q1 q2 q3 x23 k (0 : Int)).bind fun o25 =>
  aJ o25
  (fun y26 => scarfjointref04_Few.l2 k n y26.1 y26.2.1 y26.2.2.1 (IntKind.i64.wrap (y26.2.2.2.1 + (1 : Int))))
  (fun z27 => some (Sum.inr (z27.1, ())))))
  (some (Sum.inl (q0, q1, q2, ())))
def scarfjointref04_Few.l0 (k : Nat)  : Nat → ad → Int → Int → Option (Sum (ad × Unit) (Bool × Unit))
 | 0, _, _, _ => none
 | n + 1, q0, q1, q2 =>
  cond (decide (q2 < (q0.nodes.length : Int)))
  ((aB q0.nodes q2).bind fun x37 =>
  (cond (decide ((IntKind.i64.wrap (q1 + (x37.attrs.length : Int))) > (30 : Int))) (some (true, ())) ((aB q0.nodes q2).bind fun x38 =>
  some ((decide ((x38.name.size : Int) > (40 : Int))), ()))).bind fun b39 =>
  cond b39.1
  (some (Sum.inr (false, ())))
  ((scarfjointref04_Few.l2 k k q0 (IntKind.i64.wrap (q1 + (x37.attrs.length : Int))) q2 (0 : Int)).bind fun o40 =>
  aJ o40
  (fun y41 => scarfjointref04_Few.l0 k n y41.1 y41.2.1 (IntKind.i64.wrap (y41.2.2.1 + (1 : Int))))
  (fun z42 => some (Sum.inr (z42.1, ())))))
  (some (Sum.inl (q0, ())))
def scarfjointref04_Few.l6 (q0 : ad) : Nat → Int → Option (Sum Unit (Bool × Unit))
 | 0, _ => none
 | n + 1, q1 =>
  cond (decide (q1 < (q0.edges.length : Int)))
  ((aB q0.edges q1).bind fun x47 =>
  cond (decide ((x47.name.size : Int) > (40 : Int)))
  (some (Sum.inr (false, ())))
  (scarfjointref04_Few.l6 q0 n (IntKind.i64.wrap (q1 + (1 : Int)))))
  (some (Sum.inl (())))
def scarfjointref04_Few (k : Nat) (a0 : ad) : Option (Bool × Unit) :=
  (cond (decide ((a0.nodes.length : Int) > (20 : Int))) (some (true, ())) (some ((decide ((a0.edges.length : Int) > (30 : Int))), ()))).bind fun b1 =>
  cond b1.1
  (some (false, ()))
  ((scarfjointref04_Few.l0 k k a0 (0 : Int) (0 : Int)).bind fun o43 =>
  aJ o43
  (fun y44 => (scarfjointref04_Few.l6 y44.1 k (0 : Int)).bind fun o48 =>
  aJ o48
  (fun y49 => some (true, ()))
  (fun z50 => some (z50.1, ())))
  (fun z45 => some (z45.1, ())))
def dc (a0 : ag) : Option (Bool × Unit) :=
  (cond (decide ((a0.nodes.length : Int) ≤ (45 : Int))) (some ((decide ((a0.edges.length : Int) ≤ (90 : Int))), ())) (some (false, ()))).bind fun b1 =>
  some (b1.1, ())
def bu (a0 : ai) : Option (Bool × Unit) :=
  ((dc a0.graph).bind fun r1 =>
  cond r1.1 (cond (decide ((a0.slots.length : Int) ≤ (15 : Int))) (some ((decide ((a0.tests.length : Int) ≤ (15 : Int))), ())) (some (false, ()))) (some (false, ()))).bind fun b2 =>
  some (b2.1, ())
def db (a0 : dT) (a1 : Int) : Option (Bool × Unit) :=
  some ((decide ((IntKind.i64.wrap ((a0.nodes.length : Int) + (a0.edges.length : Int))) ≤ a1)), ())
def bV (a0 : aO) (a1 : Int) : Option (Bool × Unit) :=
  some ((decide ((IntKind.i64.wrap ((a0.nodes.length : Int) + (a0.edges.length : Int))) ≤ a1)), ())
def scarfjointref22_left.l0 (rec_ : af → Int → Option (Int × Unit)) (q1 : af) : Nat → Int → Int → Option (Int × Unit)
 | 0, _, _ => none
 | n + 1, q0, q2 =>
  (cond (decide (q2 < (q1.kids.length : Int))) (some ((decide (q0 ≥ (0 : Int))), ())) (some (false, ()))).bind fun b10 =>
  cond b10.1
  ((aB q1.kids q2).bind fun x11 =>
  (rec_ x11 q0).bind fun r12 =>
  scarfjointref22_left.l0 rec_ q1 n r12.1 (IntKind.i64.wrap (q2 + (1 : Int))))
  (some (q0, ()))
def scarfjointref22_left : Nat → af → Int → Option (Int × Unit)
 | 0, _, _ => none
 | k + 1, a0, a1 =>
  ((bu a0.pattern).bind fun r1 =>
  cond (!r1.1) (some (true, ())) ((bV a0.map (140 : Int)).bind fun r2 =>
  some ((!r2.1), ()))).bind fun b3 =>
  cond b3.1
  (some ((-1 : Int), ()))
  ((scarfjointref22_left.l0 (scarfjointref22_left k) a0 k (IntKind.i64.wrap (a1 - (1 : Int))) (0 : Int)).bind fun o13 =>
  some (o13.1, ()))
def dh (k : Nat) (a0 : af) : Option (Bool × Unit) :=
  (scarfjointref22_left k a0 (40 : Int)).bind fun r1 =>
  some ((decide (r1.1 ≥ (0 : Int))), ())
def cJ (k : Nat) (a0 : aC) : Option (Bool × Unit) :=
  (cond (decide ((a0.name.size : Int) ≤ (60 : Int))) ((bu a0.left).bind fun r1 =>
  cond r1.1 ((bu a0.right).bind fun r2 =>
  cond r2.1 ((db a0.keep (140 : Int)).bind fun r3 =>
  cond r3.1 ((bV a0.into (140 : Int)).bind fun r4 =>
  cond r4.1 ((dh k a0.condition).bind fun r5 =>
  some (r5.1, ())) (some (false, ()))) (some (false, ()))) (some (false, ()))) (some (false, ()))) (some (false, ()))).bind fun b6 =>
  some (b6.1, ())
def scarfjointref40_Few.l0 (k : Nat) (q0 : List aC) : Nat → Int → Option (Sum Unit (Bool × Unit))
 | 0, _ => none
 | n + 1, q1 =>
  cond (decide (q1 < (q0.length : Int)))
  ((aB q0 q1).bind fun x7 =>
  (cJ k x7).bind fun r8 =>
  cond (!r8.1)
  (some (Sum.inr (false, ())))
  (scarfjointref40_Few.l0 k q0 n (IntKind.i64.wrap (q1 + (1 : Int)))))
  (some (Sum.inl (())))
def scarfjointref40_Few (k : Nat) (a0 : ad) (a1 : List aC) : Option (Bool × Unit) :=
  ((scarfjointref04_Few k a0).bind fun r1 =>
  cond (!r1.1) (some (true, ())) (some ((decide ((a1.length : Int) > (8 : Int))), ()))).bind fun b2 =>
  cond b2.1
  (some (false, ()))
  ((scarfjointref40_Few.l0 k a1 k (0 : Int)).bind fun o9 =>
  aJ o9
  (fun y10 => some (true, ()))
  (fun z11 => some (z11.1, ())))
def aD : Nat → ad → Int → Option ((List bQ) × Unit)
 | 0, _, _ => none
 | k + 1, a0, a1 =>
  cond (decide (a1 < (0 : Int)))
  (some (([] : List bQ), ()))
  ((aB a0.nodes a1).bind fun x1 =>
  (aD k a0 x1.parent).bind fun r2 =>
  cond (bX ((([] : List bQ)).length + (r2.1).length)) ((aB a0.nodes a1).bind fun x3 =>
  cond (bX (((([] : List bQ) ++ r2.1)).length + (x3.attrs).length)) (some (((([] : List bQ) ++ r2.1) ++ x3.attrs), ())) none) none)
def ah (a0 : Int) (a1 : Int) (a2 : Int) : Option (Bool × Unit) :=
  (cond (decide (a0 ≥ a1)) (some ((decide (a0 ≤ a2)), ())) (some (false, ()))).bind fun b1 =>
  some (b1.1, ())
def cT (a0 : et) : Option (ByteArray × Unit) :=
  cond (a0.kind == (3 : Int))
  (cond (bX ((⟨#[34]⟩ : ByteArray).size + a0.text.size)) (cond (bX (((⟨#[34]⟩ : ByteArray) ++ a0.text).size + (⟨#[34]⟩ : ByteArray).size)) (some ((((⟨#[34]⟩ : ByteArray) ++ a0.text) ++ (⟨#[34]⟩ : ByteArray)), ())) none) none)
  (some (a0.text, ()))
def bD (a0 : Int) : Option (Bool × Unit) :=
  (cond (decide (a0 ≥ (97 : Int))) (cond (decide (a0 ≤ (122 : Int))) (some (true, ())) (cond (decide (a0 ≥ (65 : Int))) (some ((decide (a0 ≤ (90 : Int))), ())) (some (false, ())))) (cond (decide (a0 ≥ (65 : Int))) (some ((decide (a0 ≤ (90 : Int))), ())) (some (false, ())))).bind fun b1 =>
  some (b1.1, ())
def aS (a0 : Int) : Option (Bool × Unit) :=
  (cond (decide (a0 ≥ (48 : Int))) (some ((decide (a0 ≤ (57 : Int))), ())) (some (false, ()))).bind fun b1 =>
  some (b1.1, ())
def scarfjointref01_run.l0 (q0 : ByteArray) (q1 : Int) (q2 : Bool) : Nat → Int → Option (Int × Unit)
 | 0, _ => none
 | n + 1, q3 =>
  (cond (decide ((IntKind.i64.wrap (q1 + q3)) < (q0.size : Int))) ((kv q0 (IntKind.i64.wrap (q1 + q3))).bind fun c7 =>
  (aS c7).bind fun r8 =>
  cond r8.1 (some (true, ())) (cond (!q2) ((kv q0 (IntKind.i64.wrap (q1 + q3))).bind fun c9 =>
  (bD c9).bind fun r10 =>
  cond r10.1 (some (true, ())) ((kv q0 (IntKind.i64.wrap (q1 + q3))).bind fun c11 =>
  some ((c11 == (95 : Int)), ()))) (some (false, ())))) (some (false, ()))).bind fun b12 =>
  cond b12.1
  (scarfjointref01_run.l0 q0 q1 q2 n (IntKind.i64.wrap (q3 + (1 : Int))))
  (some (q3, ()))
def scarfjointref01_run (k : Nat) (a0 : ByteArray) (a1 : Int) (a2 : Bool) : Option (Int × Unit) :=
  (scarfjointref01_run.l0 a0 a1 a2 k (0 : Int)).bind fun o13 =>
  some (o13.1, ())
def scarfjointref01_quoted.l0 (q0 : ByteArray) (q1 : Int) : Nat → Int → Option (Sum Unit (Int × Unit))
 | 0, _ => none
 | n + 1, q2 =>
  cond (decide ((IntKind.i64.wrap (q1 + q2)) < (q0.size : Int)))
  ((kv q0 (IntKind.i64.wrap (q1 + q2))).bind fun c3 =>
  cond (c3 == (34 : Int))
  (some (Sum.inr (IntKind.i64.wrap (q2 + (1 : Int)), ())))
  ((cond (decide (c3 < (32 : Int))) (some (true, ())) (some ((decide (c3 > (126 : Int))), ()))).bind fun b4 =>
  cond b4.1
  (some (Sum.inr ((0 : Int), ())))
  (scarfjointref01_quoted.l0 q0 q1 n (IntKind.i64.wrap (q2 + (1 : Int))))))
  (some (Sum.inl (())))
def scarfjointref01_quoted (k : Nat) (a0 : ByteArray) (a1 : Int) : Option (Int × Unit) :=
  (scarfjointref01_quoted.l0 a0 a1 k (1 : Int)).bind fun o5 =>
  aJ o5
  (fun y6 => some ((0 : Int), ()))
  (fun z7 => some (z7.1, ()))
def cM  : Option ((List ByteArray) × Unit) :=
  some ([(⟨#[45, 62]⟩ : ByteArray), (⟨#[60, 61]⟩ : ByteArray), (⟨#[62, 61]⟩ : ByteArray), (⟨#[61, 61]⟩ : ByteArray), (⟨#[33, 61]⟩ : ByteArray), (⟨#[123]⟩ : ByteArray), (⟨#[125]⟩ : ByteArray), (⟨#[40]⟩ : ByteArray), (⟨#[41]⟩ : ByteArray), (⟨#[91]⟩ : ByteArray), (⟨#[93]⟩ : ByteArray), (⟨#[44]⟩ : ByteArray), (⟨#[59]⟩ : ByteArray), (⟨#[58]⟩ : ByteArray), (⟨#[61]⟩ : ByteArray), (⟨#[43]⟩ : ByteArray), (⟨#[45]⟩ : ByteArray), (⟨#[42]⟩ : ByteArray), (⟨#[60]⟩ : ByteArray), (⟨#[62]⟩ : ByteArray), (⟨#[33]⟩ : ByteArray), (⟨#[38]⟩ : ByteArray), (⟨#[124]⟩ : ByteArray), (⟨#[46]⟩ : ByteArray), (⟨#[63]⟩ : ByteArray)], ())
def scarfjointref01_one.l0 (q0 : ByteArray) (q1 : Int) (q2 : et) (q3 : List ByteArray) : Nat → Int → Option (Sum (et × Unit) (et × (Int × (Int × Unit))))
 | 0, _ => none
 | n + 1, q4 =>
  cond (decide (q4 < ((q3).length : Int)))
  ((cond (decide (0 ≤ q4) && decide (q4 < ((q3).length : Int))) ((nth q3 (Int.toNat q4)).bind fun x16 =>
  cond (decide ((IntKind.i64.wrap (q1 + (x16.size : Int))) ≤ (q0.size : Int))) (cond (decide (0 ≤ q4) && decide (q4 < ((q3).length : Int))) ((nth q3 (Int.toNat q4)).bind fun x17 =>
  cond (decide (0 ≤ q1) && decide (q1 ≤ IntKind.i64.wrap (q1 + (x17.size : Int))) && decide (IntKind.i64.wrap (q1 + (x17.size : Int)) ≤ (q0.size : Int))) (cond (decide (0 ≤ q4) && decide (q4 < ((q3).length : Int))) ((nth q3 (Int.toNat q4)).bind fun x18 =>
  some (di (q0.extract (Int.toNat q1) (Int.toNat (IntKind.i64.wrap (q1 + (x17.size : Int))))) x18, ())) none) none) none) (some (false, ()))) none).bind fun b19 =>
  cond b19.1
  (cond (decide (0 ≤ q4) && decide (q4 < ((q3).length : Int))) ((nth q3 (Int.toNat q4)).bind fun x20 =>
  cond (decide (0 ≤ q4) && decide (q4 < ((q3).length : Int))) ((nth q3 (Int.toNat q4)).bind fun x21 =>
  some (Sum.inr ((⟨(4 : Int), x20, (0 : Int)⟩ : et), (x21.size : Int), (0 : Int), ()))) none) none)
  (scarfjointref01_one.l0 q0 q1 q2 q3 n (IntKind.i64.wrap (q4 + (1 : Int)))))
  (some (Sum.inl (q2, ())))
def scarfjointref01_one (k : Nat) (a0 : ByteArray) (a1 : Int) : Option (et × (Int × (Int × Unit))) :=
  (kv a0 a1).bind fun c1 =>
  ((bD c1).bind fun r2 =>
  cond r2.1 (some (true, ())) ((aS c1).bind fun r3 =>
  some (r3.1, ()))).bind fun b4 =>
  cond b4.1
  ((aS c1).bind fun r5 =>
  (scarfjointref01_run k a0 a1 r5.1).bind fun r6 =>
  (aS c1).bind fun r7 =>
  cond r7.1
  (cond (decide (r6.1 > (9 : Int)))
  (some ((⟨(0 : Int), (⟨#[]⟩ : ByteArray), (0 : Int)⟩ : et), (0 : Int), (3 : Int), ()))
  (cond (decide (0 ≤ a1) && decide (a1 ≤ IntKind.i64.wrap (a1 + r6.1)) && decide (IntKind.i64.wrap (a1 + r6.1) ≤ (a0.size : Int))) (some ((⟨(2 : Int), a0.extract (Int.toNat a1) (Int.toNat (IntKind.i64.wrap (a1 + r6.1))), (0 : Int)⟩ : et), r6.1, (0 : Int), ())) none))
  (cond (decide (r6.1 > (20 : Int)))
  (some ((⟨(0 : Int), (⟨#[]⟩ : ByteArray), (0 : Int)⟩ : et), (0 : Int), (3 : Int), ()))
  (cond (decide (0 ≤ a1) && decide (a1 ≤ IntKind.i64.wrap (a1 + r6.1)) && decide (IntKind.i64.wrap (a1 + r6.1) ≤ (a0.size : Int))) (some ((⟨(1 : Int), a0.extract (Int.toNat a1) (Int.toNat (IntKind.i64.wrap (a1 + r6.1))), (0 : Int)⟩ : et), r6.1, (0 : Int), ())) none)))
  (cond (c1 == (34 : Int))
  ((scarfjointref01_quoted k a0 a1).bind fun r8 =>
  cond (r8.1 == (0 : Int))
  (some ((⟨(0 : Int), (⟨#[]⟩ : ByteArray), (0 : Int)⟩ : et), (0 : Int), (2 : Int), ()))
  (cond (decide ((IntKind.i64.wrap (r8.1 - (2 : Int))) > (60 : Int)))
  (some ((⟨(0 : Int), (⟨#[]⟩ : ByteArray), (0 : Int)⟩ : et), (0 : Int), (3 : Int), ()))
  (cond (decide (0 ≤ IntKind.i64.wrap (a1 + (1 : Int))) && decide (IntKind.i64.wrap (a1 + (1 : Int)) ≤ IntKind.i64.wrap ((IntKind.i64.wrap (a1 + r8.1)) - (1 : Int))) && decide (IntKind.i64.wrap ((IntKind.i64.wrap (a1 + r8.1)) - (1 : Int)) ≤ (a0.size : Int))) (some ((⟨(3 : Int), a0.extract (Int.toNat (IntKind.i64.wrap (a1 + (1 : Int)))) (Int.toNat (IntKind.i64.wrap ((IntKind.i64.wrap (a1 + r8.1)) - (1 : Int)))), (0 : Int)⟩ : et), r8.1, (0 : Int), ())) none)))
  ((cM).bind fun r9 =>
  (scarfjointref01_one.l0 a0 a1 (⟨(0 : Int), (⟨#[]⟩ : ByteArray), (0 : Int)⟩ : et) r9.1 k (0 : Int)).bind fun o22 =>
  aJ o22
  (fun y23 => some ((⟨(0 : Int), (⟨#[]⟩ : ByteArray), (0 : Int)⟩ : et), (0 : Int), (2 : Int), ()))
  (fun z24 => some (z24.1, z24.2.1, z24.2.2.1, ()))))
def cL (k : Nat) (a0 : et) : Option (Bool × Unit) :=
  (cT a0).bind fun r1 =>
  cond (di r1.1 (⟨#[]⟩ : ByteArray))
  (some (false, ()))
  ((scarfjointref01_one k r1.1 (0 : Int)).bind fun r2 =>
  (cond (r2.2.2.1 == (0 : Int)) (cond (r2.2.1 == (r1.1.size : Int)) (some ((r2.1.kind == a0.kind), ())) (some (false, ()))) (some (false, ()))).bind fun b3 =>
  some (b3.1, ()))
def ay (k : Nat) (a0 : ByteArray) : Option (Bool × Unit) :=
  (cL k (⟨(1 : Int), a0, (0 : Int)⟩ : et)).bind fun r1 =>
  some (r1.1, ())
def scarfjointref04_names.l2 (q0 : List ByteArray) (q1 : Int) : Nat → Int → Option (Sum ((List ByteArray) × (Int × Unit)) (Int × Unit))
 | 0, _ => none
 | n + 1, q2 =>
  cond (decide (q2 < q1))
  ((aB q0 q2).bind fun x5 =>
  (aB q0 q1).bind fun x6 =>
  cond (di x5 x6)
  (some (Sum.inr ((5 : Int), ())))
  (scarfjointref04_names.l2 q0 q1 n (IntKind.i64.wrap (q2 + (1 : Int)))))
  (some (Sum.inl (q0, q1, ())))
def scarfjointref04_names.l0 (k : Nat)  : Nat → (List ByteArray) → Int → Option (Sum Unit (Int × Unit))
 | 0, _, _ => none
 | n + 1, q0, q1 =>
  cond (decide (q1 < (q0.length : Int)))
  ((aB q0 q1).bind fun x15 =>
  (ay k x15).bind fun r16 =>
  cond (!r16.1)
  (some (Sum.inr ((2 : Int), ())))
  ((scarfjointref04_names.l2 q0 q1 k (0 : Int)).bind fun o17 =>
  aJ o17
  (fun y18 => scarfjointref04_names.l0 k n y18.1 (IntKind.i64.wrap (y18.2.1 + (1 : Int))))
  (fun z19 => some (Sum.inr (z19.1, ())))))
  (some (Sum.inl (())))
def scarfjointref04_names (k : Nat) (a0 : List ByteArray) : Option (Int × Unit) :=
  cond (decide ((a0.length : Int) > (20 : Int)))
  (some ((3 : Int), ()))
  ((scarfjointref04_names.l0 k k a0 (0 : Int)).bind fun o20 =>
  aJ o20
  (fun y21 => some ((0 : Int), ()))
  (fun z22 => some (z22.1, ())))
def bC (k : Nat) (a0 : bQ) : Option (Int × Unit) :=
  cond ((a0.names.length : Int) == (0 : Int))
  (((ah a0.low (-1000000 : Int) (1000000 : Int)).bind fun r1 =>
  cond (!r1.1) (some (true, ())) ((ah a0.high a0.low (1000000 : Int)).bind fun r2 =>
  some ((!r2.1), ()))).bind fun b3 =>
  cond b3.1
  (some ((6 : Int), ()))
  (some ((0 : Int), ())))
  ((scarfjointref04_names k a0.names).bind fun r4 =>
  cond (r4.1 != (0 : Int))
  (some (r4.1, ()))
  ((cond (a0.low != (0 : Int)) (some (true, ())) (some ((a0.high != (IntKind.i64.wrap ((a0.names.length : Int) - (1 : Int)))), ()))).bind fun b5 =>
  cond b5.1
  (some ((6 : Int), ()))
  (some ((0 : Int), ()))))
def scarfjointref04_node.l0 (q0 : Int) (q1 : ad) (q2 : aZ) : Nat → Int → Option (Sum (Int × (ad × (aZ × Unit))) (Int × Unit))
 | 0, _ => none
 | n + 1, q3 =>
  cond (decide (q3 < q0))
  ((aB q1.nodes q3).bind fun x4 =>
  cond (di x4.name q2.name)
  (some (Sum.inr ((5 : Int), ())))
  (scarfjointref04_node.l0 q0 q1 q2 n (IntKind.i64.wrap (q3 + (1 : Int)))))
  (some (Sum.inl (q0, q1, q2, ())))
def scarfjointref04_node.l4 (q0 : List bQ) (q1 : Int) : Nat → Int → Option (Sum ((List bQ) × (Int × Unit)) (Int × Unit))
 | 0, _ => none
 | n + 1, q2 =>
  cond (decide (q2 < q1))
  (cond (decide (0 ≤ q2) && decide (q2 < ((q0).length : Int))) ((nth q0 (Int.toNat q2)).bind fun x15 =>
  cond (decide (0 ≤ q1) && decide (q1 < ((q0).length : Int))) ((nth q0 (Int.toNat q1)).bind fun x16 =>
  cond (di x15.name x16.name)
  (some (Sum.inr ((5 : Int), ())))
  (scarfjointref04_node.l4 q0 q1 n (IntKind.i64.wrap (q2 + (1 : Int))))) none) none)
  (some (Sum.inl (q0, q1, ())))
def scarfjointref04_node.l2 (k : Nat)  : Nat → (List bQ) → Int → Option (Sum Unit (Int × Unit))
 | 0, _, _ => none
 | n + 1, q0, q1 =>
  cond (decide (q1 < ((q0).length : Int)))
  (cond (decide (0 ≤ q1) && decide (q1 < ((q0).length : Int))) ((nth q0 (Int.toNat q1)).bind fun x29 =>
  (ay k x29.name).bind fun r30 =>
  cond (!r30.1)
  (some (Sum.inr ((2 : Int), ())))
  ((scarfjointref04_node.l4 q0 q1 k (0 : Int)).bind fun o31 =>
  aJ o31
  (fun y32 => cond (decide (0 ≤ y32.2.1) && decide (y32.2.1 < ((y32.1).length : Int))) ((nth y32.1 (Int.toNat y32.2.1)).bind fun x34 =>
  (bC k x34).bind fun r35 =>
  cond (r35.1 != (0 : Int))
  (some (Sum.inr (r35.1, ())))
  (scarfjointref04_node.l2 k n y32.1 (IntKind.i64.wrap (y32.2.1 + (1 : Int))))) none)
  (fun z33 => some (Sum.inr (z33.1, ()))))) none)
  (some (Sum.inl (())))
def scarfjointref04_node (k : Nat) (a0 : ad) (a1 : Int) : Option (Int × Unit) :=
  (aB a0.nodes a1).bind fun x1 =>
  (ay k x1.name).bind fun r2 =>
  cond (!r2.1)
  (some ((2 : Int), ()))
  ((scarfjointref04_node.l0 a1 a0 x1 k (0 : Int)).bind fun o5 =>
  aJ o5
  (fun y6 => (ah y6.2.2.1.parent (-1 : Int) (IntKind.i64.wrap (y6.1 - (1 : Int)))).bind fun r8 =>
  cond (!r8.1)
  (some ((6 : Int), ()))
  ((aD k y6.2.1 y6.1).bind fun r9 =>
  (cond (decide ((y6.2.2.1.attrs.length : Int) > (4 : Int))) (some (true, ())) (some ((decide (((r9.1).length : Int) > (8 : Int))), ()))).bind fun b10 =>
  cond b10.1
  (some ((3 : Int), ()))
  ((scarfjointref04_node.l2 k k r9.1 (IntKind.i64.wrap (((r9.1).length : Int) - (y6.2.2.1.attrs.length : Int)))).bind fun o36 =>
  aJ o36
  (fun y37 => some ((0 : Int), ()))
  (fun z38 => some (z38.1, ())))))
  (fun z7 => some (z7.1, ())))
def bG (a0 : Int) (a1 : Int) : Option (Bool × Unit) :=
  ((ah a0 (0 : Int) (40 : Int)).bind fun r1 =>
  cond r1.1 (cond (a1 == (-1 : Int)) (some (true, ())) ((ah a1 a0 (40 : Int)).bind fun r2 =>
  some (r2.1, ()))) (some (false, ()))).bind fun b3 =>
  some (b3.1, ())
def scarfjointref04_edge.l0 (q0 : Int) (q1 : ad) (q2 : bk) : Nat → Int → Option (Sum (ad × (bk × Unit)) (Int × Unit))
 | 0, _ => none
 | n + 1, q3 =>
  cond (decide (q3 < q0))
  ((aB q1.edges q3).bind fun x4 =>
  cond (di x4.name q2.name)
  (some (Sum.inr ((5 : Int), ())))
  (scarfjointref04_edge.l0 q0 q1 q2 n (IntKind.i64.wrap (q3 + (1 : Int)))))
  (some (Sum.inl (q1, q2, ())))
def scarfjointref04_edge (k : Nat) (a0 : ad) (a1 : Int) : Option (Int × Unit) :=
  (aB a0.edges a1).bind fun x1 =>
  (ay k x1.name).bind fun r2 =>
  cond (!r2.1)
  (some ((2 : Int), ()))
  ((scarfjointref04_edge.l0 a1 a0 x1 k (0 : Int)).bind fun o5 =>
  aJ o5
  (fun y6 => ((ah y6.2.1.frm (0 : Int) (IntKind.i64.wrap ((y6.1.nodes.length : Int) - (1 : Int)))).bind fun r8 =>
  cond (!r8.1) (some (true, ())) ((ah y6.2.1.to (0 : Int) (IntKind.i64.wrap ((y6.1.nodes.length : Int) - (1 : Int)))).bind fun r9 =>
  cond (!r9.1) (some (true, ())) ((bG y6.2.1.outLow y6.2.1.outHigh).bind fun r10 =>
  cond (!r10.1) (some (true, ())) ((bG y6.2.1.inLow y6.2.1.inHigh).bind fun r11 =>
  some ((!r11.1), ()))))).bind fun b12 =>
  cond b12.1
  (some ((6 : Int), ()))
  (some ((0 : Int), ())))
  (fun z7 => some (z7.1, ())))
def scarfjointref04_Valid.l0 (k : Nat) (q0 : ad) : Nat → Int → Option (Sum (ad × Unit) (ByteArray × (Int × Unit)))
 | 0, _ => none
 | n + 1, q1 =>
  cond (decide (q1 < (q0.nodes.length : Int)))
  ((scarfjointref04_node k q0 q1).bind fun r6 =>
  cond (r6.1 != (0 : Int))
  ((aB q0.nodes q1).bind fun x7 =>
  some (Sum.inr (x7.name, r6.1, ())))
  (scarfjointref04_Valid.l0 k q0 n (IntKind.i64.wrap (q1 + (1 : Int)))))
  (some (Sum.inl (q0, ())))
def scarfjointref04_Valid.l2 (k : Nat) (q0 : ad) : Nat → Int → Option (Sum Unit (ByteArray × (Int × Unit)))
 | 0, _ => none
 | n + 1, q1 =>
  cond (decide (q1 < (q0.edges.length : Int)))
  ((scarfjointref04_edge k q0 q1).bind fun r15 =>
  cond (r15.1 != (0 : Int))
  ((aB q0.edges q1).bind fun x16 =>
  some (Sum.inr (x16.name, r15.1, ())))
  (scarfjointref04_Valid.l2 k q0 n (IntKind.i64.wrap (q1 + (1 : Int)))))
  (some (Sum.inl (())))
def scarfjointref04_Valid (k : Nat) (a0 : ad) : Option (ByteArray × (Int × Unit)) :=
  cond ((a0.nodes.length : Int) == (0 : Int))
  (some ((⟨#[]⟩ : ByteArray), (7 : Int), ()))
  ((cond (decide ((a0.nodes.length : Int) > (12 : Int))) (some (true, ())) (some ((decide ((a0.edges.length : Int) > (20 : Int))), ()))).bind fun b1 =>
  cond b1.1
  (some ((⟨#[]⟩ : ByteArray), (3 : Int), ()))
  ((scarfjointref04_Valid.l0 k a0 k (0 : Int)).bind fun o8 =>
  aJ o8
  (fun y9 => (scarfjointref04_Valid.l2 k y9.1 k (0 : Int)).bind fun o17 =>
  aJ o17
  (fun y18 => some ((⟨#[]⟩ : ByteArray), (0 : Int), ()))
  (fun z19 => some (z19.1, z19.2.1, ())))
  (fun z10 => some (z10.1, z10.2.1, ()))))
def scarfjointref24_has.l0 (q0 : List Int) (q1 : Int) : Nat → Int → Option (Sum Unit (Bool × Unit))
 | 0, _ => none
 | n + 1, q2 =>
  cond (decide (q2 < (q0.length : Int)))
  ((aB q0 q2).bind fun x2 =>
  cond (x2 == q1)
  (some (Sum.inr (true, ())))
  (scarfjointref24_has.l0 q0 q1 n (IntKind.i64.wrap (q2 + (1 : Int)))))
  (some (Sum.inl (())))
def scarfjointref24_has (k : Nat) (a0 : List Int) (a1 : Int) : Option (Bool × Unit) :=
  (scarfjointref24_has.l0 a0 a1 k (0 : Int)).bind fun o3 =>
  aJ o3
  (fun y4 => some (false, ()))
  (fun z5 => some (z5.1, ()))
def scarfjointref24_rest.l0 (k : Nat) (q0 : Int) (q1 : List Int) : Nat → (List Int) → Int → Option ((List Int) × Unit)
 | 0, _, _ => none
 | n + 1, q2, q3 =>
  cond (decide (q3 < q0))
  ((scarfjointref24_has k q1 q3).bind fun r3 =>
  cond (!r3.1)
  (cond (bX ((q2).length + ([q3]).length)) (scarfjointref24_rest.l0 k q0 q1 n (q2 ++ [q3]) (IntKind.i64.wrap (q3 + (1 : Int)))) none)
  (scarfjointref24_rest.l0 k q0 q1 n q2 (IntKind.i64.wrap (q3 + (1 : Int)))))
  (some (q2, ()))
def scarfjointref24_rest (k : Nat) (a0 : Int) (a1 : List Int) : Option ((List Int) × Unit) :=
  (scarfjointref24_rest.l0 k a0 a1 k ([] : List Int) (0 : Int)).bind fun o4 =>
  some (o4.1, ())
def aV (k : Nat) (a0 : aC) : Option ((List Int) × ((List Int) × Unit)) :=
  (scarfjointref24_rest k (a0.right.graph.nodes.length : Int) a0.into.nodes).bind fun r1 =>
  (scarfjointref24_rest k (a0.right.graph.edges.length : Int) a0.into.edges).bind fun r2 =>
  some (r1.1, r2.1, ())
def bB (a0 : Int) : Option (Bool × Unit) :=
  (cond (decide (a0 ≥ (0 : Int))) (some ((decide (a0 ≤ (99 : Int))), ())) (some (false, ()))).bind fun b1 =>
  some (b1.1, ())
def bY (a0 : Edge) (a1 : Int) : Option (Bool × Unit) :=
  ((bB a0.typ).bind fun r1 =>
  cond r1.1 (cond (decide (a0.frm ≥ (0 : Int))) (cond (decide (a0.frm < a1)) (cond (decide (a0.to ≥ (0 : Int))) (some ((decide (a0.to < a1)), ())) (some (false, ()))) (some (false, ()))) (some (false, ()))) (some (false, ()))).bind fun b2 =>
  some (b2.1, ())
def scarfjointref05_Valid.l0 (q0 : ag) : Nat → Int → Option (Sum (ag × Unit) (Int × Unit))
 | 0, _ => none
 | n + 1, q1 =>
  cond (decide (q1 < (q0.nodes.length : Int)))
  ((aB q0.nodes q1).bind fun x4 =>
  (bB x4).bind fun r5 =>
  cond (!r5.1)
  (some (Sum.inr ((6 : Int), ())))
  (scarfjointref05_Valid.l0 q0 n (IntKind.i64.wrap (q1 + (1 : Int)))))
  (some (Sum.inl (q0, ())))
def scarfjointref05_Valid.l2 (q0 : ag) : Nat → Int → Option (Sum Unit (Int × Unit))
 | 0, _ => none
 | n + 1, q1 =>
  cond (decide (q1 < (q0.edges.length : Int)))
  ((aB q0.edges q1).bind fun x11 =>
  (bY x11 (q0.nodes.length : Int)).bind fun r12 =>
  cond (!r12.1)
  (some (Sum.inr ((6 : Int), ())))
  (scarfjointref05_Valid.l2 q0 n (IntKind.i64.wrap (q1 + (1 : Int)))))
  (some (Sum.inl (())))
def scarfjointref05_Valid (k : Nat) (a0 : ag) : Option (Int × Unit) :=
  (cond (decide ((a0.nodes.length : Int) > (40 : Int))) (some (true, ())) (some ((decide ((a0.edges.length : Int) > (80 : Int))), ()))).bind fun b1 =>
  cond b1.1
  (some ((3 : Int), ()))
  ((scarfjointref05_Valid.l0 a0 k (0 : Int)).bind fun o6 =>
  aJ o6
  (fun y7 => (scarfjointref05_Valid.l2 y7.1 k (0 : Int)).bind fun o13 =>
  aJ o13
  (fun y14 => some ((0 : Int), ()))
  (fun z15 => some (z15.1, ())))
  (fun z8 => some (z8.1, ())))
def scarfjointref17_Typed.l0 (q0 : ad) (q1 : ag) : Nat → Int → Option (Sum (ad × (ag × Unit)) (Bool × Unit))
 | 0, _ => none
 | n + 1, q2 =>
  cond (decide (q2 < (q1.nodes.length : Int)))
  (((aB q1.nodes q2).bind fun x4 =>
  cond (decide (x4 < (0 : Int))) (some (true, ())) ((aB q1.nodes q2).bind fun x5 =>
  some ((decide (x5 ≥ (q0.nodes.length : Int))), ()))).bind fun b6 =>
  cond b6.1
  (some (Sum.inr (false, ())))
  (scarfjointref17_Typed.l0 q0 q1 n (IntKind.i64.wrap (q2 + (1 : Int)))))
  (some (Sum.inl (q0, q1, ())))
def scarfjointref17_Typed.l2 (q0 : ad) (q1 : ag) : Nat → Int → Option (Sum Unit (Bool × Unit))
 | 0, _ => none
 | n + 1, q2 =>
  cond (decide (q2 < (q1.edges.length : Int)))
  (((aB q1.edges q2).bind fun x13 =>
  cond (decide (x13.typ < (0 : Int))) (some (true, ())) ((aB q1.edges q2).bind fun x14 =>
  some ((decide (x14.typ ≥ (q0.edges.length : Int))), ()))).bind fun b15 =>
  cond b15.1
  (some (Sum.inr (false, ())))
  (scarfjointref17_Typed.l2 q0 q1 n (IntKind.i64.wrap (q2 + (1 : Int)))))
  (some (Sum.inl (())))
def scarfjointref17_Typed (k : Nat) (a0 : ad) (a1 : ag) : Option (Bool × Unit) :=
  (scarfjointref17_Typed.l0 a0 a1 k (0 : Int)).bind fun o7 =>
  aJ o7
  (fun y8 => (scarfjointref17_Typed.l2 y8.1 y8.2.1 k (0 : Int)).bind fun o16 =>
  aJ o16
  (fun y17 => some (true, ()))
  (fun z18 => some (z18.1, ())))
  (fun z9 => some (z9.1, ()))
def aN (k : Nat) (a0 : ad) (a1 : Int) (a2 : Int) : Option (Int × Unit) :=
  (scarfjointref04_Valid k a0).bind fun r1 =>
  cond (r1.2.1 != (0 : Int))
  (some (r1.2.1, ()))
  (((ah a1 (0 : Int) (IntKind.i64.wrap ((a0.nodes.length : Int) - (1 : Int)))).bind fun r2 =>
  cond (!r2.1) (some (true, ())) ((ah a2 (0 : Int) (IntKind.i64.wrap ((a0.nodes.length : Int) - (1 : Int)))).bind fun r3 =>
  some ((!r3.1), ()))).bind fun b4 =>
  cond b4.1
  (some ((6 : Int), ()))
  (some ((0 : Int), ())))
def scarfjointref04_Attrs.l0 (q1 : List bQ) : Nat → (List bQ) → Int → Option ((List bQ) × Unit)
 | 0, _, _ => none
 | n + 1, q0, q2 =>
  cond (decide (q2 < ((q1).length : Int)))
  (cond (decide (0 ≤ q2) && decide (q2 < ((q1).length : Int))) ((nth q1 (Int.toNat q2)).bind fun x4 =>
  cond (bX ((([] : List ByteArray)).length + (x4.names).length)) (cond (bX ((q0).length + ([(⟨x4.name, x4.low, x4.high, (([] : List ByteArray) ++ x4.names)⟩ : bQ)]).length)) (scarfjointref04_Attrs.l0 q1 n (q0 ++ [(⟨x4.name, x4.low, x4.high, (([] : List ByteArray) ++ x4.names)⟩ : bQ)]) (IntKind.i64.wrap (q2 + (1 : Int)))) none) none) none)
  (some (q0, ()))
def scarfjointref04_Attrs (k : Nat) (a0 : ad) (a1 : Int) : Option ((List bQ) × (Int × Unit)) :=
  (aN k a0 a1 a1).bind fun r1 =>
  cond (r1.1 != (0 : Int))
  (some (([] : List bQ), r1.1, ()))
  ((aD k a0 a1).bind fun r2 =>
  (scarfjointref04_Attrs.l0 r2.1 k ([] : List bQ) (0 : Int)).bind fun o5 =>
  some (o5.1, (0 : Int), ()))
def cD (k : Nat) (a0 : ad) (a1 : ai) (a2 : Int) (a3 : Int) : Option (bQ × (Bool × Unit)) :=
  (cond (decide (a2 < (0 : Int))) (some (true, ())) (some ((decide (a2 ≥ (a1.graph.nodes.length : Int))), ()))).bind fun b1 =>
  cond b1.1
  (some ((⟨(⟨#[]⟩ : ByteArray), (0 : Int), (0 : Int), ([] : List ByteArray)⟩ : bQ), false, ()))
  ((aB a1.graph.nodes a2).bind fun x2 =>
  (scarfjointref04_Attrs k a0 x2).bind fun r3 =>
  (cond (r3.2.1 != (0 : Int)) (some (true, ())) (cond (decide (a3 < (0 : Int))) (some (true, ())) (some ((decide (a3 ≥ ((r3.1).length : Int))), ())))).bind fun b4 =>
  cond b4.1
  (some ((⟨(⟨#[]⟩ : ByteArray), (0 : Int), (0 : Int), ([] : List ByteArray)⟩ : bQ), false, ()))
  (cond (decide (0 ≤ a3) && decide (a3 < ((r3.1).length : Int))) ((nth r3.1 (Int.toNat a3)).bind fun x5 =>
  some (x5, true, ())) none))
def ck (a0 : Int) : Option (Bool × Unit) :=
  (cond (decide (a0 ≥ (-1000000 : Int))) (some ((decide (a0 ≤ (1000000 : Int))), ())) (some (false, ()))).bind fun b1 =>
  some (b1.1, ())
def bT (a0 : Int) (a1 : nt) : Option (Int × Unit) :=
  (cond (decide (a1.var < (-1 : Int))) (some (true, ())) (cond (decide (a1.var ≥ a0)) (some (true, ())) (cond (decide (a1.add < (-1000000 : Int))) (some (true, ())) (some ((decide (a1.add > (1000000 : Int))), ()))))).bind fun b1 =>
  cond b1.1
  (some ((6 : Int), ()))
  (some ((0 : Int), ()))
def cI (a0 : Int) (a1 : dA) : Option (Int × Unit) :=
  (cond (a1.kind != (1 : Int)) (some ((a1.kind != (2 : Int)), ())) (some (false, ()))).bind fun b1 =>
  cond b1.1
  (some ((1 : Int), ()))
  ((bT a0 a1.left).bind fun r2 =>
  cond (r2.1 != (0 : Int))
  (some (r2.1, ()))
  ((bT a0 a1.right).bind fun r3 =>
  some (r3.1, ())))
def scarfjointref03_Valid.l0 (q0 : Int) (q1 : List dA) : Nat → Int → Option (Sum Unit (Int × Unit))
 | 0, _ => none
 | n + 1, q2 =>
  cond (decide (q2 < (q1.length : Int)))
  ((aB q1 q2).bind fun x4 =>
  (cI q0 x4).bind fun r5 =>
  cond (r5.1 != (0 : Int))
  (some (Sum.inr (r5.1, ())))
  (scarfjointref03_Valid.l0 q0 q1 n (IntKind.i64.wrap (q2 + (1 : Int)))))
  (some (Sum.inl (())))
def scarfjointref03_Valid (k : Nat) (a0 : Int) (a1 : List dA) : Option (Int × Unit) :=
  (cond (decide (a0 < (0 : Int))) (some (true, ())) (some ((decide (a0 > (12 : Int))), ()))).bind fun b1 =>
  cond b1.1
  (some ((6 : Int), ()))
  (cond (decide ((a1.length : Int) > (40 : Int)))
  (some ((3 : Int), ()))
  ((scarfjointref03_Valid.l0 a0 a1 k (0 : Int)).bind fun o6 =>
  aJ o6
  (fun y7 => some ((0 : Int), ()))
  (fun z8 => some (z8.1, ()))))
def scarfjointref21_occurs.l0 (q0 : Int) (q1 : ai) : Nat → Int → Option (Sum Unit (Bool × Unit))
 | 0, _ => none
 | n + 1, q2 =>
  cond (decide (q2 < (q1.slots.length : Int)))
  ((aB q1.slots q2).bind fun x2 =>
  cond (x2.term.var == q0)
  (some (Sum.inr (true, ())))
  (scarfjointref21_occurs.l0 q0 q1 n (IntKind.i64.wrap (q2 + (1 : Int)))))
  (some (Sum.inl (())))
def scarfjointref21_occurs (k : Nat) (a0 : ai) (a1 : Int) : Option (Bool × Unit) :=
  (scarfjointref21_occurs.l0 a1 a0 k (0 : Int)).bind fun o3 =>
  aJ o3
  (fun y4 => some (false, ()))
  (fun z5 => some (z5.1, ()))
def scarfjointref21_Valid.l0 (k : Nat) (q0 : ad) (q1 : ai) : Nat → Int → Option (Sum (ai × Unit) (Int × Unit))
 | 0, _ => none
 | n + 1, q2 =>
  cond (decide (q2 < (q1.slots.length : Int)))
  ((aB q1.slots q2).bind fun x14 =>
  (cD k q0 q1 x14.node x14.attr).bind fun r15 =>
  (cond (!r15.2.1) (some (true, ())) (cond (decide (x14.term.var < (-1 : Int))) (some (true, ())) (cond (decide (x14.term.var ≥ q1.vars)) (some (true, ())) ((ck x14.term.add).bind fun r16 =>
  some ((!r16.1), ()))))).bind fun b17 =>
  cond b17.1
  (some (Sum.inr ((6 : Int), ())))
  (scarfjointref21_Valid.l0 k q0 q1 n (IntKind.i64.wrap (q2 + (1 : Int)))))
  (some (Sum.inl (q1, ())))
def scarfjointref21_Valid.l2 (k : Nat) (q0 : ai) : Nat → Int → Option (Sum Unit (Int × Unit))
 | 0, _ => none
 | n + 1, q1 =>
  cond (decide (q1 < q0.vars))
  ((scarfjointref21_occurs k q0 q1).bind fun r24 =>
  cond (!r24.1)
  (some (Sum.inr ((9 : Int), ())))
  (scarfjointref21_Valid.l2 k q0 n (IntKind.i64.wrap (q1 + (1 : Int)))))
  (some (Sum.inl (())))
def scarfjointref21_Valid (k : Nat) (a0 : ad) (a1 : ai) : Option (Int × Unit) :=
  (scarfjointref04_Valid k a0).bind fun r1 =>
  cond (r1.2.1 != (0 : Int))
  (some (r1.2.1, ()))
  ((scarfjointref05_Valid k a1.graph).bind fun r2 =>
  cond (r2.1 != (0 : Int))
  (some (r2.1, ()))
  ((scarfjointref17_Typed k a0 a1.graph).bind fun r3 =>
  cond (!r3.1)
  (some ((13 : Int), ()))
  ((cond (decide (a1.vars < (0 : Int))) (some (true, ())) (some ((decide (a1.vars > (12 : Int))), ()))).bind fun b4 =>
  cond b4.1
  (some ((6 : Int), ()))
  ((cond (decide ((a1.slots.length : Int) > (10 : Int))) (some (true, ())) (some ((decide ((a1.tests.length : Int) > (10 : Int))), ()))).bind fun b5 =>
  cond b5.1
  (some ((3 : Int), ()))
  ((scarfjointref21_Valid.l0 k a0 a1 k (0 : Int)).bind fun o18 =>
  aJ o18
  (fun y19 => (scarfjointref03_Valid k y19.1.vars y19.1.tests).bind fun r21 =>
  cond (r21.1 != (0 : Int))
  (some (r21.1, ()))
  ((scarfjointref21_Valid.l2 k y19.1 k (0 : Int)).bind fun o25 =>
  aJ o25
  (fun y26 => some ((0 : Int), ()))
  (fun z27 => some (z27.1, ()))))
  (fun z20 => some (z20.1, ())))))))
def scarfjointref24_slot.l0 (q0 : Int) (q1 : ai) (q2 : dR) : Nat → Int → Option (Sum Unit (Int × Unit))
 | 0, _ => none
 | n + 1, q3 =>
  cond (decide (q3 < q0))
  (((aB q1.slots q3).bind fun x9 =>
  cond (x9.node == q2.node) ((aB q1.slots q3).bind fun x10 =>
  some ((x10.attr == q2.attr), ())) (some (false, ()))).bind fun b11 =>
  cond b11.1
  (some (Sum.inr ((5 : Int), ())))
  (scarfjointref24_slot.l0 q0 q1 q2 n (IntKind.i64.wrap (q3 + (1 : Int)))))
  (some (Sum.inl (())))
def scarfjointref24_slot (k : Nat) (a0 : ad) (a1 : ai) (a2 : Int) : Option (Int × Unit) :=
  (aB a1.slots a2).bind fun x1 =>
  (cond (decide (x1.node < (0 : Int))) (some (true, ())) (some ((decide (x1.node ≥ (a1.graph.nodes.length : Int))), ()))).bind fun b2 =>
  cond b2.1
  (some ((6 : Int), ()))
  ((aB a1.graph.nodes x1.node).bind fun x3 =>
  (scarfjointref04_Attrs k a0 x3).bind fun r4 =>
  (cond (decide (x1.attr < (0 : Int))) (some (true, ())) (cond (decide (x1.attr ≥ ((r4.1).length : Int))) (some (true, ())) (cond (decide (x1.term.var < (-1 : Int))) (some (true, ())) (cond (decide (x1.term.var ≥ a1.vars)) (some (true, ())) (cond (decide (x1.term.add < (-1000000 : Int))) (some (true, ())) (some ((decide (x1.term.add > (1000000 : Int))), ()))))))).bind fun b5 =>
  cond b5.1
  (some ((6 : Int), ()))
  ((scarfjointref24_slot.l0 a2 a1 x1 k (0 : Int)).bind fun o12 =>
  aJ o12
  (fun y13 => some ((0 : Int), ()))
  (fun z14 => some (z14.1, ()))))
def scarfjointref24_right.l0 (k : Nat) (q0 : ad) (q1 : aC) : Nat → Int → Option (Sum Unit (Int × Unit))
 | 0, _ => none
 | n + 1, q2 =>
  cond (decide (q2 < (q1.right.slots.length : Int)))
  ((scarfjointref24_slot k q0 q1.right q2).bind fun r6 =>
  cond (r6.1 != (0 : Int))
  (some (Sum.inr (r6.1, ())))
  (scarfjointref24_right.l0 k q0 q1 n (IntKind.i64.wrap (q2 + (1 : Int)))))
  (some (Sum.inl (())))
def scarfjointref24_right (k : Nat) (a0 : ad) (a1 : aC) : Option (Int × Unit) :=
  (scarfjointref05_Valid k a1.right.graph).bind fun r1 =>
  cond (r1.1 != (0 : Int))
  (some (r1.1, ()))
  ((scarfjointref17_Typed k a0 a1.right.graph).bind fun r2 =>
  cond (!r2.1)
  (some ((13 : Int), ()))
  ((cond (a1.right.vars != a1.left.vars) (some (true, ())) (some ((decide ((a1.right.tests.length : Int) > (0 : Int))), ()))).bind fun b3 =>
  cond b3.1
  (some ((1 : Int), ()))
  (cond (decide ((a1.right.slots.length : Int) > (10 : Int)))
  (some ((3 : Int), ()))
  ((scarfjointref24_right.l0 k a0 a1 k (0 : Int)).bind fun o7 =>
  aJ o7
  (fun y8 => some ((0 : Int), ()))
  (fun z9 => some (z9.1, ()))))))
def scarfjointref07_ascending.l0 (q0 : List Int) (q1 : Int) : Nat → Int → Option (Sum Unit (Int × Unit))
 | 0, _ => none
 | n + 1, q2 =>
  cond (decide (q2 < (q0.length : Int)))
  (((aB q0 q2).bind fun x7 =>
  cond (decide (x7 < (0 : Int))) (some (true, ())) ((aB q0 q2).bind fun x8 =>
  some ((decide (x8 ≥ q1)), ()))).bind fun b9 =>
  cond b9.1
  (some (Sum.inr ((6 : Int), ())))
  ((cond (decide (q2 > (0 : Int))) ((aB q0 q2).bind fun x10 =>
  (aB q0 (IntKind.i64.wrap (q2 - (1 : Int)))).bind fun x11 =>
  some ((decide (x10 ≤ x11)), ())) (some (false, ()))).bind fun b12 =>
  cond b12.1
  (some (Sum.inr ((12 : Int), ())))
  (scarfjointref07_ascending.l0 q0 q1 n (IntKind.i64.wrap (q2 + (1 : Int))))))
  (some (Sum.inl (())))
def scarfjointref07_ascending (k : Nat) (a0 : List Int) (a1 : Int) : Option (Int × Unit) :=
  (scarfjointref07_ascending.l0 a0 a1 k (0 : Int)).bind fun o13 =>
  aJ o13
  (fun y14 => some ((0 : Int), ()))
  (fun z15 => some (z15.1, ()))
def scarfjointref07_has.l0 (q0 : List Int) (q1 : Int) : Nat → Int → Option (Sum Unit (Bool × Unit))
 | 0, _ => none
 | n + 1, q2 =>
  cond (decide (q2 < (q0.length : Int)))
  ((aB q0 q2).bind fun x2 =>
  cond (x2 == q1)
  (some (Sum.inr (true, ())))
  (scarfjointref07_has.l0 q0 q1 n (IntKind.i64.wrap (q2 + (1 : Int)))))
  (some (Sum.inl (())))
def scarfjointref07_has (k : Nat) (a0 : List Int) (a1 : Int) : Option (Bool × Unit) :=
  (scarfjointref07_has.l0 a0 a1 k (0 : Int)).bind fun o3 =>
  aJ o3
  (fun y4 => some (false, ()))
  (fun z5 => some (z5.1, ()))
def scarfjointref07_Right.l0 (k : Nat) (q0 : ag) (q1 : dT) : Nat → Int → Option (Sum Unit (Int × Unit))
 | 0, _ => none
 | n + 1, q2 =>
  cond (decide (q2 < (q1.edges.length : Int)))
  ((aB q1.edges q2).bind fun x13 =>
  (aB q0.edges x13).bind fun x14 =>
  ((scarfjointref07_has k q1.nodes x14.frm).bind fun r15 =>
  cond (!r15.1) (some (true, ())) ((scarfjointref07_has k q1.nodes x14.to).bind fun r16 =>
  some ((!r16.1), ()))).bind fun b17 =>
  cond b17.1
  (some (Sum.inr ((14 : Int), ())))
  (scarfjointref07_Right.l0 k q0 q1 n (IntKind.i64.wrap (q2 + (1 : Int)))))
  (some (Sum.inl (())))
def scarfjointref07_Right (k : Nat) (a0 : ag) (a1 : dT) : Option (Int × Unit) :=
  (scarfjointref07_ascending k a1.nodes (a0.nodes.length : Int)).bind fun r1 =>
  cond (r1.1 != (0 : Int))
  (some (r1.1, ()))
  ((scarfjointref07_ascending k a1.edges (a0.edges.length : Int)).bind fun r2 =>
  cond (r2.1 != (0 : Int))
  (some (r2.1, ()))
  ((scarfjointref07_Right.l0 k a0 a1 k (0 : Int)).bind fun o18 =>
  aJ o18
  (fun y19 => some ((0 : Int), ()))
  (fun z20 => some (z20.1, ()))))
def bo (k : Nat) (a0 : ag) (a1 : dT) : Option (Int × Unit) :=
  (scarfjointref05_Valid k a0).bind fun r1 =>
  cond (r1.1 != (0 : Int))
  (some (r1.1, ()))
  ((scarfjointref07_Right k a0 a1).bind fun r2 =>
  some (r2.1, ()))
def scarfjointref07_index.l0 (q0 : List Int) (q1 : Int) : Nat → Int → Option (Sum Unit (Int × Unit))
 | 0, _ => none
 | n + 1, q2 =>
  cond (decide (q2 < (q0.length : Int)))
  ((aB q0 q2).bind fun x2 =>
  cond (x2 == q1)
  (some (Sum.inr (q2, ())))
  (scarfjointref07_index.l0 q0 q1 n (IntKind.i64.wrap (q2 + (1 : Int)))))
  (some (Sum.inl (())))
def scarfjointref07_index (k : Nat) (a0 : List Int) (a1 : Int) : Option (Int × Unit) :=
  (scarfjointref07_index.l0 a0 a1 k (0 : Int)).bind fun o3 =>
  aJ o3
  (fun y4 => some ((-1 : Int), ()))
  (fun z5 => some (z5.1, ()))
def scarfjointref07_Extract.l0 (q0 : ag) (q1 : dT) (q2 : List Int) (q3 : List Edge) (q4 : List Int) (q5 : List Int) (q7 : List Edge) : Nat → (List Int) → Int → Option (ag × (dT × (((List Int) × ((List Edge) × Unit)) × (((List Int) × ((List Int) × Unit)) × (((List Int) × ((List Edge) × Unit)) × Unit)))))
 | 0, _, _ => none
 | n + 1, q6, q8 =>
  cond (decide (q8 < (q1.nodes.length : Int)))
  ((aB q1.nodes q8).bind fun x4 =>
  (aB q0.nodes x4).bind fun x5 =>
  cond (bX ((q6).length + ([x5]).length)) (scarfjointref07_Extract.l0 q0 q1 q2 q3 q4 q5 q7 n (q6 ++ [x5]) (IntKind.i64.wrap (q8 + (1 : Int)))) none)
  (some (q0, q1, (q2, q3, ()), (q4, q5, ()), (q6, q7, ()), ()))
def scarfjointref07_Extract.l2 (k : Nat) (q0 : ag) (q1 : dT) (q2 : List Int) (q3 : List Edge) (q4 : List Int) (q5 : List Int) (q6 : List Int) : Nat → (List Edge) → Int → Option (dT × (((List Int) × ((List Edge) × Unit)) × (((List Int) × ((List Int) × Unit)) × (((List Int) × ((List Edge) × Unit)) × Unit))))
 | 0, _, _ => none
 | n + 1, q7, q8 =>
  cond (decide (q8 < (q1.edges.length : Int)))
  ((aB q1.edges q8).bind fun x15 =>
  (aB q0.edges x15).bind fun x16 =>
  (scarfjointref07_index k q1.nodes x16.frm).bind fun r17 =>
  (scarfjointref07_index k q1.nodes x16.to).bind fun r18 =>
  cond (bX ((q7).length + ([(⟨x16.typ, r17.1, r18.1⟩ : Edge)]).length)) (scarfjointref07_Extract.l2 k q0 q1 q2 q3 q4 q5 q6 n (q7 ++ [(⟨x16.typ, r17.1, r18.1⟩ : Edge)]) (IntKind.i64.wrap (q8 + (1 : Int)))) none)
  (some (q1, (q2, q3, ()), (q4, q5, ()), (q6, q7, ()), ()))
def scarfjointref07_Extract (k : Nat) (a0 : ag) (a1 : dT) : Option (((List Int) × ((List Edge) × Unit)) × (((List Int) × ((List Int) × Unit)) × (Int × Unit))) :=
  (bo k a0 a1).bind fun r1 =>
  cond (r1.1 != (0 : Int))
  (some ((([] : List Int), ([] : List Edge), ()), (([] : List Int), ([] : List Int), ()), r1.1, ()))
  ((scarfjointref07_Extract.l0 a0 a1 ([] : List Int) ([] : List Edge) ([] : List Int) ([] : List Int) ([] : List Edge) k ([] : List Int) (0 : Int)).bind fun o6 =>
  (scarfjointref07_Extract.l2 k o6.1 o6.2.1 o6.2.2.1.1 o6.2.2.1.2.1 o6.2.2.2.1.1 o6.2.2.2.1.2.1 o6.2.2.2.2.1.1 k o6.2.2.2.2.1.2.1 (0 : Int)).bind fun o19 =>
  cond (bX ((([] : List Int)).length + (o19.1.nodes).length)) (cond (bX ((([] : List Int)).length + (o19.1.edges).length)) (some ((o19.2.2.2.1.1, o19.2.2.2.1.2.1, ()), ((([] : List Int) ++ o19.1.nodes), (([] : List Int) ++ o19.1.edges), ()), (0 : Int), ())) none) none)
def scarfjointref06_Valid.l0 (q0 : ag) (q1 : ag) (q2 : aO) : Nat → Int → Option (Sum (ag × (ag × (aO × Unit))) (Int × Unit))
 | 0, _ => none
 | n + 1, q3 =>
  cond (decide (q3 < (q0.nodes.length : Int)))
  (((aB q2.nodes q3).bind fun x10 =>
  cond (decide (x10 < (0 : Int))) (some (true, ())) ((aB q2.nodes q3).bind fun x11 =>
  some ((decide (x11 ≥ (q1.nodes.length : Int))), ()))).bind fun b12 =>
  cond b12.1
  (some (Sum.inr ((6 : Int), ())))
  ((aB q2.nodes q3).bind fun x13 =>
  (aB q1.nodes x13).bind fun x14 =>
  (aB q0.nodes q3).bind fun x15 =>
  cond (x14 != x15)
  (some (Sum.inr ((13 : Int), ())))
  (scarfjointref06_Valid.l0 q0 q1 q2 n (IntKind.i64.wrap (q3 + (1 : Int))))))
  (some (Sum.inl (q0, q1, q2, ())))
def scarfjointref06_Valid.l2 (q0 : ag) (q1 : ag) (q2 : aO) : Nat → Int → Option (Sum Unit (Int × Unit))
 | 0, _ => none
 | n + 1, q3 =>
  cond (decide (q3 < (q0.edges.length : Int)))
  (((aB q2.edges q3).bind fun x28 =>
  cond (decide (x28 < (0 : Int))) (some (true, ())) ((aB q2.edges q3).bind fun x29 =>
  some ((decide (x29 ≥ (q1.edges.length : Int))), ()))).bind fun b30 =>
  cond b30.1
  (some (Sum.inr ((6 : Int), ())))
  ((aB q0.edges q3).bind fun x31 =>
  (aB q2.edges q3).bind fun x32 =>
  (aB q1.edges x32).bind fun x33 =>
  cond (x31.typ != x33.typ)
  (some (Sum.inr ((13 : Int), ())))
  (((aB q2.nodes x31.frm).bind fun x34 =>
  cond (x34 != x33.frm) (some (true, ())) ((aB q2.nodes x31.to).bind fun x35 =>
  some ((x35 != x33.to), ()))).bind fun b36 =>
  cond b36.1
  (some (Sum.inr ((11 : Int), ())))
  (scarfjointref06_Valid.l2 q0 q1 q2 n (IntKind.i64.wrap (q3 + (1 : Int)))))))
  (some (Sum.inl (())))
def scarfjointref06_Valid (k : Nat) (a0 : ag) (a1 : ag) (a2 : aO) : Option (Int × Unit) :=
  (scarfjointref05_Valid k a0).bind fun r1 =>
  cond (r1.1 != (0 : Int))
  (some (r1.1, ()))
  ((scarfjointref05_Valid k a1).bind fun r2 =>
  cond (r2.1 != (0 : Int))
  (some (r2.1, ()))
  ((cond ((a2.nodes.length : Int) != (a0.nodes.length : Int)) (some (true, ())) (some (((a2.edges.length : Int) != (a0.edges.length : Int)), ()))).bind fun b3 =>
  cond b3.1
  (some ((20 : Int), ()))
  ((scarfjointref06_Valid.l0 a0 a1 a2 k (0 : Int)).bind fun o16 =>
  aJ o16
  (fun y17 => (scarfjointref06_Valid.l2 y17.1 y17.2.1 y17.2.2.1 k (0 : Int)).bind fun o37 =>
  aJ o37
  (fun y38 => some ((0 : Int), ()))
  (fun z39 => some (z39.1, ())))
  (fun z18 => some (z18.1, ())))))
def cq (k : Nat) (a0 : aC) : Option (Int × Unit) :=
  (bo k a0.left.graph a0.keep).bind fun r1 =>
  cond (r1.1 != (0 : Int))
  (some (r1.1, ()))
  ((scarfjointref07_Extract k a0.left.graph a0.keep).bind fun r2 =>
  (scarfjointref06_Valid k (⟨r2.1.1, r2.1.2.1⟩ : ag) a0.right.graph a0.into).bind fun r3 =>
  some (r3.1, ()))
def scarfjointref06_Distinct.l2 (q0 : List Int) (q1 : Int) : Nat → Int → Option (Sum ((List Int) × (Int × Unit)) (Bool × Unit))
 | 0, _ => none
 | n + 1, q2 =>
  cond (decide (q2 < q1))
  ((aB q0 q1).bind fun x3 =>
  (aB q0 q2).bind fun x4 =>
  cond (x3 == x4)
  (some (Sum.inr (false, ())))
  (scarfjointref06_Distinct.l2 q0 q1 n (IntKind.i64.wrap (q2 + (1 : Int)))))
  (some (Sum.inl (q0, q1, ())))
def scarfjointref06_Distinct.l0 (k : Nat)  : Nat → (List Int) → Int → Option (Sum Unit (Bool × Unit))
 | 0, _, _ => none
 | n + 1, q0, q1 =>
  cond (decide (q1 < (q0.length : Int)))
  ((scarfjointref06_Distinct.l2 q0 q1 k (0 : Int)).bind fun o11 =>
  aJ o11
  (fun y12 => scarfjointref06_Distinct.l0 k n y12.1 (IntKind.i64.wrap (y12.2.1 + (1 : Int))))
  (fun z13 => some (Sum.inr (z13.1, ()))))
  (some (Sum.inl (())))
def scarfjointref06_Distinct (k : Nat) (a0 : List Int) : Option (Bool × Unit) :=
  (scarfjointref06_Distinct.l0 k k a0 (0 : Int)).bind fun o14 =>
  aJ o14
  (fun y15 => some (true, ()))
  (fun z16 => some (z16.1, ()))
def ax : Nat → ad → Int → Int → Option (Bool × Unit)
 | 0, _, _, _ => none
 | k + 1, a0, a1, a2 =>
  (cond (a1 == a2) (some (true, ())) (cond (decide (a1 ≥ (0 : Int))) ((aB a0.nodes a1).bind fun x1 =>
  (ax k a0 x1.parent a2).bind fun r2 =>
  some (r2.1, ())) (some (false, ())))).bind fun b3 =>
  some (b3.1, ())
def ci (k : Nat) (a0 : ad) (a1 : Int) (a2 : Int) (a3 : Int) : Option (Bool × Unit) :=
  ((aN k a0 a2 a3).bind fun r1 =>
  cond (r1.1 != (0 : Int)) (some (true, ())) ((ah a1 (0 : Int) (IntKind.i64.wrap ((a0.edges.length : Int) - (1 : Int)))).bind fun r2 =>
  some ((!r2.1), ()))).bind fun b3 =>
  cond b3.1
  (some (false, ()))
  (((aB a0.edges a1).bind fun x4 =>
  (ax k a0 a2 x4.frm).bind fun r5 =>
  cond r5.1 ((aB a0.edges a1).bind fun x6 =>
  (ax k a0 a3 x6.to).bind fun r7 =>
  some (r7.1, ())) (some (false, ()))).bind fun b8 =>
  some (b8.1, ()))
def scarfjointref24_proper.l0 (q0 : List Int) (q1 : List Int) (q2 : ad) (q3 : ag) : Nat → Int → Option (Sum ((List Int) × (ad × (ag × Unit))) (Bool × Unit))
 | 0, _ => none
 | n + 1, q4 =>
  cond (decide (q4 < (q0.length : Int)))
  ((aB q0 q4).bind fun x4 =>
  (aB q3.nodes x4).bind fun x5 =>
  (aB q2.nodes x5).bind fun x6 =>
  cond x6.abstract
  (some (Sum.inr (false, ())))
  (scarfjointref24_proper.l0 q0 q1 q2 q3 n (IntKind.i64.wrap (q4 + (1 : Int)))))
  (some (Sum.inl (q1, q2, q3, ())))
def scarfjointref24_proper.l2 (k : Nat) (q0 : List Int) (q1 : ad) (q2 : ag) : Nat → Int → Option (Sum Unit (Bool × Unit))
 | 0, _ => none
 | n + 1, q3 =>
  cond (decide (q3 < (q0.length : Int)))
  ((aB q0 q3).bind fun x20 =>
  (aB q2.edges x20).bind fun x21 =>
  (aB q2.nodes x21.frm).bind fun x22 =>
  (aB q2.nodes x21.to).bind fun x23 =>
  (ci k q1 x21.typ x22 x23).bind fun r24 =>
  cond (!r24.1)
  (some (Sum.inr (false, ())))
  (scarfjointref24_proper.l2 k q0 q1 q2 n (IntKind.i64.wrap (q3 + (1 : Int)))))
  (some (Sum.inl (())))
def scarfjointref24_proper (k : Nat) (a0 : ad) (a1 : ag) (a2 : List Int) (a3 : List Int) : Option (Bool × Unit) :=
  (scarfjointref24_proper.l0 a2 a3 a0 a1 k (0 : Int)).bind fun o7 =>
  aJ o7
  (fun y8 => (scarfjointref24_proper.l2 k y8.1 y8.2.1 y8.2.2.1 k (0 : Int)).bind fun o25 =>
  aJ o25
  (fun y26 => some (true, ()))
  (fun z27 => some (z27.1, ())))
  (fun z9 => some (z9.1, ()))
def aP (a0 : af) : Option (Bool × Unit) :=
  (cond ((IntKind.i64.wrap ((IntKind.i64.wrap ((IntKind.i64.wrap ((a0.map.nodes.length : Int) + (a0.map.edges.length : Int))) + (a0.pattern.graph.nodes.length : Int))) + (a0.pattern.graph.edges.length : Int))) == (0 : Int)) (cond ((IntKind.i64.wrap ((a0.pattern.slots.length : Int) + (a0.pattern.tests.length : Int))) == (0 : Int)) (some ((a0.pattern.vars == (0 : Int)), ())) (some (false, ()))) (some (false, ()))).bind fun b1 =>
  some (b1.1, ())
def cb (a0 : af) : Option (Bool × Unit) :=
  cond (a0.kind == (1 : Int))
  ((cond ((a0.kids.length : Int) == (0 : Int)) ((aP a0).bind fun r1 =>
  some (r1.1, ())) (some (false, ()))).bind fun b2 =>
  some (b2.1, ()))
  (cond (a0.kind == (2 : Int))
  ((cond ((a0.kids.length : Int) == (1 : Int)) ((aP a0).bind fun r3 =>
  some (r3.1, ())) (some (false, ()))).bind fun b4 =>
  some (b4.1, ()))
  (cond (a0.kind == (3 : Int))
  (cond (a0.kind == (3 : Int))
  ((cond (decide ((a0.kids.length : Int) > (0 : Int))) ((aP a0).bind fun r5 =>
  some (r5.1, ())) (some (false, ()))).bind fun b6 =>
  some (b6.1, ()))
  (cond (a0.kind == (5 : Int))
  (some (((a0.kids.length : Int) == (1 : Int)), ()))
  (some (false, ()))))
  (cond (a0.kind == (4 : Int))
  ((cond (decide ((a0.kids.length : Int) > (0 : Int))) ((aP a0).bind fun r7 =>
  some (r7.1, ())) (some (false, ()))).bind fun b8 =>
  some (b8.1, ()))
  (cond (a0.kind == (5 : Int))
  (some (((a0.kids.length : Int) == (1 : Int)), ()))
  (some (false, ()))))))
def scarfjointref22_allRight.l0 (rec_ : af → Option (Bool × Unit)) (q0 : af) : Nat → Int → Option (Sum Unit (Bool × Unit))
 | 0, _ => none
 | n + 1, q1 =>
  cond (decide (q1 < (q0.kids.length : Int)))
  ((aB q0.kids q1).bind fun x6 =>
  (rec_ x6).bind fun r7 =>
  cond (!r7.1)
  (some (Sum.inr (false, ())))
  (scarfjointref22_allRight.l0 rec_ q0 n (IntKind.i64.wrap (q1 + (1 : Int)))))
  (some (Sum.inl (())))
def scarfjointref22_allRight : Nat → af → Option (Bool × Unit)
 | 0, _ => none
 | k + 1, a0 =>
  (cb a0).bind fun r1 =>
  cond (!r1.1)
  (some (false, ()))
  ((scarfjointref22_allRight.l0 (scarfjointref22_allRight k) a0 k (0 : Int)).bind fun o8 =>
  aJ o8
  (fun y9 => some (true, ()))
  (fun z10 => some (z10.1, ())))
def scarfjointref22_Measure.l0 (rec_ : af → Option (Int × (Int × Unit))) (q0 : af) : Nat → Int → Int → Int → Option (af × (Int × (Int × Unit)))
 | 0, _, _, _ => none
 | n + 1, q1, q2, q3 =>
  cond (decide (q3 < (q0.kids.length : Int)))
  ((aB q0.kids q3).bind fun x5 =>
  (rec_ x5).bind fun r6 =>
  scarfjointref22_Measure.l0 rec_ q0 n (IntKind.i64.wrap (q1 + r6.1)) (fF q2 r6.2.1) (IntKind.i64.wrap (q3 + (1 : Int))))
  (some (q0, q1, q2, ()))
def scarfjointref22_Measure : Nat → af → Option (Int × (Int × Unit))
 | 0, _ => none
 | k + 1, a0 =>
  (scarfjointref22_Measure.l0 (scarfjointref22_Measure k) a0 k (1 : Int) (0 : Int) (0 : Int)).bind fun o7 =>
  cond (o7.1.kind == (5 : Int))
  (some (o7.2.1, IntKind.i64.wrap (o7.2.2.1 + (1 : Int)), ()))
  (some (o7.2.1, o7.2.2.1, ()))
def c8 (k : Nat) (a0 : af) : Option (Int × Unit) :=
  (scarfjointref22_allRight k a0).bind fun r1 =>
  cond (!r1.1)
  (some ((1 : Int), ()))
  ((scarfjointref22_Measure k a0).bind fun r2 =>
  (cond (decide (r2.1 > (12 : Int))) (some (true, ())) (some ((decide (r2.2.1 > (3 : Int))), ()))).bind fun b3 =>
  cond b3.1
  (some ((3 : Int), ()))
  (some ((0 : Int), ())))
def scarfjointref22_occurs.l0 (q0 : Int) (q1 : ai) : Nat → Int → Option (Sum Unit (Bool × Unit))
 | 0, _ => none
 | n + 1, q2 =>
  cond (decide (q2 < (q1.slots.length : Int)))
  ((aB q1.slots q2).bind fun x2 =>
  cond (x2.term.var == q0)
  (some (Sum.inr (true, ())))
  (scarfjointref22_occurs.l0 q0 q1 n (IntKind.i64.wrap (q2 + (1 : Int)))))
  (some (Sum.inl (())))
def scarfjointref22_occurs (k : Nat) (a0 : ai) (a1 : Int) : Option (Bool × Unit) :=
  (scarfjointref22_occurs.l0 a1 a0 k (0 : Int)).bind fun o3 =>
  aJ o3
  (fun y4 => some (false, ()))
  (fun z5 => some (z5.1, ()))
def scarfjointref22_inner.l0 (k : Nat) (q0 : ai) (q1 : Int) : Nat → Int → Option (Sum Unit (Int × Unit))
 | 0, _ => none
 | n + 1, q2 =>
  cond (decide (q2 < q0.vars))
  ((scarfjointref22_occurs k q0 q2).bind fun r4 =>
  cond (!r4.1)
  (some (Sum.inr (q1, ())))
  (scarfjointref22_inner.l0 k q0 q1 n (IntKind.i64.wrap (q2 + (1 : Int)))))
  (some (Sum.inl (())))
def scarfjointref22_inner (k : Nat) (a0 : ad) (a1 : Int) (a2 : ai) : Option (Int × Unit) :=
  cond (decide (a2.vars < a1))
  (some ((20 : Int), ()))
  ((scarfjointref21_Valid k a0 a2).bind fun r1 =>
  cond (r1.1 != (9 : Int))
  (some (r1.1, ()))
  ((scarfjointref22_inner.l0 k a2 r1.1 k a1).bind fun o5 =>
  aJ o5
  (fun y6 => some ((0 : Int), ()))
  (fun z7 => some (z7.1, ()))))
def bU (k : Nat) (a0 : ag) (a1 : ag) (a2 : aO) : Option (Bool × Unit) :=
  ((scarfjointref06_Valid k a0 a1 a2).bind fun r1 =>
  cond (r1.1 == (0 : Int)) ((scarfjointref06_Distinct k a2.nodes).bind fun r2 =>
  cond r2.1 ((scarfjointref06_Distinct k a2.edges).bind fun r3 =>
  some (r3.1, ())) (some (false, ()))) (some (false, ()))).bind fun b4 =>
  some (b4.1, ())
def scarfjointref22_over.l0 (rec_ : ad → ai → af → Option (Int × Unit)) (q0 : ad) (q1 : af) (q2 : ai) : Nat → Int → Option (Sum Unit (Int × Unit))
 | 0, _ => none
 | n + 1, q3 =>
  cond (decide (q3 < (q1.kids.length : Int)))
  ((aB q1.kids q3).bind fun x8 =>
  (rec_ q0 q2 x8).bind fun r9 =>
  cond (r9.1 != (0 : Int))
  (some (Sum.inr (r9.1, ())))
  (scarfjointref22_over.l0 rec_ q0 q1 q2 n (IntKind.i64.wrap (q3 + (1 : Int)))))
  (some (Sum.inl (())))
def scarfjointref22_over : Nat → ad → ai → af → Option (Int × Unit)
 | 0, _, _, _ => none
 | k + 1, a0, a1, a2 =>
  cond (a2.kind == (5 : Int))
  ((scarfjointref22_inner k a0 a1.vars a2.pattern).bind fun r1 =>
  cond (r1.1 != (0 : Int))
  (some (r1.1, ()))
  ((scarfjointref06_Valid k a1.graph a2.pattern.graph a2.map).bind fun r2 =>
  cond (r2.1 != (0 : Int))
  (some (r2.1, ()))
  ((bU k a1.graph a2.pattern.graph a2.map).bind fun r3 =>
  cond (!r3.1)
  (some ((1 : Int), ()))
  ((scarfjointref22_over.l0 (scarfjointref22_over k) a0 a2 a2.pattern k (0 : Int)).bind fun o10 =>
  aJ o10
  (fun y11 => some ((0 : Int), ()))
  (fun z12 => some (z12.1, ()))))))
  ((scarfjointref22_over.l0 (scarfjointref22_over k) a0 a2 a1 k (0 : Int)).bind fun o13 =>
  aJ o13
  (fun y14 => some ((0 : Int), ()))
  (fun z15 => some (z15.1, ())))
def bZ (k : Nat) (a0 : ad) (a1 : ai) (a2 : af) : Option (Int × Unit) :=
  (scarfjointref21_Valid k a0 a1).bind fun r1 =>
  cond (r1.1 != (0 : Int))
  (some (r1.1, ()))
  ((c8 k a2).bind fun r2 =>
  cond (r2.1 != (0 : Int))
  (some (r2.1, ()))
  ((scarfjointref22_over k a0 a1 a2).bind fun r3 =>
  some (r3.1, ())))
def bp (k : Nat) (a0 : ad) (a1 : aC) : Option (Int × Unit) :=
  (scarfjointref04_Valid k a0).bind fun r1 =>
  cond (r1.2.1 != (0 : Int))
  (some (r1.2.1, ()))
  ((ay k a1.name).bind fun r2 =>
  cond (!r2.1)
  (some ((2 : Int), ()))
  ((scarfjointref21_Valid k a0 a1.left).bind fun r3 =>
  cond (r3.1 != (0 : Int))
  (some (r3.1, ()))
  ((scarfjointref24_right k a0 a1).bind fun r4 =>
  cond (r4.1 != (0 : Int))
  (some (r4.1, ()))
  ((cq k a1).bind fun r5 =>
  cond (r5.1 != (0 : Int))
  (some (r5.1, ()))
  (((scarfjointref06_Distinct k a1.into.nodes).bind fun r6 =>
  cond (!r6.1) (some (true, ())) ((scarfjointref06_Distinct k a1.into.edges).bind fun r7 =>
  some ((!r7.1), ()))).bind fun b8 =>
  cond b8.1
  (some ((11 : Int), ()))
  ((aV k a1).bind fun r9 =>
  (scarfjointref24_proper k a0 a1.right.graph r9.1 r9.2.1).bind fun r10 =>
  cond (!r10.1)
  (some ((13 : Int), ()))
  ((bZ k a0 a1.left a1.condition).bind fun r11 =>
  some (r11.1, ()))))))))
def bL (k : Nat) (a0 : aC) : Option ((List Int) × ((List Int) × Unit)) :=
  (scarfjointref24_rest k (a0.left.graph.nodes.length : Int) a0.keep.nodes).bind fun r1 =>
  (scarfjointref24_rest k (a0.left.graph.edges.length : Int) a0.keep.edges).bind fun r2 =>
  some (r1.1, r2.1, ())
def aW (k : Nat) (a0 : ad) (a1 : aC) : Option ((List Int) × ((List Int) × (Int × Unit))) :=
  (bp k a0 a1).bind fun r1 =>
  cond (r1.1 != (0 : Int))
  (some (([] : List Int), ([] : List Int), r1.1, ()))
  ((bL k a1).bind fun r2 =>
  some (r2.1, r2.2.1, (0 : Int), ()))
def scarfjointref04_Below.l0 (k : Nat) (q0 : Int) (q1 : ad) : Nat → (List Int) → Int → Option ((List Int) × Unit)
 | 0, _, _ => none
 | n + 1, q2, q3 =>
  cond (decide (q3 < (q1.nodes.length : Int)))
  ((ax k q1 q3 q0).bind fun r4 =>
  cond r4.1
  (cond (bX ((q2).length + ([q3]).length)) (scarfjointref04_Below.l0 k q0 q1 n (q2 ++ [q3]) (IntKind.i64.wrap (q3 + (1 : Int)))) none)
  (scarfjointref04_Below.l0 k q0 q1 n q2 (IntKind.i64.wrap (q3 + (1 : Int)))))
  (some (q2, ()))
def scarfjointref04_Below (k : Nat) (a0 : ad) (a1 : Int) : Option ((List Int) × (Int × Unit)) :=
  (aN k a0 a1 a1).bind fun r1 =>
  cond (r1.1 != (0 : Int))
  (some (([] : List Int), r1.1, ()))
  ((scarfjointref04_Below.l0 k a1 a0 k ([] : List Int) (0 : Int)).bind fun o5 =>
  some (o5.1, (0 : Int), ()))
def scarfjointref40_Given.l2 (k : Nat) (q0 : List aC) (q1 : ad) (q2 : Int) (q3 : List Int) : Nat → Int → Option (Sum ((List aC) × (ad × (Int × Unit))) (Int × Unit))
 | 0, _ => none
 | n + 1, q4 =>
  cond (decide (q4 < ((q3).length : Int)))
  ((aB q0 q2).bind fun x12 =>
  cond (decide (0 ≤ q4) && decide (q4 < ((q3).length : Int))) ((nth q3 (Int.toNat q4)).bind fun x13 =>
  (aB x12.left.graph.nodes x13).bind fun x14 =>
  (scarfjointref04_Below k q1 x14).bind fun r15 =>
  cond (decide (((r15.1).length : Int) > (1 : Int)))
  (some (Sum.inr ((13 : Int), ())))
  (scarfjointref40_Given.l2 k q0 q1 q2 q3 n (IntKind.i64.wrap (q4 + (1 : Int))))) none)
  (some (Sum.inl (q0, q1, q2, ())))
def scarfjointref40_Given.l0 (k : Nat)  : Nat → (List aC) → ad → Int → Option (Sum Unit (Int × Unit))
 | 0, _, _, _ => none
 | n + 1, q0, q1, q2 =>
  cond (decide (q2 < (q0.length : Int)))
  ((aB q0 q2).bind fun x24 =>
  (aW k q1 x24).bind fun r25 =>
  cond (r25.2.2.1 != (0 : Int))
  (some (Sum.inr (r25.2.2.1, ())))
  ((scarfjointref40_Given.l2 k q0 q1 q2 r25.1 k (0 : Int)).bind fun o26 =>
  aJ o26
  (fun y27 => scarfjointref40_Given.l0 k n y27.1 y27.2.1 (IntKind.i64.wrap (y27.2.2.1 + (1 : Int))))
  (fun z28 => some (Sum.inr (z28.1, ())))))
  (some (Sum.inl (())))
def scarfjointref40_Given (k : Nat) (a0 : ad) (a1 : List aC) : Option (Int × Unit) :=
  (scarfjointref04_Valid k a0).bind fun r1 =>
  cond (r1.2.1 != (0 : Int))
  (some (r1.2.1, ()))
  (cond (decide ((a1.length : Int) > (6 : Int)))
  (some ((3 : Int), ()))
  ((scarfjointref40_Given.l0 k k a1 a0 (0 : Int)).bind fun o29 =>
  aJ o29
  (fun y30 => some ((0 : Int), ()))
  (fun z31 => some (z31.1, ()))))
def scarfjointref40_places.l2 (q0 : List Int) (q1 : List Int) (q2 : ad) (q3 : ag) (q4 : List Int) (q5 : Int) : Nat → Bool → Int → Option ((List Int) × ((List Int) × (ad × (ag × ((List Int) × (Int × (Bool × Unit)))))))
 | 0, _, _ => none
 | n + 1, q6, q7 =>
  cond (decide (q7 < (q0.length : Int)))
  ((cond q6 (some (true, ())) ((aB q0 q7).bind fun x4 =>
  (aB q3.nodes x4).bind fun x5 =>
  some ((x5 == q5), ()))).bind fun b6 =>
  scarfjointref40_places.l2 q0 q1 q2 q3 q4 q5 n b6.1 (IntKind.i64.wrap (q7 + (1 : Int))))
  (some (q0, q1, q2, q3, q4, q5, q6, ()))
def scarfjointref40_places.l4 (q0 : List Int) (q1 : List Int) (q2 : ad) (q3 : ag) (q4 : List Int) (q5 : Int) : Nat → Bool → Int → Option ((List Int) × ((List Int) × (ad × (ag × ((List Int) × (Int × (Bool × Unit)))))))
 | 0, _, _ => none
 | n + 1, q6, q7 =>
  cond (decide (q7 < (q1.length : Int)))
  ((cond q6 (some (true, ())) ((aB q1 q7).bind fun x11 =>
  (aB q3.edges x11).bind fun x12 =>
  some (((IntKind.i64.wrap ((q2.nodes.length : Int) + x12.typ)) == q5), ()))).bind fun b13 =>
  scarfjointref40_places.l4 q0 q1 q2 q3 q4 q5 n b13.1 (IntKind.i64.wrap (q7 + (1 : Int))))
  (some (q0, q1, q2, q3, q4, q5, q6, ()))
def scarfjointref40_places.l0 (k : Nat)  : Nat → (List Int) → (List Int) → ad → ag → (List Int) → Int → Option ((List Int) × Unit)
 | 0, _, _, _, _, _, _ => none
 | n + 1, q0, q1, q2, q3, q4, q5 =>
  cond (decide (q5 < (IntKind.i64.wrap ((q2.nodes.length : Int) + (q2.edges.length : Int)))))
  ((scarfjointref40_places.l2 q0 q1 q2 q3 q4 q5 k false (0 : Int)).bind fun o17 =>
  (scarfjointref40_places.l4 o17.1 o17.2.1 o17.2.2.1 o17.2.2.2.1 o17.2.2.2.2.1 o17.2.2.2.2.2.1 k o17.2.2.2.2.2.2.1 (0 : Int)).bind fun o18 =>
  cond o18.2.2.2.2.2.2.1
  (cond (bX ((o18.2.2.2.2.1).length + ([o18.2.2.2.2.2.1]).length)) (scarfjointref40_places.l0 k n o18.1 o18.2.1 o18.2.2.1 o18.2.2.2.1 (o18.2.2.2.2.1 ++ [o18.2.2.2.2.2.1]) (IntKind.i64.wrap (o18.2.2.2.2.2.1 + (1 : Int)))) none)
  (scarfjointref40_places.l0 k n o18.1 o18.2.1 o18.2.2.1 o18.2.2.2.1 o18.2.2.2.2.1 (IntKind.i64.wrap (o18.2.2.2.2.2.1 + (1 : Int)))))
  (some (q4, ()))
def scarfjointref40_places (k : Nat) (a0 : ad) (a1 : ag) (a2 : List Int) (a3 : List Int) : Option ((List Int) × Unit) :=
  (scarfjointref40_places.l0 k k a2 a3 a0 a1 ([] : List Int) (0 : Int)).bind fun o19 =>
  some (o19.1, ())
def aI (k : Nat) (a0 : ad) (a1 : aC) : Option ((List Int) × Unit) :=
  (aW k a0 a1).bind fun r1 =>
  (scarfjointref40_places k a0 a1.left.graph r1.1 r1.2.1).bind fun r2 =>
  some (r2.1, ())
def bK (k : Nat) (a0 : ad) (a1 : aC) : Option ((List Int) × ((List Int) × (Int × Unit))) :=
  (bp k a0 a1).bind fun r1 =>
  cond (r1.1 != (0 : Int))
  (some (([] : List Int), ([] : List Int), r1.1, ()))
  ((aV k a1).bind fun r2 =>
  some (r2.1, r2.2.1, (0 : Int), ()))
def bx (k : Nat) (a0 : ad) (a1 : aC) : Option ((List Int) × Unit) :=
  (bK k a0 a1).bind fun r1 =>
  (scarfjointref40_places k a0 a1.right.graph r1.1 r1.2.1).bind fun r2 =>
  some (r2.1, ())
def scarfjointref40_demands.l4 (q0 : List aC) (q1 : ad) (q3 : Int) (q4 : List Int) (q5 : List Int) (q6 : Int) : Nat → (List ae) → Int → Option ((List aC) × (ad × ((List ae) × (Int × ((List Int) × ((List Int) × (Int × Unit)))))))
 | 0, _, _ => none
 | n + 1, q2, q7 =>
  cond (decide (q7 < ((q5).length : Int)))
  (cond (decide (0 ≤ q6) && decide (q6 < ((q4).length : Int))) ((nth q4 (Int.toNat q6)).bind fun x7 =>
  cond (decide (0 ≤ q7) && decide (q7 < ((q5).length : Int))) ((nth q5 (Int.toNat q7)).bind fun x8 =>
  cond (bX ((q2).length + ([(⟨q3, x7, x8, (1 : Int)⟩ : ae)]).length)) (scarfjointref40_demands.l4 q0 q1 q3 q4 q5 q6 n (q2 ++ [(⟨q3, x7, x8, (1 : Int)⟩ : ae)]) (IntKind.i64.wrap (q7 + (1 : Int)))) none) none) none)
  (some (q0, q1, q2, q3, q4, q5, q6, ()))
def scarfjointref40_demands.l2 (k : Nat)  : Nat → (List aC) → ad → (List ae) → Int → (List Int) → (List Int) → Int → Option ((List aC) × (ad × ((List ae) × (Int × Unit))))
 | 0, _, _, _, _, _, _, _ => none
 | n + 1, q0, q1, q2, q3, q4, q5, q6 =>
  cond (decide (q6 < ((q4).length : Int)))
  ((scarfjointref40_demands.l4 q0 q1 q3 q4 q5 q6 k q2 (0 : Int)).bind fun o11 =>
  scarfjointref40_demands.l2 k n o11.1 o11.2.1 o11.2.2.1 o11.2.2.2.1 o11.2.2.2.2.1 o11.2.2.2.2.2.1 (IntKind.i64.wrap (o11.2.2.2.2.2.2.1 + (1 : Int))))
  (some (q0, q1, q2, q3, ()))
def scarfjointref40_demands.l0 (k : Nat)  : Nat → (List aC) → ad → (List ae) → Int → Option ((List ae) × Unit)
 | 0, _, _, _, _ => none
 | n + 1, q0, q1, q2, q3 =>
  cond (decide (q3 < (q0.length : Int)))
  ((aB q0 q3).bind fun x18 =>
  (aI k q1 x18).bind fun r19 =>
  (aB q0 q3).bind fun x20 =>
  (bx k q1 x20).bind fun r21 =>
  (scarfjointref40_demands.l2 k k q0 q1 q2 q3 r19.1 r21.1 (0 : Int)).bind fun o22 =>
  scarfjointref40_demands.l0 k n o22.1 o22.2.1 o22.2.2.1 (IntKind.i64.wrap (o22.2.2.2.1 + (1 : Int))))
  (some (q2, ()))
def scarfjointref40_demands (k : Nat) (a0 : ad) (a1 : List aC) : Option ((List ae) × Unit) :=
  (scarfjointref40_demands.l0 k k a1 a0 ([] : List ae) (0 : Int)).bind fun o23 =>
  some (o23.1, ())
def scarfjointref40_has.l0 (q0 : List Int) (q1 : Int) : Nat → Int → Option (Sum Unit (Bool × Unit))
 | 0, _ => none
 | n + 1, q2 =>
  cond (decide (q2 < (q0.length : Int)))
  ((aB q0 q2).bind fun x2 =>
  cond (x2 == q1)
  (some (Sum.inr (true, ())))
  (scarfjointref40_has.l0 q0 q1 n (IntKind.i64.wrap (q2 + (1 : Int)))))
  (some (Sum.inl (())))
def scarfjointref40_has (k : Nat) (a0 : List Int) (a1 : Int) : Option (Bool × Unit) :=
  (scarfjointref40_has.l0 a0 a1 k (0 : Int)).bind fun o3 =>
  aJ o3
  (fun y4 => some (false, ()))
  (fun z5 => some (z5.1, ()))
def scarfjointref40_reaches.l2 (k : Nat) (q0 : List ae) (q1 : Int) (q2 : Int) (q3 : List Int) (q4 : Int) : Nat → (List Int) → Int → Option ((List ae) × (Int × (Int × (Int × ((List Int) × Unit)))))
 | 0, _, _ => none
 | n + 1, q5, q6 =>
  cond (decide (q6 < (q0.length : Int)))
  (((aB q0 q6).bind fun x13 =>
  (scarfjointref40_has k q3 x13.frm).bind fun r14 =>
  cond r14.1 ((aB q0 q6).bind fun x15 =>
  (scarfjointref40_has k q5 x15.to).bind fun r16 =>
  some ((!r16.1), ())) (some (false, ()))).bind fun b17 =>
  cond b17.1
  ((aB q0 q6).bind fun x18 =>
  cond (bX ((q5).length + ([x18.to]).length)) (scarfjointref40_reaches.l2 k q0 q1 q2 q3 q4 n (q5 ++ [x18.to]) (IntKind.i64.wrap (q6 + (1 : Int)))) none)
  (scarfjointref40_reaches.l2 k q0 q1 q2 q3 q4 n q5 (IntKind.i64.wrap (q6 + (1 : Int)))))
  (some (q0, q1, q2, q4, q5, ()))
def scarfjointref40_reaches.l0 (k : Nat)  : Nat → (List ae) → Int → Int → (List Int) → Int → Option (Int × ((List Int) × Unit))
 | 0, _, _, _, _, _ => none
 | n + 1, q0, q1, q2, q3, q4 =>
  cond (decide (q4 < q2))
  ((scarfjointref40_reaches.l2 k q0 q1 q2 q3 q4 k ([] : List Int) (0 : Int)).bind fun o21 =>
  scarfjointref40_reaches.l0 k n o21.1 o21.2.1 o21.2.2.1 o21.2.2.2.2.1 (IntKind.i64.wrap (o21.2.2.2.1 + (1 : Int))))
  (some (q1, q3, ()))
def scarfjointref40_reaches (k : Nat) (a0 : List ae) (a1 : Int) (a2 : Int) (a3 : Int) : Option (Bool × Unit) :=
  (scarfjointref40_reaches.l0 k k a0 a2 a3 [a1] (0 : Int)).bind fun o22 =>
  (scarfjointref40_has k o22.2.1 o22.1).bind fun r23 =>
  some (r23.1, ())
def scarfjointref40_chain.l0 (k : Nat) (rec_ : (List ae) → Int → Int → Int → Option ((List ae) × Unit)) (q0 : List ae) (q1 : Int) (q2 : Int) (q3 : Int) : Nat → Int → Option (Sum Unit ((List ae) × Unit))
 | 0, _ => none
 | n + 1, q4 =>
  cond (decide (q4 < (q0.length : Int)))
  ((aB q0 q4).bind fun x17 =>
  cond (x17.frm != q1)
  (scarfjointref40_chain.l0 k rec_ q0 q1 q2 q3 n (IntKind.i64.wrap (q4 + (1 : Int))))
  (cond (q3 == (1 : Int))
  ((aB q0 q4).bind fun x18 =>
  cond (x18.to == q2)
  ((aB q0 q4).bind fun x19 =>
  some (Sum.inr ([x19], ())))
  (scarfjointref40_chain.l0 k rec_ q0 q1 q2 q3 n (IntKind.i64.wrap (q4 + (1 : Int)))))
  ((aB q0 q4).bind fun x20 =>
  (scarfjointref40_reaches k q0 x20.to q2 (IntKind.i64.wrap (q3 - (1 : Int)))).bind fun r21 =>
  cond r21.1
  ((aB q0 q4).bind fun x22 =>
  (aB q0 q4).bind fun x23 =>
  (rec_ q0 x23.to q2 (IntKind.i64.wrap (q3 - (1 : Int)))).bind fun r24 =>
  cond (bX (([x22]).length + (r24.1).length)) (some (Sum.inr (([x22] ++ r24.1), ()))) none)
  (scarfjointref40_chain.l0 k rec_ q0 q1 q2 q3 n (IntKind.i64.wrap (q4 + (1 : Int)))))))
  (some (Sum.inl (())))
def scarfjointref40_chain : Nat → (List ae) → Int → Int → Int → Option ((List ae) × Unit)
 | 0, _, _, _, _ => none
 | k + 1, a0, a1, a2, a3 =>
  (scarfjointref40_chain.l0 k (scarfjointref40_chain k) a0 a1 a2 a3 k (0 : Int)).bind fun o25 =>
  aJ o25
  (fun y26 => some (([] : List ae), ()))
  (fun z27 => some (z27.1, ()))
def scarfjointref40_Reason.l0 (k : Nat) (q0 : List aC) (q1 : ad) : Nat → Int → Option (Sum ((List aC) × (ad × Unit)) ((List ae) × (Int × Unit)))
 | 0, _ => none
 | n + 1, q2 =>
  cond (decide (q2 < (q0.length : Int)))
  ((aB q0 q2).bind fun x6 =>
  (aI k q1 x6).bind fun r7 =>
  cond (((r7.1).length : Int) == (0 : Int))
  (some (Sum.inr ([(⟨q2, (-1 : Int), (-1 : Int), (0 : Int)⟩ : ae)], (0 : Int), ())))
  (scarfjointref40_Reason.l0 k q0 q1 n (IntKind.i64.wrap (q2 + (1 : Int)))))
  (some (Sum.inl (q0, q1, ())))
def scarfjointref40_Reason.l4 (k : Nat) (q0 : ad) (q1 : List ae) (q2 : Int) : Nat → Int → Option (Sum (ad × ((List ae) × (Int × Unit))) ((List ae) × (Int × Unit)))
 | 0, _ => none
 | n + 1, q3 =>
  cond (decide (q3 < ((q1).length : Int)))
  (cond (q2 == (1 : Int))
  (cond (decide (0 ≤ q3) && decide (q3 < ((q1).length : Int))) ((nth q1 (Int.toNat q3)).bind fun x30 =>
  cond (decide (0 ≤ q3) && decide (q3 < ((q1).length : Int))) ((nth q1 (Int.toNat q3)).bind fun x31 =>
  cond (x30.frm == x31.to)
  (cond (decide (0 ≤ q3) && decide (q3 ≤ IntKind.i64.wrap (q3 + (1 : Int))) && decide (IntKind.i64.wrap (q3 + (1 : Int)) ≤ ((q1).length : Int))) (cond (decide ((Int.toNat q3) ≤ (Int.toNat (IntKind.i64.wrap (q3 + (1 : Int))))) && decide ((Int.toNat (IntKind.i64.wrap (q3 + (1 : Int)))) ≤ (q1).length)) (some (Sum.inr (slc q1 (Int.toNat q3) (Int.toNat (IntKind.i64.wrap (q3 + (1 : Int)))), (0 : Int), ()))) none) none)
  (scarfjointref40_Reason.l4 k q0 q1 q2 n (IntKind.i64.wrap (q3 + (1 : Int))))) none) none)
  (cond (decide (0 ≤ q3) && decide (q3 < ((q1).length : Int))) ((nth q1 (Int.toNat q3)).bind fun x32 =>
  cond (decide (0 ≤ q3) && decide (q3 < ((q1).length : Int))) ((nth q1 (Int.toNat q3)).bind fun x33 =>
  (scarfjointref40_reaches k q1 x32.to x33.frm (IntKind.i64.wrap (q2 - (1 : Int)))).bind fun r34 =>
  cond r34.1
  (cond (decide (0 ≤ q3) && decide (q3 < ((q1).length : Int))) ((nth q1 (Int.toNat q3)).bind fun x35 =>
  cond (decide (0 ≤ q3) && decide (q3 < ((q1).length : Int))) ((nth q1 (Int.toNat q3)).bind fun x36 =>
  cond (decide (0 ≤ q3) && decide (q3 < ((q1).length : Int))) ((nth q1 (Int.toNat q3)).bind fun x37 =>
  (scarfjointref40_chain k q1 x36.to x37.frm (IntKind.i64.wrap (q2 - (1 : Int)))).bind fun r38 =>
  cond (bX (([x35]).length + (r38.1).length)) (some (Sum.inr (([x35] ++ r38.1), (0 : Int), ()))) none) none) none) none)
  (scarfjointref40_Reason.l4 k q0 q1 q2 n (IntKind.i64.wrap (q3 + (1 : Int))))) none) none))
  (some (Sum.inl (q0, q1, q2, ())))
def scarfjointref40_Reason.l2 (k : Nat)  : Nat → ad → (List ae) → Int → Option (Sum Unit ((List ae) × (Int × Unit)))
 | 0, _, _, _ => none
 | n + 1, q0, q1, q2 =>
  cond (decide (q2 ≤ (IntKind.i64.wrap ((q0.nodes.length : Int) + (q0.edges.length : Int)))))
  ((scarfjointref40_Reason.l4 k q0 q1 q2 k (0 : Int)).bind fun o45 =>
  aJ o45
  (fun y46 => scarfjointref40_Reason.l2 k n y46.1 y46.2.1 (IntKind.i64.wrap (y46.2.2.1 + (1 : Int))))
  (fun z47 => some (Sum.inr (z47.1, z47.2.1, ()))))
  (some (Sum.inl (())))
def scarfjointref40_Reason (k : Nat) (a0 : ad) (a1 : List aC) : Option ((List ae) × (Int × Unit)) :=
  (scarfjointref40_Given k a0 a1).bind fun r1 =>
  cond (r1.1 != (0 : Int))
  (some (([] : List ae), r1.1, ()))
  ((scarfjointref40_Reason.l0 k a1 a0 k (0 : Int)).bind fun o8 =>
  aJ o8
  (fun y9 => (scarfjointref40_demands k y9.2.1 y9.1).bind fun r11 =>
  (scarfjointref40_Reason.l2 k k y9.2.1 r11.1 (1 : Int)).bind fun o48 =>
  aJ o48
  (fun y49 => some (([] : List ae), (10 : Int), ()))
  (fun z50 => some (z50.1, z50.2.1, ())))
  (fun z10 => some (z10.1, z10.2.1, ())))
def api_Demand_70.l0 (q0 : List ae) (q1 : ae) (q2 : Int) : Nat → Int → Option (Sum Unit (Int × Unit))
 | 0, _ => none
 | n + 1, q3 =>
  cond (decide (q3 < q2))
  ((aB q0 q3).bind fun x2 =>
  cond ((q1.rule == x2.rule) && ((q1.frm == x2.frm) && ((q1.to == x2.to) && ((q1.strict == x2.strict) && true))))
  (some (Sum.inr (q3, ())))
  (api_Demand_70.l0 q0 q1 q2 n (IntKind.i64.wrap (q3 + (1 : Int)))))
  (some (Sum.inl (())))
def api_Demand_70 (a0 : List ae) (a1 : ae) : Option (Int × Unit) :=
  (api_Demand_70.l0 a0 a1 (a0.length : Int) (Int.toNat (a0.length : Int) + 1) (0 : Int)).bind fun o3 =>
  aJ o3
  (fun y4 => some ((-1 : Int), ()))
  (fun z5 => some (z5.1, ()))
def fH (a0 : List ae) (a1 : ae) : Option (Bool × Unit) :=
  (api_Demand_70 a0 a1).bind fun r1 =>
  some ((decide (r1.1 ≥ (0 : Int))), ())
def layering_CheckReason.l0 (q0 : List ae) (q2 : List ae) (q3 : Int) : Nat → Int → Int → Option (Sum Unit (Bool × Unit))
 | 0, _, _ => none
 | n + 1, q1, q4 =>
  cond (decide (q4 < q3))
  ((aB q2 q4).bind fun x12 =>
  ((fH q0 x12).bind fun r13 =>
  cond (!r13.1) (some (true, ())) (some ((x12.frm != q1), ()))).bind fun b14 =>
  cond b14.1
  (some (Sum.inr (false, ())))
  (layering_CheckReason.l0 q0 q2 q3 n x12.to (IntKind.i64.wrap (q4 + (1 : Int)))))
  (some (Sum.inl (())))
def layering_CheckReason (k : Nat) (a0 : ad) (a1 : List aC) (a2 : List ae) : Option (Bool × Unit) :=
  (layering_given k a0 a1).bind fun r1 =>
  (cond (r1.2.1 != (0 : Int)) (some (true, ())) (cond ((a2.length : Int) == (0 : Int)) (some (true, ())) (some ((decide ((a2.length : Int) > (40 : Int))), ())))).bind fun b2 =>
  cond b2.1
  (some (false, ()))
  ((aB a2 (0 : Int)).bind fun x3 =>
  (cond ((a2.length : Int) == (1 : Int)) (some ((x3.strict == (0 : Int)), ())) (some (false, ()))).bind fun b4 =>
  cond b4.1
  ((cond (x3.frm == (-1 : Int)) (cond (x3.to == (-1 : Int)) (cond (decide (x3.rule ≥ (0 : Int))) (cond (decide (x3.rule < ((r1.1).length : Int))) (cond (decide (0 ≤ x3.rule) && decide (x3.rule < ((r1.1).length : Int))) ((nth r1.1 (Int.toNat x3.rule)).bind fun x5 =>
  some (((x5.deletes.length : Int) == (0 : Int)), ())) none) (some (false, ()))) (some (false, ()))) (some (false, ()))) (some (false, ()))).bind fun b6 =>
  some (b6.1, ()))
  ((layering_demands k r1.1).bind fun r7 =>
  (aB a2 (IntKind.i64.wrap ((a2.length : Int) - (1 : Int)))).bind fun x8 =>
  (layering_CheckReason.l0 r7.1 a2 (a2.length : Int) (Int.toNat (a2.length : Int) + 1) x8.to (0 : Int)).bind fun o15 =>
  aJ o15
  (fun y16 => some (true, ()))
  (fun z17 => some (z17.1, ()))))
def aK (k : Nat) (a0 : ad) (a1 : List aC) : Option (Bool × Unit) :=
  ((bH k).bind fun r1 =>
  cond (!r1.1) (some (true, ())) ((scarfjointref40_Few k a0 a1).bind fun r2 =>
  some ((!r2.1), ()))).bind fun b3 =>
  cond b3.1
  ((bH k).bind fun r4 =>
  some (r4.1, ()))
  ((iR a1).bind fun r5 =>
  (cK k a0 r5.1).bind fun r6 =>
  (scarfjointref40_Reason k a0 a1).bind fun r7 =>
  (cond (r6.2.1 != r7.2.1) (some (true, ())) ((api_Demand_13 r6.1 r7.1).bind fun r8 =>
  some ((!r8.1), ()))).bind fun b9 =>
  cond b9.1
  (some (false, ()))
  ((cQ k a0 a1).bind fun r10 =>
  cond (r6.2.1 == (0 : Int))
  ((cond (r10.2.1 == (10 : Int)) ((layering_CheckReason k a0 a1 r6.1).bind fun r11 =>
  some (r11.1, ())) (some (false, ()))).bind fun b12 =>
  some (b12.1, ()))
  (cond (r6.2.1 == (10 : Int))
  (some ((r10.2.1 == (0 : Int)), ()))
  (some ((r10.2.1 == r6.2.1), ())))))
def scarfjointref05_SameInts.l0 (q0 : List Int) (q1 : List Int) : Nat → Int → Option (Sum Unit (Bool × Unit))
 | 0, _ => none
 | n + 1, q2 =>
  cond (decide (q2 < (q0.length : Int)))
  ((aB q0 q2).bind fun x3 =>
  (aB q1 q2).bind fun x4 =>
  cond (x3 != x4)
  (some (Sum.inr (false, ())))
  (scarfjointref05_SameInts.l0 q0 q1 n (IntKind.i64.wrap (q2 + (1 : Int)))))
  (some (Sum.inl (())))
def scarfjointref05_SameInts (k : Nat) (a0 : List Int) (a1 : List Int) : Option (Bool × Unit) :=
  cond ((a0.length : Int) != (a1.length : Int))
  (some (false, ()))
  ((scarfjointref05_SameInts.l0 a0 a1 k (0 : Int)).bind fun o5 =>
  aJ o5
  (fun y6 => some (true, ()))
  (fun z7 => some (z7.1, ())))
def scarfjointref40_raise.l2 (q0 : List aC) (q1 : List Int) (q2 : ad) (q3 : List Int) (q4 : List Int) (q5 : Int) (q6 : List Int) (q7 : List Int) : Nat → Int → Int → Option ((List aC) × ((List Int) × (ad × ((List Int) × ((List Int) × (Int × ((List Int) × (Int × Unit))))))))
 | 0, _, _ => none
 | n + 1, q8, q9 =>
  cond (decide (q9 < ((q6).length : Int)))
  (cond (decide (0 ≤ q9) && decide (q9 < ((q6).length : Int))) ((nth q6 (Int.toNat q9)).bind fun x7 =>
  (aB q1 x7).bind fun x8 =>
  scarfjointref40_raise.l2 q0 q1 q2 q3 q4 q5 q6 q7 n (fF q8 x8) (IntKind.i64.wrap (q9 + (1 : Int)))) none)
  (some (q0, q1, q2, q3, q4, q5, q7, q8, ()))
def scarfjointref40_raise.l4 (q0 : List aC) (q1 : List Int) (q2 : ad) (q3 : List Int) (q5 : Int) (q6 : List Int) (q7 : Int) : Nat → (List Int) → Int → Option ((List aC) × ((List Int) × (ad × ((List Int) × ((List Int) × (Int × Unit))))))
 | 0, _, _ => none
 | n + 1, q4, q8 =>
  cond (decide (q8 < ((q6).length : Int)))
  (cond (decide (0 ≤ q8) && decide (q8 < ((q6).length : Int))) ((nth q6 (Int.toNat q8)).bind fun x14 =>
  cond (decide (0 ≤ q8) && decide (q8 < ((q6).length : Int))) ((nth q6 (Int.toNat q8)).bind fun x15 =>
  cond (decide (0 ≤ x15) && decide (x15 < ((q4).length : Int))) ((nth q4 (Int.toNat x15)).bind fun x16 =>
  cond (decide (0 ≤ x14) && decide (x14 < ((q4).length : Int))) ((nth q4 (Int.toNat x14)).bind fun x17 =>
  scarfjointref40_raise.l4 q0 q1 q2 q3 q5 q6 q7 n ((q4).set (Int.toNat x14) (fF x16 (IntKind.i64.wrap (q7 + (1 : Int))))) (IntKind.i64.wrap (q8 + (1 : Int)))) none) none) none) none)
  (some (q0, q1, q2, q3, q4, q5, ()))
def scarfjointref40_raise.l0 (k : Nat)  : Nat → (List aC) → (List Int) → ad → (List Int) → (List Int) → Int → Option ((List Int) × ((List Int) × Unit))
 | 0, _, _, _, _, _, _ => none
 | n + 1, q0, q1, q2, q3, q4, q5 =>
  cond (decide (q5 < (q0.length : Int)))
  ((aB q0 q5).bind fun x25 =>
  (aI k q2 x25).bind fun r26 =>
  (aB q0 q5).bind fun x27 =>
  (bx k q2 x27).bind fun r28 =>
  (scarfjointref40_raise.l2 q0 q1 q2 q3 q4 q5 r26.1 r28.1 k (0 : Int) (0 : Int)).bind fun o29 =>
  cond (bX ((o29.2.2.2.1).length + ([o29.2.2.2.2.2.2.2.1]).length)) ((scarfjointref40_raise.l4 o29.1 o29.2.1 o29.2.2.1 (o29.2.2.2.1 ++ [o29.2.2.2.2.2.2.2.1]) o29.2.2.2.2.2.1 o29.2.2.2.2.2.2.1 o29.2.2.2.2.2.2.2.1 k o29.2.2.2.2.1 (0 : Int)).bind fun o30 =>
  scarfjointref40_raise.l0 k n o30.1 o30.2.1 o30.2.2.1 o30.2.2.2.1 o30.2.2.2.2.1 (IntKind.i64.wrap (o30.2.2.2.2.2.1 + (1 : Int)))) none)
  (some (q3, q4, ()))
def scarfjointref40_raise (k : Nat) (a0 : ad) (a1 : List aC) (a2 : List Int) : Option ((List Int) × ((List Int) × Unit)) :=
  cond (bX ((([] : List Int)).length + (a2).length)) ((scarfjointref40_raise.l0 k k a1 a2 a0 ([] : List Int) (([] : List Int) ++ a2) (0 : Int)).bind fun o31 =>
  some (o31.1, o31.2.1, ())) none
def scarfjointref40_least.l0 (k : Nat) (q0 : List aC) (q1 : ad) (q2 : List Int) (q3 : List Int) (q4 : List Int) : Nat → Int → Option (Sum ((List aC) × (ad × (((List Int) × ((List Int) × ((List Int) × Unit))) × Unit))) (((List Int) × ((List Int) × ((List Int) × Unit))) × (Bool × Unit)))
 | 0, _ => none
 | n + 1, q5 =>
  cond (decide (q5 < (q0.length : Int)))
  ((aB q0 q5).bind fun x5 =>
  (aI k q1 x5).bind fun r6 =>
  cond (((r6.1).length : Int) == (0 : Int))
  (some (Sum.inr ((([] : List Int), ([] : List Int), ([] : List Int), ()), false, ())))
  (scarfjointref40_least.l0 k q0 q1 q2 q3 q4 n (IntKind.i64.wrap (q5 + (1 : Int)))))
  (some (Sum.inl (q0, q1, (q2, q3, q4, ()), ())))
def scarfjointref40_least.l2 (k : Nat) (q0 : List aC) (q1 : ad) (q2 : List Int) (q3 : List Int) (q4 : List Int) (q5 : Int) : Nat → (List Int) → Int → Option (Sum (((List Int) × ((List Int) × ((List Int) × Unit))) × Unit) (((List Int) × ((List Int) × ((List Int) × Unit))) × (Bool × Unit)))
 | 0, _, _ => none
 | n + 1, q6, q7 =>
  cond (decide (q7 ≤ (IntKind.i64.wrap (q5 + (1 : Int)))))
  ((scarfjointref40_raise k q1 q0 q6).bind fun r14 =>
  (scarfjointref05_SameInts k q6 r14.2.1).bind fun r15 =>
  cond r15.1
  (cond (decide (0 ≤ (0 : Int)) && decide ((0 : Int) ≤ (q1.nodes.length : Int)) && decide ((q1.nodes.length : Int) ≤ ((q6).length : Int))) (cond (decide (0 ≤ (q1.nodes.length : Int)) && decide ((q1.nodes.length : Int) ≤ ((q6).length : Int)) && decide (((q6).length : Int) ≤ ((q6).length : Int))) (cond (decide (0 ≤ (Int.toNat (q1.nodes.length : Int))) && decide ((Int.toNat (q1.nodes.length : Int)) ≤ (q6).length)) (cond (decide ((Int.toNat (q1.nodes.length : Int)) ≤ (Int.toNat ((q6).length : Int))) && decide ((Int.toNat ((q6).length : Int)) ≤ (q6).length)) (some (Sum.inr ((r14.1, slc q6 0 (Int.toNat (q1.nodes.length : Int)), slc q6 (Int.toNat (q1.nodes.length : Int)) (Int.toNat ((q6).length : Int)), ()), true, ()))) none) none) none) none)
  (scarfjointref40_least.l2 k q0 q1 q2 q3 q4 q5 n r14.2.1 (IntKind.i64.wrap (q7 + (1 : Int)))))
  (some (Sum.inl ((q2, q3, q4, ()), ())))
def scarfjointref40_least (k : Nat) (a0 : ad) (a1 : List aC) : Option (((List Int) × ((List Int) × ((List Int) × Unit))) × (Bool × Unit)) :=
  (scarfjointref40_least.l0 k a1 a0 ([] : List Int) ([] : List Int) ([] : List Int) k (0 : Int)).bind fun o7 =>
  aJ o7
  (fun y8 => cond (decide (0 ≤ IntKind.i64.wrap ((y8.2.1.nodes.length : Int) + (y8.2.1.edges.length : Int))) && decide (IntKind.i64.wrap ((y8.2.1.nodes.length : Int) + (y8.2.1.edges.length : Int)) ≤ IntKind.i64.wrap ((y8.2.1.nodes.length : Int) + (y8.2.1.edges.length : Int))) && bX (Int.toNat (IntKind.i64.wrap ((y8.2.1.nodes.length : Int) + (y8.2.1.edges.length : Int))))) ((scarfjointref40_least.l2 k y8.1 y8.2.1 y8.2.2.1.1 y8.2.2.1.2.1 y8.2.2.1.2.2.1 (IntKind.i64.wrap ((y8.2.1.nodes.length : Int) + (y8.2.1.edges.length : Int))) k (List.replicate (Int.toNat (IntKind.i64.wrap ((y8.2.1.nodes.length : Int) + (y8.2.1.edges.length : Int)))) (0 : Int)) (0 : Int)).bind fun o16 =>
  aJ o16
  (fun y17 => some ((([] : List Int), ([] : List Int), ([] : List Int), ()), false, ()))
  (fun z18 => some ((z18.1.1, z18.1.2.1, z18.1.2.2.1, ()), z18.2.1, ()))) none)
  (fun z9 => some ((z9.1.1, z9.1.2.1, z9.1.2.2.1, ()), z9.2.1, ()))
def gZ (k : Nat) (a0 : ad) (a1 : List aC) : Option (((List Int) × ((List Int) × ((List Int) × Unit))) × (Int × Unit)) :=
  (scarfjointref40_Given k a0 a1).bind fun r1 =>
  cond (r1.1 != (0 : Int))
  (some ((([] : List Int), ([] : List Int), ([] : List Int), ()), r1.1, ()))
  ((scarfjointref40_least k a0 a1).bind fun r2 =>
  cond (!r2.2.1)
  (some ((([] : List Int), ([] : List Int), ([] : List Int), ()), (10 : Int), ()))
  (some ((r2.1.1, r2.1.2.1, r2.1.2.2.1, ()), (0 : Int), ())))
end Go.Ev
end
