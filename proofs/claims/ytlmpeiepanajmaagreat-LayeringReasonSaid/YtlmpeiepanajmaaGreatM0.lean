import GoSem.Core.Code
import Derived.KernelRfl
import GoSem.Core.Sem
import GoSem.Op.String
import Derived.Below
import Derived.Control
import Derived.Calls
import Derived.Orders
import Derived.Laws.CopyRow
import Derived.Laws.OwnMore
import Derived.Laws.StructEq
import Derived.Laws.Strings2
import Derived.MapKept
set_option linter.all false
section
namespace Go.Ev
inductive Ty where
 | int (k : IntKind) | bool | str | slice (e : Ty) | arr (n : Nat) (e : Ty) | nm (n : Nat) | ptr (t : Ty) | unit | pair (a b : Ty) | sum (a b : Ty) | fn (d c : Ty)
def ph : IntKind → Nat
 | .i8 => 0 | .i16 => 1 | .i32 => 2 | .i64 => 3 | .u8 => 4 | .u16 => 5 | .u32 => 6 | .u64 => 7
def Ty.beq : Ty → Ty → Bool
 | .int k, .int k' => Nat.beq (ph k) (ph k')
 | .bool, .bool => true
 | .str, .str => true
 | .slice a, .slice b => a.beq b
 | .arr n a, .arr m b => Nat.beq n m && a.beq b
 | .nm n, .nm m => Nat.beq n m
 | .ptr a, .ptr b => a.beq b
 | .unit, .unit => true
 | .pair a b, .pair c d => a.beq c && b.beq d
 | .sum a b, .sum c d => a.beq c && b.beq d
 | .fn a b, .fn c d => a.beq c && b.beq d
 | _, _ => false
theorem mG {a b : IntKind} (h : ph a = ph b) : a = b := by
 cases a <;> cases b <;> first | rfl | (simp [ph] at h)
theorem Ty.eq_of_beq : ∀ {a b : Ty}, a.beq b = true → a = b := by
 intro a
 induction a with
 | int k => intro b h; cases b <;> simp [Ty.beq] at h; rw [mG h]
 | bool => intro b h; cases b <;> simp [Ty.beq] at h; rfl
 | str => intro b h; cases b <;> simp [Ty.beq] at h; rfl
 | slice a ih => intro b h; cases b <;> simp [Ty.beq] at h; rw [ih h]
 | arr n a ih => intro b h; cases b <;> simp [Ty.beq] at h; rw [h.1, ih h.2]
 | nm n => intro b h; cases b <;> simp [Ty.beq] at h; rw [h]
 | ptr a ih => intro b h; cases b <;> simp [Ty.beq] at h; rw [ih h]
 | unit => intro b h; cases b <;> simp [Ty.beq] at h; rfl
 | pair a c iha ihc => intro b h; cases b <;> simp [Ty.beq] at h; rw [iha h.1, ihc h.2]
 | sum a c iha ihc => intro b h; cases b <;> simp [Ty.beq] at h; rw [iha h.1, ihc h.2]
 | fn a c iha ihc => intro b h; cases b <;> simp [Ty.beq] at h; rw [iha h.1, ihc h.2]
def ap (C : Nat → Type) : Ty → Type
 | .int _ => Int
 | .bool => Bool
 | .str => ByteArray
 | .slice e => List (ap C e)
 | .arr _ e => List (ap C e)
 | .nm n => C n
 | .ptr t => ap C t
 | .unit => Unit
 | .pair a b => ap C a × ap C b
 | .sum a b => Sum (ap C a) (ap C b)
 | .fn d c => ap C d → Option (ap C c)
inductive AV (C : Nat → Type) where
 | pv (t : Ty) (x : ap C t)
 | nils
 | row (i : Nat)
 | sub (i lo hi : Nat)
 | adr (i : Nat) (p : List Nat) (t : Ty)
 | agg (n : Nat) (fs : List (AV C))
 | tup (fs : List (AV C))
 | clo (f : Nat) (cs : List (AV C))
 | undef
inductive Ob (C : Nat → Type) where
 | dead
 | box (t : Ty) (v : AV C) (fz : Bool)
 | row (t : Ty) (l : List (ap C t)) (fz : Bool)
inductive Sh where
 | hole (t : Ty)
 | rowh (t : Ty)
 | boxh (t : Ty) (s : Sh)
 | aggh (n : Nat) (ss : List Sh)
 | same (j : Nat)
 | part (j : Nat)
 | nilh
structure dD where
 C : Nat → Type
 fld : Nat → Ty
 proj : ∀ n, C n → ap C (fld n)
 new : ∀ n, ap C (fld n) → C n
 siz : Nat → Nat
 tid : List (Option Ty)
 eqs : Nat → Bool
def dD.ty (E : dD) (t : TypeId) : Option Ty := match E.tid[t]? with | some o => o | none => none
mutual
def jL : Sh → Ty
 | .hole t => t
 | .rowh t => .slice t
 | .boxh _ s => jL s
 | .aggh _ ss => bh ss
 | .same _ => .unit
 | .part _ => .pair (.int .i64) (.int .i64)
 | .nilh => .unit
def bh : List Sh → Ty
 | [] => .unit
 | s :: r => .pair (jL s) (bh r)
end
mutual
def cN : Sh → Nat
 | .hole _ => 0
 | .rowh _ => 1
 | .boxh _ s => cN s + 1
 | .aggh _ ss => f6 ss
 | .same _ => 0
 | .part _ => 0
 | .nilh => 0
def f6 : List Sh → Nat
 | [] => 0
 | s :: r => cN s + f6 r
end
structure lr (C : Nat → Type) where
 ins : List Sh
 outs : List Sh
 fn : ap C (bh ins) → Option (ap C (bh outs))
structure mc (C : Nat → Type) where
 caps : Ty
 d : Ty
 c : Ty
 fn : ap C caps → ap C d → Option (ap C c)
inductive cw (C : Nat → Type) where | f (s : lr C) | c (s : mc C)
def s7 {β : Type} (f : Nat) : List (Nat × β) → Option β
 | [] => none
 | (g, s) :: r => cond (Nat.beq f g) (some s) (s7 f r)
def oJ {C : Nat → Type} (f : Nat) : List (Nat × cw C) → Option (lr C)
 | [] => none
 | (g, s) :: r => match s with | .f s => cond (Nat.beq f g) (some s) (oJ f r) | _ => oJ f r
def lh {C : Nat → Type} (f : Nat) : List (Nat × cw C) → Option (mc C)
 | [] => none
 | (g, s) :: r => match s with | .c s => cond (Nat.beq f g) (some s) (lh f r) | _ => lh f r
inductive HM (C : Nat → Type) (α : Type) where
 | ret (a : α)
 | fail
 | get (i : Nat) (k : Ob C → HM C α)
 | gd (b : Bool) (k : HM C α)
 | br (b : Bool) (k : Bool → HM C α)
 | call (t : Ty) (x : Option (ap C t)) (k : ap C t → HM C α)
def kF {C : Nat → Type} {α R : Type} (H : List (Ob C)) : HM C α → List Nat → (α → List Nat → Option R) → Option R
 | .ret a, T, k => k a T
 | .fail, _, _ => none
 | .get i f, T, k => match H[i]? with | some o => kF H (f o) (i :: T) k | none => none
 | .gd b m, T, k => cond b (kF H m T k) none
 | .br b f, T, k => cond b (kF H (f true) T k) (kF H (f false) T k)
 | .call _ x f, T, k => x.bind fun v => kF H (f v) T k
def A4 {C : Nat → Type} {α : Type} (t t' : Ty) (x : ap C t) (k : ap C t' → HM C α) : HM C α :=
 if h : t.beq t' = true then k (Ty.eq_of_beq h ▸ x) else .fail
def wl {C : Nat → Type} {α : Type} (t t' : Ty) (x : List (ap C t)) (k : List (ap C t') → HM C α) : HM C α :=
 if h : t.beq t' = true then k (Ty.eq_of_beq h ▸ x) else .fail
def nth {α : Type} (l : List α) (i : Nat) : Option α := l[i]?
def aB {α : Type} (l : List α) (i : Int) : Option α := cond (decide (0 ≤ i)) (nth l i.toNat) none
def slc {α : Type} (l : List α) (lo hi : Nat) : List α := (l.take hi).drop lo
def kv (s : ByteArray) (i : Int) : Option Int := cond (decide (0 ≤ i)) ((s.data[i.toNat]?).map fun b => (b.toNat : Int)) none
def zC : Nat := 68719476736
def bX (n : Nat) : Bool := Nat.ble n zC
section
variable (E : dD)
def ku {α : Type} : (t : Ty) → ap E.C t → Nat → ((t : Ty) → ap E.C t → HM E.C α) → HM E.C α
 | .pair a _, x, 0, k => k a x.1
 | .pair _ b, x, i + 1, k => ku b x.2 i k
 | _, _, _, _ => .fail
def fW {α : Type} : List Nat → AV E.C → (AV E.C → HM E.C α) → HM E.C α
 | [], v, k => k v
 | i :: p, .agg _ fs, k => match fs[i]? with | some v => fW p v k | none => .fail
 | i :: p, .pv (.nm n) x, k => ku E (E.fld n) (E.proj n x) i fun t y => fW p (.pv t y) k
 | i :: p, .pv (.arr _ e) x, k => .call e (nth (α := ap E.C e) x i) fun y => fW p (.pv e y) k
 | _, _, _ => .fail
def nr : (t : Ty) → ap E.C t → List (AV E.C)
 | .pair a b, x => .pv a x.1 :: nr b x.2
 | _, _ => []
def an {β : Type 0} : List β → Nat → β → List β
 | [], _, _ => []
 | _ :: r, 0, y => y :: r
 | x :: r, n + 1, y => x :: an r n y
def i7 {α : Type} : List Nat → AV E.C → AV E.C → (AV E.C → HM E.C α) → HM E.C α
 | [], _, y, k => k y
 | i :: p, .agg n fs, y, k => match fs[i]? with | some v => i7 p v y fun v' => k (.agg n (an fs i v')) | none => .fail
 | i :: p, .pv (.nm n) x, y, k => match (nr E (E.fld n) (E.proj n x))[i]? with | some v => i7 p v y fun v' => k (.agg n (an (nr E (E.fld n) (E.proj n x)) i v')) | none => .fail
 | _, _, _, _ => .fail
def eQ : Nat → (t : Ty) → Option (ap E.C t)
 | _, .int _ => some (0 : Int)
 | _, .bool => some false
 | _, .str => some (⟨#[]⟩ : ByteArray)
 | _, .slice _ => some []
 | _, .unit => some ()
 | d + 1, .pair a b => match eQ d a, eQ d b with | some x, some y => some (x, y) | _, _ => none
 | d + 1, .nm n => match eQ d (E.fld n) with | some x => some (E.new n x) | none => none
 | d + 1, .arr n e => match eQ d e with | some x => some (List.replicate n x) | none => none
 | _, _ => none
def iH : Nat → Ty → List (AV E.C)
 | _, .int k => [.pv (.int k) (0 : Int)]
 | _, .bool => [.pv .bool false]
 | _, .str => [.pv .str (⟨#[]⟩ : ByteArray)]
 | _, .slice _ => [.nils]
 | _, .unit => []
 | d + 1, .pair a b => iH d a ++ iH d b
 | d + 1, .nm n => [.agg n (iH d (E.fld n))]
 | d + 1, .arr n e => match eQ E d e with | some x => [.pv (.arr n e) (List.replicate n x : List (ap E.C e))] | none => [.undef]
 | _, _ => [.undef]
def scal : Nat → Ty → Bool
 | _, .int _ => true
 | _, .bool => true
 | _, .str => true
 | _, .unit => true
 | d + 1, .pair a b => scal d a && scal d b
 | d + 1, .arr _ e => scal d e
 | d + 1, .nm n => scal d (E.fld n)
 | _, _ => false
def szT : Ty → Nat
 | .nm n => E.siz n
 | .arr n e => n * szT e
 | .unit => 0
 | .pair a b => szT a + szT b
 | _ => 1
def ie : Ty → Nat → Option (Nat × Ty)
 | .pair a _, 0 => some (0, a)
 | .pair a b, i + 1 => match ie b i with | some (o, t) => some (szT E a + o, t) | none => none
 | _, _ => none
def fM : List Nat → Ty → Option (Nat × Ty)
 | [], t => some (0, t)
 | i :: p, .nm n => match ie E (E.fld n) i with
  | some (o, t) => match fM p t with | some (o', t') => some (o + o', t') | none => none
  | none => none
 | i :: p, .arr _ e => match fM p e with | some (o', t') => some (i * szT E e + o', t') | none => none
 | _ :: _, _ => none
def ux : Nat → Ty → Bool
 | _, .int _ => true
 | _, .bool => true
 | _, .str => true
 | _, .slice _ => true
 | _, .unit => true
 | d + 1, .pair a b => ux d a && ux d b
 | d + 1, .nm n => ux d (E.fld n)
 | d + 1, .arr _ e => ux d e
 | _, _ => false
variable (F : List (Nat × cw E.C))
mutual
def jP {α : Type} : Nat → (t : Ty) → AV E.C → List Nat → (ap E.C t → List Nat → HM E.C α) → HM E.C α
 | 0, _, _, _, _ => .fail
 | d + 1, t, v, T, k => match v with
  | .pv t' x => A4 t' t x fun y => k y T
  | .nils => match t, k with
   | .slice _, k => k [] T
   | _, _ => .fail
  | .row i => match t, k with
   | .slice e, k => .get i fun o => match o with
    | .row e' l fz => wl e' e l fun y => k y (cond fz T (i :: T))
    | _ => .fail
   | _, _ => .fail
  | .sub i lo hi => match t, k with
   | .slice e, k => .get i fun o => match o with
    | .row e' l fz => wl e' e l fun y => .gd (decide (lo ≤ hi) && decide (hi ≤ y.length)) (k (slc y lo hi) (cond fz T (i :: T)))
    | _ => .fail
   | _, _ => .fail
  | .agg n' fs => match t, k with
   | .nm n, k => cond (Nat.beq n n') (mw d (E.fld n) fs T fun y T => k (E.new n y) T) .fail
   | _, _ => .fail
  | .adr i p _ => match t, k with
   | .ptr t, k => .get i fun o => match o with
    | .box _ v fz => fW E p v fun v' => jP d t v' (cond fz T (i :: T)) k
    | .row e l fz => match p with
     | j :: p => .call e (nth l j) fun x => fW E p (.pv e x) fun v' => jP d t v' (cond fz T (i :: T)) k
     | [] => .fail
    | .dead => .fail
   | _, _ => .fail
  | .clo f cs => match lh f F with
   | some s => mw d s.caps cs T fun y T => A4 (.fn s.d s.c) t (s.fn y) fun g => k g T
   | _ => .fail
  | _ => .fail
def mw {α : Type} : Nat → (t : Ty) → List (AV E.C) → List Nat → (ap E.C t → List Nat → HM E.C α) → HM E.C α
 | 0, _, _, _, _ => .fail
 | d + 1, t, vs, T, k => match t, vs, k with
  | .unit, [], k => k () T
  | .pair a b, v :: vs, k => jP d a v T fun x T => mw d b vs T fun y T => k (x, y) T
  | _, _, _ => .fail
end
end
end Go.Ev
end
section
namespace Go.Ev
def fF (x y : Int) : Int := cond (decide (y > x)) y x
def AN (x y : Int) : Int := cond (decide (y < x)) y x
def bits (f : (n : Nat) → BitVec n → BitVec n → BitVec n) (k : IntKind) (x y : Int) : Int := k.wrap (f k.bits (BitVec.ofInt k.bits x) (BitVec.ofInt k.bits y)).toNat
def nu {α : Type} (l : List α) (lo : Nat) (ys : List α) : List α := l.take lo ++ ys ++ l.drop (lo + ys.length)
def di (x y : ByteArray) : Bool := decide (x = y)
structure lF (C : Nat → Type) where
 v : AV C
 new : List (Ob C)
 ups : List (Nat × Ob C)
section
variable (E : dD)
abbrev M := HM E.C (lF E.C)
def rv (v : AV E.C) : M E := .ret ⟨v, [], []⟩
def rI (k : IntKind) (n : Int) : M E := rv E (.pv (.int k) n)
def rB (b : Bool) : M E := rv E (.pv .bool b)
def uf : Value → AV E.C
 | .bool b => .pv .bool b
 | .int k n => .pv (.int k) n
 | .string s => .pv .str s
 | .slice none 0 0 => .nils
 | _ => .undef
def cX (tm : List (AV E.C)) : Operand → AV E.C
 | .tmp t => match tm[t]? with | some v => v | none => .undef
 | .const v => uf E v
 | .func f => .clo f []
 | .global _ => .undef
def jf (v : AV E.C) (k : IntKind → Int → M E) : M E := match v with
 | .pv t x => match t, x with
  | .int kk, (n : Int) => k kk n
  | _, _ => .fail
 | _ => .fail
def fL (v : AV E.C) (t : Ty) : Bool := match v, t with
 | .pv t' _, t => t'.beq t
 | .nils, .slice _ => true
 | .row _, .slice _ => true
 | .sub _ _ _, .slice _ => true
 | .adr _ _ t', .ptr t => t'.beq t
 | .agg n _, .nm m => Nat.beq n m
 | _, _ => false
def yD : (t : Ty) → ap E.C t → ap E.C t → Option Bool
 | .int _, (x : Int), (y : Int) => some (x == y)
 | .bool, (x : Bool), (y : Bool) => some (x == y)
 | .str, (x : ByteArray), (y : ByteArray) => some (di x y)
 | _, _, _ => none
def Az : (t : Ty) → ap E.C t → ap E.C t → Option Bool
 | .unit, _, _ => some true
 | .pair a b, x, y => match yD E a x.1 y.1, Az b x.2 y.2 with | some p, some q => some (p && q) | _, _ => none
 | _, _, _ => none
def A8 (X : Nat) : (t : Ty) → ap E.C t → ap E.C t → Option Bool
 | .nm n, x, y => cond (E.eqs X) (Az E (E.fld n) (E.proj n x) (E.proj n y)) none
 | t, x, y => yD E t x y
def yh (op : BinOp) (n m : Int) (k : Bool → M E) : M E := match op with
 | .eql => k (n == m)
 | .neq => k (n != m)
 | .lss => k (decide (n < m))
 | .leq => k (decide (n ≤ m))
 | .gtr => k (decide (n > m))
 | .geq => k (decide (n ≥ m))
 | _ => .fail
def yn (op : BinOp) (kk : IntKind) (n m : Int) : M E := match op with
 | .add => rI E kk (kk.wrap (n + m))
 | .sub => rI E kk (kk.wrap (n - m))
 | .mul => rI E kk (kk.wrap (n * m))
 | .quo => .gd (!(m == 0)) (rI E kk (kk.wrap (n.tdiv m)))
 | .rem => .gd (!(m == 0)) (rI E kk (n.tmod m))
 | .and => rI E kk (bits (fun _ a b => a &&& b) kk n m)
 | .or => rI E kk (bits (fun _ a b => a ||| b) kk n m)
 | .xor => rI E kk (bits (fun _ a b => a ^^^ b) kk n m)
 | op => yh E op n m (rB E)
def zL (op : BinOp) (x y : ByteArray) : M E := match op with
 | .add => .gd (bX (x.size + y.size)) (rv E (.pv .str (x ++ y)))
 | .eql => rB E (di x y)
 | .neq => rB E (!di x y)
 | .lss => rB E (Op.bytesLess x.data.toList y.data.toList)
 | _ => .fail
def zm (neg : Bool) (a b : AV E.C) : M E := match a, b with
 | .nils, .nils => rB E (!neg)
 | .nils, .row i => .get i fun o => match o with | .row _ l _ => .gd (!l.isEmpty) (rB E neg) | _ => .fail
 | .row i, .nils => .get i fun o => match o with | .row _ l _ => .gd (!l.isEmpty) (rB E neg) | _ => .fail
 | .pv t x, .nils => match t, x with | .slice _, x => .gd (!List.isEmpty x) (rB E neg) | _, _ => .fail
 | .nils, .pv t x => match t, x with | .slice _, x => .gd (!List.isEmpty x) (rB E neg) | _, _ => .fail
 | _, _ => .fail
def vP (F : List (Nat × cw E.C)) (neg : Bool) (X : Nat) (T : Option Ty) (a b : AV E.C) : M E := match T with
 | some (.slice _) => zm E neg a b
 | some t => jP E F 40 t a [] fun x _ => jP E F 40 t b [] fun y _ => match A8 E X t x y with
  | some p => rB E (cond neg (!p) p)
  | none => .fail
 | none => .fail
def zD (F : List (Nat × cw E.C)) (op : BinOp) (X : Nat) (T : Option Ty) (a b : AV E.C) : M E :=
 let other : M E := match op with
  | .eql => vP E F false X T a b
  | .neq => vP E F true X T a b
  | _ => .fail
 match a with
 | .pv t x => match t, x with
  | .int kk, (n : Int) => jf E b fun kk' m => match op with
   | .shl => .gd (decide (0 ≤ m)) (rI E kk (kk.wrap (n * 2 ^ (min m.toNat kk.bits))))
   | .shr => .gd (decide (0 ≤ m)) (rI E kk (n.fdiv (2 ^ (min m.toNat kk.bits))))
   | op => cond (Nat.beq (ph kk) (ph kk')) (yn E op kk n m) .fail
  | .str, (s : ByteArray) => match b with
   | .pv t' y => match t', y with
    | .str, (s' : ByteArray) => zL E op s s'
    | _, _ => .fail
   | _ => .fail
  | _, _ => other
 | _ => other
def B6 (op : UnOp) (a : AV E.C) : M E := match a with
 | .pv t x => match t, x, op with
  | .bool, (b : Bool), .not => rB E (!b)
  | .int kk, (n : Int), .neg => rI E kk (kk.wrap (0 - n))
  | _, _, _ => .fail
 | _ => .fail
def wR (src dst : Option Ty) (a : AV E.C) : M E := match src with
 | none => .fail
 | some _ => match a with
  | .pv t x => match t, x, dst with
   | .int _, (n : Int), some (.int k) => rI E k (k.wrap n)
   | .str, (s : ByteArray), some .str => rv E (.pv .str s)
   | _, _, _ => .fail
  | _ => .fail
def zA (T : Option Ty) (a : AV E.C) : M E := match T with
 | some (.slice _) => match a with
  | .nils => rI E .i64 0
  | .row i => .get i fun o => match o with | .row _ l _ => rI E .i64 (l.length : Int) | _ => .fail
  | .sub i lo hi => .get i fun o => match o with | .row _ _ _ => rI E .i64 ((hi - lo : Nat) : Int) | _ => .fail
  | .pv t x => match t, x with
   | .slice _, l => rI E .i64 (List.length l : Int)
   | _, _ => .fail
  | _ => .fail
 | some .str => match a with
  | .pv t x => match t, x with
   | .str, (s : ByteArray) => rI E .i64 (s.size : Int)
   | _, _ => .fail
  | _ => .fail
 | _ => .fail
def AL (T : Option Ty) (a : AV E.C) : M E := match T, a with
 | some (.slice _), .nils => rI E .i64 0
 | _, _ => .fail
def kM (T : Option Ty) (a : AV E.C) (i : Int) : M E := match T with
 | some (.slice e') => match a with
  | .pv t x => match t, x with
   | .slice e, l => cond (e.beq e') (.call e (aB (α := ap E.C e) l i) fun y => rv E (.pv (.ptr e) y)) .fail
   | _, _ => .fail
  | .row r => .get r fun o => match o with
   | .row e l _ => cond (e.beq e') (.gd (decide (0 ≤ i) && decide (i < (l.length : Int))) (rv E (.adr r [i.toNat] e))) .fail
   | _ => .fail
  | .sub r lo hi => .get r fun o => match o with
   | .row e l _ => cond (e.beq e') (.gd (decide (0 ≤ i) && decide (i < ((hi - lo : Nat) : Int)) && decide (hi ≤ l.length)) (rv E (.adr r [lo + i.toNat] e))) .fail
   | _ => .fail
  | _ => .fail
 | some (.arr n e') => match a with
  | .pv t x => match t, x with
   | .ptr (.arr m e), l => cond (Nat.beq m n && e.beq e') (.call e (aB (α := ap E.C e) l i) fun y => rv E (.pv (.ptr e) y)) .fail
   | _, _ => .fail
  | .adr r p t => cond (t.beq (.arr n e')) (.gd (decide (0 ≤ i) && decide (i < (n : Int))) (rv E (.adr r (p ++ [i.toNat]) e'))) .fail
  | _ => .fail
 | _ => .fail
def t7 (T : Option Ty) (a : AV E.C) (i : Int) : M E := match T with
 | some T => match a with
  | .pv t x => cond (t.beq T) (match t, x with
   | .arr _ e, l => .call e (aB (α := ap E.C e) l i) fun y => rv E (.pv e y)
   | .str, (s : ByteArray) => .call (.int .u8) (kv s i) fun (y : Int) => rI E .u8 y
   | _, _ => .fail) .fail
  | _ => .fail
 | none => .fail
def kQ (T : Option Ty) (a : AV E.C) (f : Nat) : M E := match T with
 | some (.nm m) => match a with
  | .adr r p t => cond (t.beq (.nm m)) (match ie E (E.fld m) f with | some (_, t') => rv E (.adr r (p ++ [f]) t') | none => .fail) .fail
  | .pv t x => match t, x with
   | .ptr (.nm n), y => cond (Nat.beq n m) (ku E (E.fld n) (E.proj n y) f fun t z => rv E (.pv (.ptr t) z)) .fail
   | _, _ => .fail
  | _ => .fail
 | _ => .fail
def sc (T : Option Ty) (a : AV E.C) (f : Nat) : M E := match T with
 | some (.nm m) => match a with
  | .agg n fs => cond (Nat.beq n m) (fW E [f] (.agg n fs) (rv E)) .fail
  | .pv t x => match t, x with
   | .nm n, y => cond (Nat.beq n m) (ku E (E.fld n) (E.proj n y) f fun t z => rv E (.pv t z)) .fail
   | _, _ => .fail
  | _ => .fail
 | _ => .fail
def wv (T : Option Ty) (a : AV E.C) : M E := match T with
 | none => .fail
 | some t => match a with
  | .adr r p _ => .get r fun o => match o with
   | .box _ v _ => fW E p v fun v => cond (fL E v t) (rv E v) .fail
   | .row e l _ => match p with
    | i :: p => .call e (nth l i) fun x => fW E p (.pv e x) fun v => cond (fL E v t) (rv E v) .fail
    | [] => .fail
   | .dead => .fail
  | .pv t' x => match t', x with
   | .ptr t', y => cond (t'.beq t) (rv E (.pv t' y)) .fail
   | _, _ => .fail
  | _ => .fail
def gx (F : List (Nat × cw E.C)) (T : Option Ty) (a v : AV E.C) : M E := match T with
 | none => .fail
 | some t => cond (fL E v t) (match a with
  | .adr r p ta => cond (ta.beq t) (.get r fun o => match o with
   | .box bt old false => i7 E p old v fun new => .ret ⟨.undef, [], [(r, .box bt new false)]⟩
   | .row e l false => match p with
    | i :: p => .call e (nth l i) fun x => i7 E p (.pv e x) v fun new => jP E F 40 e new [] fun y T =>
      cond (T.any (Nat.beq r)) .fail (frz T fun u => .ret ⟨.undef, [], (r, .row e (l.set i y) false) :: u⟩)
    | [] => .fail
   | _ => .fail) .fail
  | _ => .fail) .fail
where
 frz : List Nat → (List (Nat × Ob E.C) → M E) → M E
  | [], k => k []
  | i :: r, k => .get i fun o => match o with
   | .row e l _ => frz r fun u => k ((i, .row e l true) :: u)
   | .box t v _ => frz r fun u => k ((i, .box t v true) :: u)
   | .dead => .fail
def fV (F : List (Nat × cw E.C)) (s : Nat) (T : Option Ty) (n : Nat) (ps : List (Nat × AV E.C)) : M E := match T with
 | some (.slice e) => match eQ E 40 e with
  | some z => cond (Nat.ble (n * szT E e) 16777216) (go n e (List.replicate n z) ps []) .fail
  | none => .fail
 | _ => .fail
where
 go (n : Nat) (e : Ty) : List (ap E.C e) → List (Nat × AV E.C) → List Nat → M E
  | l, [], T => gx.frz E T fun u => .ret ⟨.row s, [.row e l false], u⟩
  | l, (i, v) :: r, T => cond (Nat.blt i n) (jP E F 40 e v T fun x T => go n e (an l i x) r T) .fail
def ju (F : List (Nat × cw E.C)) (T : Option Ty) (ps : List (Nat × AV E.C)) : M E := match T with
 | some (.nm n) => cond (ux E 40 (.nm n) && fok (E.fld n) ps) (match iH E 40 (.nm n) with
  | [.agg _ fs] => rv E (.agg n (put fs ps))
  | _ => .fail) .fail
 | some (.arr n e) => match eQ E 40 (.arr n e) with
  | some z => arr n e z ps
  | none => .fail
 | _ => .fail
where
 arr (n : Nat) (e : Ty) : List (ap E.C e) → List (Nat × AV E.C) → M E
  | l, [] => rv E (.pv (.arr n e) l)
  | l, (i, v) :: r => cond (Nat.blt i n) (jP E F 40 e v [] fun x T => match T with | [] => arr n e (an l i x) r | _ => .fail) .fail
 fok (t : Ty) : List (Nat × AV E.C) → Bool
  | [] => true
  | (i, v) :: r => (match ie E t i with | some (_, t') => fL E v t' | none => false) && fok t r
 put : List (AV E.C) → List (Nat × AV E.C) → List (AV E.C)
  | l, [] => l
  | l, (i, v) :: r => put (an l i v) r
def kC (s : Nat) (T : Option Ty) (n c : AV E.C) : M E := match T with
 | some (.slice e) => match eQ E 40 e with
  | some z => jf E n fun _ n => jf E c fun _ c => .gd (decide (0 ≤ n) && decide (n ≤ c) && bX c.toNat) (.ret ⟨.row s, [.row e (List.replicate n.toNat z) false], []⟩)
  | none => .fail
 | _ => .fail
def tg (T : Option Ty) (a : AV E.C) (lo hi mx : Option (AV E.C)) : M E :=
 let low (k : Int → M E) : M E := match lo with | some v => jf E v fun _ n => k n | none => k 0
 let high (n : Int) (k : Int → M E) : M E := match hi with | some v => jf E v fun _ n => k n | none => k n
 match T with
 | some .str => match a, mx with
  | .pv t x, none => match t, x with
   | .str, (s : ByteArray) => low fun l => high s.size fun h => .gd (decide (0 ≤ l) && decide (l ≤ h) && decide (h ≤ (s.size : Int))) (rv E (.pv .str (s.extract l.toNat h.toNat)))
   | _, _ => .fail
  | _, _ => .fail
 | some (.slice e') => match a with
  | .pv t x => match t, x, mx with
   | .slice e, xs, none => cond (e.beq e') (low fun l => high (List.length xs) fun h => .gd (decide (0 ≤ l) && decide (l ≤ h) && decide (h ≤ (List.length xs : Int))) (rv E (.pv (.slice e) (slc (α := ap E.C e) xs l.toNat h.toNat)))) .fail
   | _, _, _ => .fail
  | .nils => match mx with | none => low fun l => high 0 fun h => .gd ((l == 0) && (h == 0)) (rv E .nils) | _ => .fail
  | .row r => .get r fun o => match o with
   | .row e l _ => cond (e.beq e') (low fun a => high l.length fun b => .gd (decide (0 ≤ a) && decide (a ≤ b) && decide (b ≤ (l.length : Int))) (match mx with
    | none => rv E (.sub r a.toNat b.toNat)
    | some m => jf E m fun _ m => .gd (decide (b ≤ m) && decide (m ≤ (l.length : Int))) (rv E (.sub r a.toNat b.toNat)))) .fail
   | _ => .fail
  | .sub r lo' hi' => .get r fun o => match o, mx with
   | .row e _ _, none => cond (e.beq e') (low fun a => high ((hi' - lo' : Nat) : Int) fun b => .gd (decide (0 ≤ a) && decide (a ≤ b) && decide (b ≤ ((hi' - lo' : Nat) : Int))) (rv E (.sub r (lo' + a.toNat) (lo' + b.toNat)))) .fail
   | _, _ => .fail
  | _ => .fail
 | _ => .fail
def zx (e : Ty) (a : AV E.C) (k : List (ap E.C e) → Option Nat → M E) : M E := match a with
 | .nils => k [] none
 | .row i => .get i fun o => match o with
  | .row e' l false => wl e' e l fun y => k y (some i)
  | _ => .fail
 | .sub i lo hi => .get i fun o => match o with
  | .row e' l false => wl e' e l fun y => .gd (decide (lo ≤ hi) && decide (hi ≤ y.length)) (k (slc y lo hi) (some i))
  | _ => .fail
 | _ => .fail
def wH : Option Nat → List (Nat × Ob E.C)
 | some i => [(i, .dead)]
 | none => []
def pk (F : List (Nat × cw E.C)) (s : Nat) (T U : Option Ty) (a b : AV E.C) : M E := match T, U with
 | some (.slice e), some (.slice _) => cond (ux E 40 e) (zx E e a fun l i => jP E F 40 (.slice e) b [] fun (ys : List (ap E.C e)) _ =>
   .gd (bX (l.length + ys.length)) (.ret ⟨.row s, [.row e (l ++ ys) false], wH E i⟩)) .fail
 | some (.slice e), some (.int _) => match a, eQ E 40 e with
  | .nils, some z => jf E b fun _ n => .gd (decide (0 < n) && bX n.toNat) (cond (Nat.beq (szT E e) 0) .fail (.ret ⟨.row s, [.row e (List.replicate n.toNat z) false], []⟩))
  | _, _ => .fail
 | _, _ => .fail
def wY (F : List (Nat × cw E.C)) (T : Option Ty) (a b : AV E.C) : M E := match T with
 | some (.slice e) => match a with
  | .row i => .get i fun o => match o with
   | .row e' l false => wl e' e l fun l => jP E F 40 (.slice e) b [] fun (ys : List (ap E.C e)) _ =>
     .ret ⟨.pv (.int .i64) ((min ys.length l.length : Nat) : Int), [], [(i, .row e (nu l 0 (ys.take l.length)) false)]⟩
   | _ => .fail
  | .sub i lo hi => .get i fun o => match o with
   | .row e' l false => wl e' e l fun l => jP E F 40 (.slice e) b [] fun (ys : List (ap E.C e)) _ =>
     .gd (decide (lo ≤ hi) && decide (hi ≤ l.length)) (.ret ⟨.pv (.int .i64) ((min ys.length (hi - lo) : Nat) : Int), [], [(i, .row e (nu l lo (ys.take (hi - lo))) false)]⟩)
   | _ => .fail
  | _ => .fail
 | _ => .fail
def tq (T : Option Ty) (a : AV E.C) : M E := match T with
 | some (.slice e) => match eQ E 40 e with
  | some z => match a with
   | .sub i lo hi => .get i fun o => match o with
    | .row e' l false => wl e' e l fun l => .gd (decide (lo ≤ hi) && decide (hi ≤ l.length)) (.ret ⟨.tup [], [], [(i, .row e (nu l lo (List.replicate (hi - lo) z)) false)]⟩)
    | _ => .fail
   | _ => .fail
  | none => .fail
 | _ => .fail
def B7 : Sh → Ty → Bool
 | .hole t', t => t'.beq t
 | .rowh _, .slice _ => true
 | .boxh t' _, .ptr t => t'.beq t
 | .aggh n _, .nm m => Nat.beq n m
 | .same _, .slice _ => true
 | .part _, .slice _ => true
 | _, _ => false
def vm : List Sh → Ty → Bool
 | [], .unit => true
 | s :: r, .pair a b => B7 s a && vm r b
 | _, _ => false
mutual
def xF {α : Type} (F : List (Nat × cw E.C)) : (s : Sh) → AV E.C → List (Option (Nat × Bool)) → List Nat → (ap E.C (jL s) → List (Option (Nat × Bool)) → List Nat → HM E.C α) → HM E.C α
 | .hole t, v, acc, T, k => jP E F 40 t v T fun x T => k x acc T
 | .rowh t, v, acc, T, k => match v with
  | .nils => k [] (acc ++ [none]) T
  | .row i => .get i fun o => match o with
   | .row e l false => wl e t l fun y => k y (acc ++ [some (i, true)]) T
   | _ => .fail
  | .sub i lo hi => .get i fun o => match o with
   | .row e l false => wl e t l fun y => .gd (decide (lo ≤ hi) && decide (hi ≤ y.length)) (k (slc y lo hi) (acc ++ [some (i, false)]) T)
   | _ => .fail
  | _ => .fail
 | .boxh t s, v, acc, T, k => match v with
  | .adr i [] _ => .get i fun o => match o with
   | .box t' v false => cond (t'.beq t && B7 s t) (xF F s v (acc ++ [some (i, false)]) T k) .fail
   | _ => .fail
  | _ => .fail
 | .aggh n ss, v, acc, T, k => match v with
  | .agg n' fs => cond (Nat.beq n n' && vm ss (E.fld n)) (vD F ss fs acc T k) .fail
  | .pv (.nm n') x => cond (Nat.beq n n' && vm ss (E.fld n)) (vD F ss (nr E (E.fld n') (E.proj n' x)) acc T k) .fail
  | _ => .fail
 | .same j, v, acc, T, k => match v, acc[j]? with
  | .row i, some (some (i', true)) => cond (Nat.beq i i') (k () acc T) .fail
  | .nils, some none => k () acc T
  | _, _ => .fail
 | .part j, v, acc, T, k => match v, acc[j]? with
  | .sub i lo hi, some (some (i', true)) => cond (Nat.beq i i') (k (((lo : Int), (hi : Int)) : Int × Int) acc T) .fail
  | .row i, some (some (i', true)) => cond (Nat.beq i i') (.get i fun o => match o with | .row _ l _ => k (((0 : Int), (l.length : Int)) : Int × Int) acc T | _ => .fail) .fail
  | _, _ => .fail
 | .nilh, v, acc, T, k => match v with | .nils => k () acc T | _ => .fail
def vD {α : Type} (F : List (Nat × cw E.C)) : (ss : List Sh) → List (AV E.C) → List (Option (Nat × Bool)) → List Nat → (ap E.C (bh ss) → List (Option (Nat × Bool)) → List Nat → HM E.C α) → HM E.C α
 | [], [], acc, T, k => k () acc T
 | s :: ss, v :: vs, acc, T, k => xF F s v acc T fun x acc T => vD F ss vs acc T fun y acc T => k (x, y) acc T
 | _, _, _, _, _ => .fail
end
def iP : List Nat → List Nat → Bool
 | [], _ => true
 | x :: r, l => !(mem x l) && iP r l
where mem (x : Nat) : List Nat → Bool
 | [] => false
 | y :: r => Nat.beq x y || mem x r
def jQ : List (Option (Nat × Bool)) → List Nat → Bool
 | [], _ => true
 | none :: r, T => jQ r T
 | some (i, _) :: r, T => !(iP.mem i T) && jQ r (i :: T)
mutual
def xA {α : Type} : (sh : Sh) → ap E.C (jL sh) → Nat → List Nat → (AV E.C → List (Ob E.C) → List Nat → HM E.C α) → HM E.C α
 | .hole t, x, _, ids, k => k (.pv t x) [] ids
 | .rowh t, x, s, ids, k => k (.row s) [.row t x false] (ids ++ [s])
 | .boxh t sh, x, s, ids, k => xA sh x (s + 1) (ids ++ [s]) fun v os ids => k (.adr s [] t) (.box t v false :: os) ids
 | .aggh n ss, x, s, ids, k => A1 ss x s ids fun vs os ids => k (.agg n vs) os ids
 | .same j, _, _, ids, k => match ids[j]? with | some i => k (.row i) [] ids | none => .fail
 | .part j, x, _, ids, k => match ids[j]? with | some i => k (.sub i (Int.toNat x.1) (Int.toNat x.2)) [] ids | none => .fail
 | .nilh, _, _, ids, k => k .nils [] ids
def A1 {α : Type} : (ss : List Sh) → ap E.C (bh ss) → Nat → List Nat → (List (AV E.C) → List (Ob E.C) → List Nat → HM E.C α) → HM E.C α
 | [], _, _, ids, k => k [] [] ids
 | sh :: ss, x, s, ids, k => xA sh x.1 s ids fun v os ids => A1 ss x.2 (s + cN sh) ids fun vs os' ids => k (v :: vs) (os ++ os') ids
end
mutual
def wZ : Sh → Bool
 | .hole t => scal E 40 t
 | .rowh t => scal E 40 t
 | .boxh _ s => wZ s
 | .aggh _ ss => nU ss
 | .same _ => true
 | .part _ => true
 | .nilh => true
def nU : List Sh → Bool
 | [] => true
 | s :: r => wZ s && nU r
end
def one (vs : List (AV E.C)) : AV E.C := match vs with | [v] => v | vs => .tup vs
def jM : Nat → List (Ob E.C) → List (Nat × Ob E.C)
 | _, [] => []
 | s, o :: r => (s, o) :: jM (s + 1) r
def f8 : List Sh → List (AV E.C) → List (AV E.C)
 | .hole _ :: ss, _ :: vs => f8 ss vs
 | .nilh :: ss, _ :: vs => f8 ss vs
 | _ :: ss, v :: vs => v :: f8 ss vs
 | _, _ => []
def nL {α : Type} : (vs : List (AV E.C)) → (outs : List Sh) → ap E.C (bh outs) → Nat → List Nat → List (Nat × Ob E.C) → List (Ob E.C) → ((ss : List Sh) → ap E.C (bh ss) → Nat → List Nat → List (Nat × Ob E.C) → List (Ob E.C) → HM E.C α) → HM E.C α
 | [], outs, y, s, ids, ups, os, k => k outs y s ids ups os
 | v :: vs, sh :: ss, y, s, ids, ups, os, k => match v, sh, y with
  | .row i, .rowh t, y => nL vs ss y.2 s (ids ++ [i]) (ups ++ [(i, .row t y.1 false)]) os k
  | .adr i [] _, .boxh t sh, y => xA E sh y.1 s (ids ++ [i]) fun w os' ids => nL vs ss y.2 (s + cN sh) ids (ups ++ [(i, .box t w false)]) (os ++ os') k
  | _, _, _ => .fail
 | _ :: _, [], _, _, _, _, _, _ => .fail
def dQ : Nat → List Sh → List Nat
 | _, [] => []
 | i, .hole _ :: r => dQ (i + 1) r
 | i, .nilh :: r => dQ (i + 1) r
 | i, _ :: r => i :: dQ (i + 1) r
def eN : List (Option (Nat × Bool)) → List (Nat × Ob E.C)
 | [] => []
 | some (i, _) :: r => (i, .dead) :: eN r
 | none :: r => eN r
def iX : List Sh → Bool
 | [] => true
 | .hole _ :: r => iX r
 | .nilh :: r => iX r
 | .rowh _ :: r => iX r
 | .boxh _ _ :: r => iX r
 | _ :: _ => false
def fC : List Sh → List Sh → Bool
 | .hole _ :: r, outs => fC r outs
 | .nilh :: r, outs => fC r outs
 | .rowh t :: r, .rowh t' :: outs => t.beq t' && fC r outs
 | .boxh t _ :: r, .boxh t' _ :: outs => t.beq t' && fC r outs
 | [], _ => true
 | _, _ => false
def wx (F : List (Nat × cw E.C)) (s : Nat) (f : Nat) (args : List (AV E.C)) : M E := match oJ f F with
 | some sp => vD E F sp.ins args [] [] fun x acc T => cond (iX sp.ins && (fC sp.ins sp.outs && jQ acc T))
   (.call (bh sp.outs) (sp.fn x) fun y => nL E (f8 E sp.ins args) sp.outs y s [] (eN E acc) [] fun rs z s ids ups os => A1 E rs z s ids fun vs os' _ =>
    cond (nU E sp.outs) (.ret ⟨one E vs, os ++ os', ups⟩) (gx.frz E T fun u => .ret ⟨one E vs, os ++ os', ups ++ u⟩)) .fail
 | none => .fail
def w7 (F : List (Nat × cw E.C)) (v : AV E.C) (args : List (AV E.C)) : M E := match v with
 | .clo f cs => match lh f F with
  | some sp => mw E F 40 sp.caps cs [] fun y T => mw E F 40 sp.d args T fun x T => .call sp.c (sp.fn y x) fun z =>
    cond (scal E 40 sp.c) (rv E (.pv sp.c z)) (gx.frz E T fun u => .ret ⟨.pv sp.c z, [], u⟩)
  | _ => .fail
 | .pv t g => match t, g with
  | .fn d c, g => mw E F 40 d args [] fun x T => .call c (g x) fun z =>
    cond (scal E 40 c) (rv E (.pv c z)) (gx.frz E T fun u => .ret ⟨.pv c z, [], u⟩)
  | _, _ => .fail
 | _ => .fail
def mI (F : List (Nat × cw E.C)) (s : Nat) (tm : List (AV E.C)) : Op → M E
 | .move x => rv E (cX E tm x)
 | .assign x => rv E (cX E tm x)
 | .pick c a b => match cX E tm c with
  | .pv t x => match t, x with
   | .bool, (p : Bool) => .br p fun q => rv E (cond q (cX E tm a) (cX E tm b))
   | _, _ => .fail
  | _ => .fail
 | .alloc T => match E.ty T with
  | some t => match iH E 40 t with
   | [z] => cond (ux E 40 t) (.ret ⟨.adr s [] t, [.box t z false], []⟩) .fail
   | _ => .fail
  | none => .fail
 | .box T x => match E.ty T with
  | some t => cond (fL E (cX E tm x) t) (.ret ⟨.adr s [] t, [.box t (cX E tm x) false], []⟩) .fail
  | none => .fail
 | .build T ps => ju E F (E.ty T) (ps.toList.map fun p => (p.1, cX E tm p.2))
 | .buildSlice T n ps => fV E F s (E.ty T) n (ps.toList.map fun p => (p.1, cX E tm p.2))
 | .load T a => wv E (E.ty T) (cX E tm a)
 | .store T a v => gx E F (E.ty T) (cX E tm a) (cX E tm v)
 | .nilCheck x => match cX E tm x with
  | .adr i p t => rv E (.adr i p t)
  | .pv t y => match t, y with | .ptr t, y => rv E (.pv (.ptr t) y) | _, _ => .fail
  | _ => .fail
 | .binOp op T x y _ => zD E F op T (E.ty T) (cX E tm x) (cX E tm y)
 | .unOp op _ x => B6 E op (cX E tm x)
 | .convert a b x => wR E (E.ty a) (E.ty b) (cX E tm x)
 | .makeFunc (.func f) fst cs => match fst.toList with | [] => rv E (.clo f (cs.toList.map (cX E tm))) | _ => .fail
 | .makeSlice T n c => kC E s (E.ty T) (cX E tm n) (cX E tm c)
 | .slice T x lo hi mx => cond (mx.isNone || hi.isSome) (tg E (E.ty T) (cX E tm x) (lo.map (cX E tm)) (hi.map (cX E tm)) (mx.map (cX E tm))) .fail
 | .fieldAddr T x f => kQ E (E.ty T) (cX E tm x) f
 | .field T x f => sc E (E.ty T) (cX E tm x) f
 | .indexAddr T x i => jf E (cX E tm i) fun _ n => kM E (E.ty T) (cX E tm x) n
 | .index T x i => jf E (cX E tm i) fun _ n => t7 E (E.ty T) (cX E tm x) n
 | .extract x i => match cX E tm x with
  | .tup vs => match vs[i]? with | some v => rv E v | none => .fail
  | _ => .fail
 | .call c => match c.callee with
  | .value (.func f) => wx E F s f (c.args.toList.map (cX E tm))
  | .value x => w7 E F (cX E tm x) (c.args.toList.map (cX E tm))
  | .builtin b => match b, c.args.toList.map (cX E tm), c.argTypes.toList with
   | .len, [a], [T] => zA E (E.ty T) a
   | .cap, [a], [T] => AL E (E.ty T) a
   | .append, [a, b], [T, U] => pk E F s (E.ty T) (E.ty U) a b
   | .copy, [a, b], [T, _] => wY E F (E.ty T) a b
   | .clear, [a], [T] => tq E (E.ty T) a
   | .max, [a, b], _ => jf E a fun k x => jf E b fun k' y => cond (Nat.beq (ph k) (ph k')) (rI E k (fF x y)) .fail
   | .min, [a, b], _ => jf E a fun k x => jf E b fun k' y => cond (Nat.beq (ph k) (ph k')) (rI E k (AN x y)) .fail
   | _, _, _ => .fail
  | _ => .fail
 | _ => .fail
def tr : Op → List Operand
 | .move x | .assign x | .box _ x | .load _ x | .nilCheck x | .unOp _ _ x | .convert _ _ x | .fieldAddr _ x _ | .field _ x _ | .extract x _ => [x]
 | .pick c a b => [c, a, b]
 | .build _ ps => ps.toList.map (·.2)
 | .buildSlice _ _ ps => ps.toList.map (·.2)
 | .store _ a v | .binOp _ _ a v _ | .makeSlice _ a v | .indexAddr _ a v | .index _ a v => [a, v]
 | .makeFunc _ _ cs => cs.toList
 | .slice _ x l h m => x :: (l.toList ++ (h.toList ++ m.toList))
 | .call c => match c.callee with | .value f => f :: c.args.toList | _ => c.args.toList
 | _ => []
def ja : List Operand → List Nat
 | [] => []
 | .tmp t :: r => t :: ja r
 | _ :: r => ja r
def bg (F : List (Nat × cw E.C)) : Op → Nat
 | .alloc _ | .box _ _ | .buildSlice _ _ _ | .makeSlice _ _ _ => 1
 | .call c => match c.callee with
  | .value (.func f) => match oJ f F with | some s => f6 s.outs | none => 0
  | .builtin .append => 1
  | _ => 0
 | _ => 0
def og {β R : Type} : List β → Nat → β → (List β → Option R) → Option R
 | [], _, _, k => k []
 | _ :: r, 0, y, k => k (y :: r)
 | x :: r, n + 1, y, k => og r n y fun r' => k (x :: r')
def pC {β R : Type} : List β → List β → (List β → Option R) → Option R
 | [], ys, k => k ys
 | x :: r, ys, k => pC r ys fun r' => k (x :: r')
def xd {β R : Type} : List (Nat × β) → List β → (List β → Option R) → Option R
 | [], H, k => k H
 | (i, o) :: r, H, k => og H i o fun H => xd r H k
structure FP where
 j : Nat
 dst : Option Nat
 uses : List Nat
 T : List Nat
 W : List Nat
def ng (P : Nat) (f : FP) : List FP → Bool
 | [] => true
 | g :: r => (Nat.testBit P g.j || (iP g.W f.T && iP g.W f.W && iP g.T f.W && iP g.dst.toList f.uses && iP g.dst.toList f.dst.toList && iP g.uses f.dst.toList)) && ng P f r
def ii (i : Nat) (Ps : List Nat) : List Edge → Option Nat
 | [] => some 0
 | e :: r => match e.ground with
  | .textOnly _ => ii i Ps r
  | .gcOnly _ => ii i Ps r
  | _ => cond (Nat.blt e.on i) (match Ps[e.on]?, ii i Ps r with | some q, some p => some (Nat.lor (Nat.lor p q) (Nat.shiftLeft 1 e.on)) | _, _ => none) none
def xT {R : Type} (v : AV E.C) (k : Bool → Option R) : Option R := match v with
 | .pv t x => match t, x with
  | .bool, (b : Bool) => k b
  | _, _ => none
 | _ => none
def uY {R : Type} (pins : List Nat) (tm : List (AV E.C)) (dst : Option Nat) (v : AV E.C) (k : List (AV E.C) → Option R) : Option R := match dst with
 | some d => cond (iP.mem d pins) none (og tm d v k)
 | none => k tm
def xS {R : Type} (pins : List Nat) (ups : Bool) (dst : Option Nat) (s : Nat) (r : lF E.C) (tm : List (AV E.C)) (H : List (Ob E.C)) (k : List (AV E.C) → List (Ob E.C) → Option R) : Option R :=
 uY E pins tm dst r.v fun tm => xd (jM E s r.new) H fun H => cond (ups || r.ups.isEmpty) (xd r.ups H fun H => k tm H) none
def vN : List (Ob E.C) → Nat → List Nat
 | [], _ => []
 | _ :: r, s => s :: vN r (s + 1)
def kx {R : Type} (draw : Bool) (i : Nat) (o : Oper) (Ps : List Nat) (fps : List FP) (f : FP) (k : List Nat → List FP → Option R) : Option R :=
 cond draw
  (match ii i Ps o.after.toList with
   | some P => cond (ng P f fps) (pC Ps [P] fun Ps => k Ps (f :: fps)) none
   | none => none)
  (k Ps fps)
def ji {R : Type} (F : List (Nat × cw E.C)) (pins : List Nat) (all : List Oper) (draw ups : Bool) : List Oper → (i s : Nat) → (Ps : List Nat) → List FP → List (AV E.C) → List (Ob E.C) → (List (AV E.C) → List (Ob E.C) → Option R) → Option R
 | [], _, _, _, _, tm, H, k => k tm H
 | o :: rest, i, s, Ps, fps, tm, H, k =>
  let exec (tm : List (AV E.C)) (use : List Nat) : Option R :=
   kF H (mI E F s tm o.op) [] fun r T =>
    kx draw i o Ps fps ⟨i, o.dst, use ++ ja (tr o.op), T, vN E r.new s ++ r.ups.map (·.1)⟩ fun Ps fps =>
     xS E pins ups o.dst s r tm H fun tm H => ji F pins all draw ups rest (i + 1) (s + bg E F o.op) Ps fps tm H k
  let skip (tm : List (AV E.C)) (use : List Nat) : Option R :=
   kx draw i o Ps fps ⟨i, o.dst, use, [], []⟩ fun Ps fps =>
    uY E pins tm o.dst (.tup []) fun tm => ji F pins all draw ups rest (i + 1) (s + bg E F o.op) Ps fps tm H k
  match o.guard with
  | none => exec tm []
  | some (j, want) => match all[j]? with
   | some oj => match oj.dst with
    | some dj => match cX E tm (.tmp dj) with
     | .tup [] => skip tm [dj]
     | v => xT E v fun b => cond b
      (og tm dj (.pv .bool true) fun tm => cond want (exec tm [dj]) (skip tm [dj]))
      (og tm dj (.pv .bool false) fun tm => cond want (skip tm [dj]) (exec tm [dj]))
    | none => none
   | none => none
def dC (F : List (Nat × cw E.C)) : List Oper → Nat
 | [] => 0
 | o :: r => bg E F o.op + dC F r
def wN {R : Type} (F : List (Nat × cw E.C)) (H : List (Ob E.C)) (t : Ty) (v : AV E.C) (k : ap E.C t → Option R) : Option R :=
 kF H (jP E F 40 t v [] fun x T => .ret (x, T)) [] fun p _ => match p.2 with | [] => k p.1 | _ => none
def jY : List (Nat × Ty) → Ty
 | [] => .unit
 | (_, t) :: r => .pair t (jY r)
def k6 {R : Type} (F : List (Nat × cw E.C)) (tm : List (AV E.C)) (H : List (Ob E.C)) : (l : List (Nat × Ty)) → (ap E.C (jY l) → Option R) → Option R
 | [], k => k ()
 | (i, t) :: r, k => wN E F H t (cX E tm (.tmp i)) fun x => k6 F tm H r fun y => k (x, y)
def mz {R : Type} : (l : List (Nat × Ty)) → ap E.C (jY l) → List (AV E.C) → (List (AV E.C) → Option R) → Option R
 | [], _, tm, k => k tm
 | (i, t) :: r, x, tm, k => og tm i (.pv t x.1) fun tm => mz r x.2 tm k
def yA {R : Type} (pins : List Nat) : List Oper → List (AV E.C) → (List (AV E.C) → Option R) → Option R
 | [], tm, k => k tm
 | o :: r, tm, k => uY E pins tm o.dst .undef fun tm => yA pins r tm k
mutual
def plS {R : Type} : (s : Sh) → ap E.C (jL s) → List (Ob E.C) → (AV E.C → List (Ob E.C) → Option R) → Option R
 | .hole t, x, H, k => k (.pv t x) H
 | .rowh t, x, H, k => pC H [.row t x false] fun H' => k (.row H.length) H'
 | .boxh t s, x, H, k => pC H [.dead] fun H1 => plS s x H1 fun v H2 => og H2 H.length (.box t v false) fun H3 => k (.adr H.length [] t) H3
 | .aggh n ss, x, H, k => zq ss x H fun vs H => k (.agg n vs) H
 | .same j, _, H, k => k (.row j) H
 | .part j, x, H, k => k (.sub j (Int.toNat x.1) (Int.toNat x.2)) H
 | .nilh, _, H, k => k .nils H
def zq {R : Type} : (ss : List Sh) → ap E.C (bh ss) → List (Ob E.C) → (List (AV E.C) → List (Ob E.C) → Option R) → Option R
 | [], _, H, k => k [] H
 | s :: ss, x, H, k => plS s x.1 H fun v H => zq ss x.2 H fun vs H => k (v :: vs) H
end
structure qw where
 at_ : List Nat
 sh : List Sh
def qw.ty (l : qw) : Ty := bh l.sh
def u5 {R : Type} : List Nat → List (AV E.C) → List (AV E.C) → (List (AV E.C) → Option R) → Option R
 | i :: is, v :: vs, tm, k => og tm i v fun tm => u5 is vs tm k
 | _, _, tm, k => k tm
def tv {R : Type} (n : Nat) (l : qw) (x : ap E.C l.ty) (k : List (AV E.C) → List (Ob E.C) → Option R) : Option R :=
 zq E l.sh x [] fun vs H => u5 E l.at_ vs (List.replicate n .undef) fun tm => k tm H
def A2 {R : Type} (F : List (Nat × cw E.C)) (l : qw) (tm : List (AV E.C)) (H : List (Ob E.C)) (k : ap E.C l.ty → Option R) : Option R :=
 kF H (vD E F l.sh (l.at_.map fun i => cX E tm (.tmp i)) [] [] fun x acc T => .ret (x, jQ acc T)) [] fun p _ => cond p.2 (k p.1) none
inductive sV where | norm | exit (i : Nat) | ret
def kJ : List (sV × qw) → Ty
 | [] => .unit
 | w :: r => match r with
  | [] => w.2.ty
  | _ :: _ => .sum w.2.ty (kJ r)
structure jc (R : Type) where
 norm : List (AV E.C) → List (Ob E.C) → Option R
 exit : Nat → List (AV E.C) → List (Ob E.C) → Option R
 ret : List (AV E.C) → List (Ob E.C) → Option R
def jc.to {R : Type} (K : jc E R) : sV → List (AV E.C) → List (Ob E.C) → Option R
 | .norm => K.norm
 | .exit i => K.exit i
 | .ret => K.ret
def aJ {α β R : Type} (x : Sum α β) (f : α → R) (g : β → R) : R := match x with | .inl a => f a | .inr b => g b
def xU {R : Type} (n : Nat) (K : jc E R) : (ws : List (sV × qw)) → ap E.C (kJ ws) → Option R
 | [], _ => none
 | [(w, l)], x => tv E n l x (K.to E w)
 | (w, l) :: w' :: r, x => aJ x (fun y => tv E n l y (K.to E w)) (fun y => xU n K (w' :: r) y)
def np {R : Type} (F : List (Nat × cw E.C)) (w : sV) : (ws : List (sV × qw)) → List (AV E.C) → List (Ob E.C) → (ap E.C (kJ ws) → Option R) → Option R
 | [], _, _, _ => none
 | [(w', l)], tm, H, k => cond (same w w') (A2 E F l tm H k) none
 | (w', l) :: w2 :: r, tm, H, k => cond (same w w') (A2 E F l tm H fun x => k (Sum.inl x)) (np F w (w2 :: r) tm H fun y => k (Sum.inr y))
where same : sV → sV → Bool
 | .norm, .norm => true
 | .exit i, .exit j => Nat.beq i j
 | .ret, .ret => true
 | _, _ => false
structure s6 where
 head : qw
 ways : List (sV × qw)
 fn : ap E.C head.ty → Option (ap E.C (kJ ways))
structure sY where
 loops : List (Nat × s6 E)
 joins : List (Nat × List (Nat × Ty))
 pins : List Nat
def eval {R : Type} (F : List (Nat × cw E.C)) (A : sY E) (n : Nat) : Code → Nat → jc E R → List (AV E.C) → List (Ob E.C) → Option R
 | .skip, _, K, tm, H => K.norm tm H
 | .region id ops draw, _, K, tm, H => match s7 id A.joins with
  | none => pC H (List.replicate (dC E F ops.toList) .dead) fun H' => ji E F A.pins ops.toList draw true ops.toList 0 H.length [] [] tm H' K.norm
  | some js => pC H (List.replicate (dC E F ops.toList) .dead) fun H' => (ji E F A.pins ops.toList draw false ops.toList 0 H.length [] [] tm H' fun tm H => k6 E F tm H js some).bind fun x =>
    yA E A.pins ops.toList tm fun tm => mz E js x tm fun tm => K.norm tm H'
 | .seq a b, i, K, tm, H => eval F A n a i { K with norm := fun tm H => eval F A n b i K tm H } tm H
 | .cond c a b, i, K, tm, H => xT E (cX E tm c) fun p => cond p (eval F A n a i K tm H) (eval F A n b i K tm H)
 | .block id c, _, K, tm, H => eval F A n c id { K with exit := fun j tm H => cond (Nat.beq j id) (K.norm tm H) (K.exit j tm H) } tm H
 | .loop _, i, K, tm, H => match s7 i A.loops with
  | some p => A2 E F p.head tm H fun x => (p.fn x).bind fun y => xU E n K p.ways y
  | none => none
 | .exit j, _, K, tm, H => K.exit j tm H
 | .ret, _, K, tm, H => K.ret tm H
 | _, _, _, _, _ => none
def l5 {R : Type} (F : List (Nat × cw E.C)) (A : sY E) (n : Nat) (c : Code) (b : Nat) (p : qw) (ws : List (sV × qw)) (next : ap E.C p.ty → Option R) (out : ap E.C (kJ ws) → Option R) (x : ap E.C p.ty) : Option R :=
 tv E n p x fun tm H => eval E F A n c b ⟨fun tm H => A2 E F p tm H next, fun j tm H => np E F (.exit j) ws tm H out, fun tm H => np E F .ret ws tm H out⟩ tm H
def rZ {α β : Type} (f : (α → Option β) → α → Option β) : Nat → α → Option β
 | 0, _ => none
 | n + 1, x => f (rZ f n) x
def sP (tm : List (AV E.C)) (H : List (Ob E.C)) : List ResultVar → Option (List (AV E.C))
 | [] => some []
 | .tmp i :: r => match sP tm H r with | some vs => some (cX E tm (.tmp i) :: vs) | none => none
 | .cell i T :: r => match cX E tm (.tmp i) with
  | .adr j [] _ => match H[j]? with
   | some (.box bt v _) => match E.ty T with
    | some t => cond (t.beq bt) (match sP tm H r with | some vs => some (v :: vs) | none => none) none
    | none => none
   | _ => none
  | _ => none
def my {R : Type} (F : List (Nat × cw E.C)) (ios : List Nat) (rs : List ResultVar) (outs : List Sh) (k : ap E.C (bh outs) → Option R) (tm : List (AV E.C)) (H : List (Ob E.C)) : Option R :=
 match sP E tm H rs with
 | some vs => kF H (vD E F outs (ios.map (fun i => cX E tm (.tmp i)) ++ vs) [] [] fun x acc T => .ret (x, jQ acc T)) [] fun p _ => cond p.2 (k p.1) none
 | none => none
def eF (fn : Func) : Code := match fn.body with | some c => c | none => .skip
def uE {R : Type} (F : List (Nat × cw E.C)) (A : sY E) (fn : Func) (ins outs : List Sh) (fin : ap E.C (bh outs) → Option R) (x : ap E.C (bh ins)) : Option R :=
 zq E ins x [] fun vs H => pC vs (List.replicate (fn.ntmps - vs.length) .undef) fun tm =>
  eval E F A fn.ntmps (eF fn) 0 ⟨my E F (dQ 0 ins) fn.results.toList outs fin, fun _ _ _ => none, my E F (dQ 0 ins) fn.results.toList outs fin⟩ tm H
def zR (F : List (Nat × cw E.C)) (A : sY E) (fn : Func) (ins outs : List Sh) (x : ap E.C (bh ins)) : Option (ap E.C (bh outs)) := uE E F A fn ins outs some x
def bd : Ty → List Sh
 | .pair a b => .hole a :: bd b
 | _ => []
def yQ (F : List (Nat × cw E.C)) (A : sY E) (fn : Func) (ins : List Sh) (c : Ty) (x : ap E.C (bh ins)) : Option (ap E.C c) := uE E F A fn ins [.hole c] (fun y => some y.1) x
end
def i5 (b : Nat) : Code → Nat → Option Code
 | .seq x y, i => match i5 b x i with | some c => some c | none => i5 b y i
 | .cond _ x y, i => match i5 b x i with | some c => some c | none => i5 b y i
 | .block id c, _ => i5 b c id
 | .loop c, i => cond (Nat.beq i b) (some c) (i5 b c i)
 | _, _ => none
def ka (fn : Func) (b : Nat) : Code := match i5 b (eF fn) 0 with | some c => c | none => .skip
end Go.Ev
end
section
namespace Go.Ev
variable {P : Program} {E : dD}
def bm : Ty → Bool
 | .nm _ | .arr _ _ | .unit | .pair _ _ => true
 | _ => false
def eJ (agg : Bool) (cs : List Value) : Value := if agg then .agg cs.toArray else cs.headD undef
def at_ (b off : Nat) : Addr := ⟨b, off, none⟩
def ik (v : Value) : Prop := ∃ a, v = .slice a 0 0
theorem ik.form {v : Value} (h : ik v) : ∃ a, v = .slice a 0 0 := h
inductive aE (E : dD) (w : World) (S : Nat → Prop) : (t : Ty) → ap E.C t → List Value → Prop
 | int (k : IntKind) (n : Int) : aE E w S (.int k) n [.int k n]
 | bool (b : Bool) : aE E w S .bool b [.bool b]
 | str (s : ByteArray) : aE E w S .str s [.string s]
 | nils (e : Ty) (v : Value) (h : ik v) : aE E w S (.slice e) ([] : List (ap E.C e)) [v]
 | slice (e : Ty) (l : List (ap E.C e)) (b off cap : Nat) (css : Nat → List Value) (hb : S b) (hc : l.length ≤ cap)
   (hr : ∀ i x, l[i]? = some x → aE E w S e x (css i))
   (hm : ∀ i j c, i < l.length → (css i)[j]? = some c → w.cell? (at_ b (off + i * szT E e + j)) = some c) :
   aE E w S (.slice e) l [.slice (some (at_ b off)) l.length cap]
 | arr (n : Nat) (e : Ty) (l : List (ap E.C e)) (css : Nat → List Value) (hn : l.length = n) (hr : ∀ i x, l[i]? = some x → aE E w S e x (css i)) :
   aE E w S (.arr n e) l ((List.range n).flatMap css)
 | nm (n : Nat) (x : E.C n) (cs : List Value) (h : aE E w S (E.fld n) (E.proj n x) cs) : aE E w S (.nm n) x cs
 | unit (x : Unit) : aE E w S .unit x []
 | pair (a b : Ty) (p : ap E.C a × ap E.C b) (cs ds : List Value) (h : aE E w S a p.1 cs) (k : aE E w S b p.2 ds) : aE E w S (.pair a b) p (cs ++ ds)
 | ptr (t : Ty) (x : ap E.C t) (b off : Nat) (cs : List Value) (hb : S b) (h : aE E w S t x cs) (hm : ∀ j c, cs[j]? = some c → w.cell? (at_ b (off + j)) = some c) :
   aE E w S (.ptr t) x [.pointer (some (at_ b off))]
def tL : Ty → Bool
 | .unit => true
 | .pair a b => (match a with | .unit => false | .pair _ _ => false | _ => true) && tL b
 | _ => false
structure iC (E : dD) : Prop where
 siz : ∀ n, E.siz n = szT E (E.fld n)
 new : ∀ n x, E.proj n (E.new n x) = x
 chn : ∀ n, tL (E.fld n) = true
theorem aE.len (hE : iC E) {w : World} {S : Nat → Prop} {t : Ty} {x : ap E.C t} {cs : List Value} (h : aE E w S t x cs) : cs.length = szT E t := by
 induction h with
 | int | bool | str | nils | slice | ptr => rfl
 | arr n e l css hn hr ih =>
  subst hn
  have : ∀ m, m ≤ l.length → ((List.range m).flatMap css).length = m * szT E e := by
   intro m
   induction m with
   | zero => intro _; simp
   | succ m ihm =>
    intro hm
    rw [List.range_succ, List.flatMap_append, List.length_append, ihm (by omega)]
    have h1 : l[m]? = some l[m] := List.getElem?_eq_getElem (by omega)
    simp [ih m _ h1, Nat.succ_mul]
  simpa [szT] using this l.length (Nat.le_refl _)
 | nm n x cs h ih => rw [ih, szT, hE.siz]
 | unit => rfl
 | pair a b p cs ds h k ih1 ih2 => simp [szT, ih1, ih2]
def eo (S : Nat → Prop) (w w' : World) : Prop := ∀ b, S b → w'.heap[b]? = w.heap[b]?
theorem eo.cell {S : Nat → Prop} {w w' : World} (h : eo S w w') {b off : Nat} (hb : S b) : w'.cell? (at_ b off) = w.cell? (at_ b off) := by
 simp only [World.cell?, at_, h b hb]
theorem aE.mono {w w' : World} {S S' : Nat → Prop} (hs : ∀ b, S b → S' b) (hw : eo S w w') {t : Ty} {x : ap E.C t} {cs : List Value} (h : aE E w S t x cs) : aE E w' S' t x cs := by
 induction h with
 | int k n => exact .int k n
 | bool b => exact .bool b
 | str s => exact .str s
 | nils e v h => exact .nils e v h
 | slice e l b off cap css hb hc hr hm ih => exact .slice e l b off cap css (hs _ hb) hc ih fun i j c hi hj => (hw.cell hb).trans (hm i j c hi hj)
 | arr n e l css hn hr ih => exact .arr n e l css hn ih
 | nm n x cs h ih => exact .nm n x cs ih
 | unit x => exact .unit x
 | pair a b p cs ds h k ih1 ih2 => exact .pair a b p cs ds ih1 ih2
 | ptr t x b off cs hb h hm ih => exact .ptr t x b off cs (hs _ hb) ih fun j c hj => (hw.cell hb).trans (hm j c hj)
theorem aE.inv_int {w : World} {S : Nat → Prop} {k : IntKind} {n : ap E.C (.int k)} {cs : List Value} (h : aE E w S (.int k) n cs) : cs = [.int k (show Int from n)] := by
 cases h; rfl
theorem aE.inv_bool {w : World} {S : Nat → Prop} {b : ap E.C .bool} {cs : List Value} (h : aE E w S .bool b cs) : cs = [.bool (b : Bool)] := by
 cases h; rfl
theorem aE.inv_str {w : World} {S : Nat → Prop} {s : ap E.C .str} {cs : List Value} (h : aE E w S .str s cs) : cs = [.string (s : ByteArray)] := by
 cases h; rfl
theorem aE.inv_nm {w : World} {S : Nat → Prop} {n : Nat} {x : ap E.C (.nm n)} {cs : List Value} (h : aE E w S (.nm n) x cs) : aE E w S (E.fld n) (E.proj n x) cs := by
 cases h with | nm _ _ _ h => exact h
theorem aE.inv_unit {w : World} {S : Nat → Prop} {x : ap E.C .unit} {cs : List Value} (h : aE E w S .unit x cs) : cs = [] := by
 cases h; rfl
theorem aE.inv_pair {w : World} {S : Nat → Prop} {a b : Ty} {p : ap E.C (.pair a b)} {cs : List Value} (h : aE E w S (.pair a b) p cs) :
  ∃ c d, cs = c ++ d ∧ aE E w S a (show ap E.C a × ap E.C b from p).1 c ∧ aE E w S b (show ap E.C a × ap E.C b from p).2 d := by
 cases h with | pair _ _ _ c d h k => exact ⟨c, d, rfl, h, k⟩
theorem aE.inv_ptr {w : World} {S : Nat → Prop} {t : Ty} {x : ap E.C (.ptr t)} {cs : List Value} (h : aE E w S (.ptr t) x cs) :
  ∃ b off ds, cs = [.pointer (some (at_ b off))] ∧ S b ∧ aE E w S t (show ap E.C t from x) ds ∧ ∀ j c, ds[j]? = some c → w.cell? (at_ b (off + j)) = some c := by
 cases h with | ptr _ _ b off ds hb h hm => exact ⟨b, off, ds, rfl, hb, h, hm⟩
theorem aE.inv_slice {w : World} {S : Nat → Prop} {e : Ty} {l : ap E.C (.slice e)} {cs : List Value} (h : aE E w S (.slice e) l cs) :
  (∃ v, ik v ∧ cs = [v] ∧ (show List (ap E.C e) from l) = []) ∨
  ∃ (b off cap : Nat) (css : Nat → List Value), cs = [.slice (some (at_ b off)) (show List (ap E.C e) from l).length cap] ∧ S b ∧ (show List (ap E.C e) from l).length ≤ cap ∧
   (∀ i x, (show List (ap E.C e) from l)[i]? = some x → aE E w S e x (css i)) ∧
   ∀ i j c, i < (show List (ap E.C e) from l).length → (css i)[j]? = some c → w.cell? (at_ b (off + i * szT E e + j)) = some c := by
 cases h with
 | nils _ v h => exact .inl ⟨v, h, rfl, rfl⟩
 | slice _ l b off cap css hb hc hr hm => exact .inr ⟨b, off, cap, css, rfl, hb, hc, hr, hm⟩
theorem aE.inv_arr {w : World} {S : Nat → Prop} {n : Nat} {e : Ty} {l : ap E.C (.arr n e)} {cs : List Value} (h : aE E w S (.arr n e) l cs) :
  ∃ css : Nat → List Value, cs = (List.range n).flatMap css ∧ (show List (ap E.C e) from l).length = n ∧ ∀ i x, (show List (ap E.C e) from l)[i]? = some x → aE E w S e x (css i) := by
 cases h with | arr _ _ l css hn hr => exact ⟨css, rfl, hn, hr⟩
structure Pl where
 b : Nat
 p : Nat
 cp : Nat
def Ob.live {C : Nat → Type} : Ob C → Bool
 | .box _ _ fz => !fz
 | .row _ _ fz => !fz
 | .dead => false
section
variable (P : Program) (E : dD) (w : World) (S : Nat → Prop) (H : List (Ob E.C)) (ρ : Nat → Option Pl) (Fr : Nat → Prop)
def ia (i : Nat) (v : Value) : Prop :=
 (¬ Fr i ∧ ∃ a n c, v = .slice a n c) ∧ ∀ t l fz, H[i]? = some (.row t l fz) → match ρ i with
  | none => ik v
  | some q => ∃ cap, v = .slice (some (at_ q.b (q.p * szT E t))) l.length cap ∧ l.length ≤ cap ∧ cap ≤ q.cp
def kV (i lo hi : Nat) (v : Value) : Prop :=
 (¬ Fr i ∧ ∃ a n c, v = .slice a n c) ∧ ∀ t l fz, H[i]? = some (.row t l fz) → lo ≤ hi ∧ match ρ i with
  | none => ik v ∧ hi = 0
  | some q => ∃ cap p, v = .slice (some (at_ q.b (p * szT E t))) (hi - lo) cap ∧ hi - lo ≤ cap ∧ lo + cap ≤ q.cp ∧ p ≤ q.p + lo ∧ (cap = 0 ∨ p = q.p + lo)
def j0 (i : Nat) (p : List Nat) (t' : Ty) (v : Value) : Prop :=
 ¬ Fr i ∧ (∃ b off, v = .pointer (some (at_ b off))) ∧ (∀ t x fz, H[i]? = some (.box t x fz) → ∃ q o, ρ i = some q ∧ fM E p t = some (o, t') ∧ v = .pointer (some (at_ q.b o))) ∧
 (∀ t l fz, H[i]? = some (.row t l fz) → ∃ q j p' o, ρ i = some q ∧ p = j :: p' ∧ j < l.length ∧ fM E p' t = some (o, t') ∧ v = .pointer (some (at_ q.b ((q.p + j) * szT E t + o))))
mutual
def bc : AV E.C → List Value → Prop
 | .pv t x, cs => aE E w S t x cs
 | .nils, cs => cs = [.slice none 0 0]
 | .row i, cs => ∃ v, cs = [v] ∧ ia E H ρ Fr i v
 | .sub i lo hi, cs => ∃ v, cs = [v] ∧ kV E H ρ Fr i lo hi v
 | .adr i p t, cs => ∃ v, cs = [v] ∧ j0 E H ρ Fr i p t v
 | .agg n fs, cs => dY fs (E.fld n) cs
 | .tup _, _ => False
 | .clo _ _, _ => False
 | .undef, _ => False
def dY : List (AV E.C) → Ty → List Value → Prop
 | [], t, cs => t = .unit ∧ cs = []
 | v :: vs, t, cs => ∃ a b c d, t = .pair a b ∧ cs = c ++ d ∧ fL E v a = true ∧ bc v c ∧ dY vs b d
end
def jW (w w' : World) (S S' : Nat → Prop) : Prop := w.heap.size ≤ w'.heap.size ∧ (∀ b, S b → S' b) ∧ eo S w w' ∧ ∀ b, S' b → b < w'.heap.size
def lq (w : World) (S : Nat → Prop) : (t : Ty) → ap E.C t → List Value → Prop
 | .unit, _, us => us = []
 | .pair a b, p, us => ∃ u us' cs, us = u :: us' ∧ aE E w S a p.1 cs ∧ u = eJ (bm a) cs ∧ lq w S b p.2 us'
 | _, _, _ => False
def gv : Ty → Bool
 | .fn _ _ => false
 | .pair a b => gv a && gv b
 | _ => true
def vX (w : World) (S : Nat → Prop) (c : Ty) (y : ap E.C c) : Ending → World → Prop := fun e w' =>
 ∃ cs, e = .returned (eJ (bm c) cs) ∧ aE E w' (fun b => S b ∨ (w.heap.size ≤ b ∧ b < w'.heap.size)) c y cs ∧ Go.RowKit.Below w.heap.size w w'
def A9 (P : Program) (f : FuncId) : Prop := ∃ fn c, P.funcs[f]? = some fn ∧ fn.body = some c ∧ (fn.name == "runtime.NumGoroutine") = false
def sI (d c : Ty) (g : ap E.C d → Option (ap E.C c)) (v : Value) : Prop :=
 ∃ f caps, v = .func (.func f) #[] caps ∧ (A9 P f ∧ gv d = true ∧ gv c = true) ∧ ∀ w' S', jW w w' S S' → ∀ x us, lq E w' S' d x us → ∀ y, g x = some y → Calls P f (us.toArray ++ caps) w' (vX E w' S' c y)
def jB (t : Ty) (x : ap E.C t) (v : Value) : Prop := match t, x with
 | .fn d c, g => sI P E w S d c g v
 | t, x => ∃ cs, aE E w S t x cs ∧ v = eJ (bm t) cs
def B8 (w : World) (S : Nat → Prop) : (t : Ty) → ap E.C t → List Value → Prop
 | .unit, _, us => us = []
 | .pair a b, p, us => ∃ u us', us = u :: us' ∧ jB P E w S a p.1 u ∧ B8 w S b p.2 us'
 | _, _, _ => False
def nJ (f : Nat) (s : mc E.C) : Prop := A9 P f ∧ gv s.caps = true ∧ gv s.d = true ∧ gv s.c = true ∧
 ∀ (w : World) (S : Nat → Prop), (∀ b, S b → b < w.heap.size) → ∀ y vs, lq E w S s.caps y vs → ∀ x us, lq E w S s.d x us → ∀ z, s.fn y x = some z →
  Calls P f (us ++ vs).toArray w (vX E w S s.c z)
mutual
def aF : AV E.C → Value → Prop
 | .tup vs, v => ∃ us : List Value, v = .tuple us.toArray ∧ az vs us
 | .clo f cs, v => ∃ us : List Value, v = .func (.func f) #[] us.toArray ∧ az cs us
 | .undef, _ => True
 | .pv t x, v => jB P E w S t x v
 | .nils, v => v = .slice none 0 0
 | .row i, v => ia E H ρ Fr i v
 | .sub i lo hi, v => kV E H ρ Fr i lo hi v
 | .adr i p t, v => j0 E H ρ Fr i p t v
 | .agg n fs, v => ∃ cs : List Value, dY E w S H ρ Fr fs (E.fld n) cs ∧ v = .agg cs.toArray
def az : List (AV E.C) → List Value → Prop
 | [], us => us = []
 | v :: vs, us => ∃ u us', us = u :: us' ∧ aF v u ∧ az vs us'
end
def dw (i : Nat) : Ob E.C → Prop
 | .dead => True
 | .box t v fz => ∃ q T cs, ρ i = some q ∧ w.heap[q.b]? = some (.cells (List.toArray cs) T (0, 0)) ∧ fL E v t = true ∧ bc E w S H ρ Fr v cs ∧ (fz = true → S q.b)
 | .row t l fz => (l = [] ∧ ρ i = none) ∨ ∃ (q : Pl) (c : Array Value) (T : TypeId) (css : Nat → List Value), ρ i = some q ∧ w.heap[q.b]? = some (.cells c T (0, 0)) ∧ l.length ≤ q.cp ∧ (q.p + q.cp) * szT E t ≤ c.size ∧
   (∀ j x, l[j]? = some x → aE E w S t x (css j)) ∧ (∀ j k cc, j < l.length → (css j)[k]? = some cc → c[(q.p + j) * szT E t + k]? = some cc) ∧ (fz = true → S q.b)
structure dW : Prop where
 obs : ∀ i o, H[i]? = some o → dw E w S H ρ Fr i o
 out : ∀ i o q, H[i]? = some o → o.live = true → ρ i = some q → ¬ S q.b
 inj : ∀ i j o o' q q', H[i]? = some o → H[j]? = some o' → o.live = true → o'.live = true → ρ i = some q → ρ j = some q' → q.b = q'.b → i = j
 fre : ∀ i o, Fr i → H[i]? = some o → o = .dead
 far : ∀ i, H.length ≤ i → Fr i
end
def vQ (H H' : List (Ob E.C)) (i : Nat) : Prop :=
 (∀ t l fz, H'[i]? = some (.row t l fz) → ∃ l' fz', H[i]? = some (.row t l' fz') ∧ l'.length = l.length) ∧
 (∀ t x fz, H'[i]? = some (.box t x fz) → ∃ x' fz', H[i]? = some (.box t x' fz'))
theorem vQ.refl (H : List (Ob E.C)) (i : Nat) : vQ H H i := ⟨fun _ l fz h => ⟨l, fz, h, rfl⟩, fun _ x fz h => ⟨x, fz, h⟩⟩
theorem vQ.trans {H H' H'' : List (Ob E.C)} {i : Nat} (h : vQ H H' i) (k : vQ H' H'' i) : vQ H H'' i := by
 refine ⟨fun t l fz e => ?_, fun t x fz e => ?_⟩
 ·obtain ⟨l', fz', e', hl⟩ := k.1 t l fz e
  obtain ⟨l'', fz'', e'', hl'⟩ := h.1 t l' fz' e'
  exact ⟨l'', fz'', e'', hl'.trans hl⟩
 ·obtain ⟨x', fz', e'⟩ := k.2 t x fz e
  exact h.2 t x' fz' e'
structure lG (w w' : World) (S S' : Nat → Prop) (H H' : List (Ob E.C)) (ρ ρ' : Nat → Option Pl) (Fr Fr' : Nat → Prop) : Prop where
 st : jW w w' S S'
 sim : ∀ i, ¬ Fr i → vQ H H' i
 pl : ∀ i, ¬ Fr i → ρ' i = ρ i
 fr : ∀ i, Fr' i → Fr i
section
variable {w w' : World} {S S' : Nat → Prop} {H H' : List (Ob E.C)} {ρ ρ' : Nat → Option Pl} {Fr Fr' : Nat → Prop}
theorem ia.mono (m : lG w w' S S' H H' ρ ρ' Fr Fr') {i : Nat} {v : Value} (h : ia E H ρ Fr i v) : ia E H' ρ' Fr' i v := by
 refine ⟨⟨fun hf => h.1.1 (m.fr i hf), h.1.2⟩, fun t l fz e => ?_⟩
 obtain ⟨l', fz', e', hl⟩ := (m.sim i h.1.1).1 t l fz e
 have := h.2 t l' fz' e'
 rw [m.pl i h.1.1]
 split <;> rename_i hq <;> rw [hq] at this <;> simp only [hl] at this <;> exact this
theorem kV.mono (m : lG w w' S S' H H' ρ ρ' Fr Fr') {i lo hi : Nat} {v : Value} (h : kV E H ρ Fr i lo hi v) : kV E H' ρ' Fr' i lo hi v := by
 refine ⟨⟨fun hf => h.1.1 (m.fr i hf), h.1.2⟩, fun t l fz e => ?_⟩
 obtain ⟨l', fz', e', hl⟩ := (m.sim i h.1.1).1 t l fz e
 have := h.2 t l' fz' e'
 rw [m.pl i h.1.1]
 exact this
theorem j0.mono (m : lG w w' S S' H H' ρ ρ' Fr Fr') {i : Nat} {p : List Nat} {ta : Ty} {v : Value} (h : j0 E H ρ Fr i p ta v) : j0 E H' ρ' Fr' i p ta v := by
 refine ⟨fun hf => h.1 (m.fr i hf), h.2.1, fun t x fz e => ?_, fun t l fz e => ?_⟩
 ·obtain ⟨x', fz', e'⟩ := (m.sim i h.1).2 t x fz e
  rw [m.pl i h.1]; exact h.2.2.1 t x' fz' e'
 ·obtain ⟨l', fz', e', hl⟩ := (m.sim i h.1).1 t l fz e
  rw [m.pl i h.1]
  obtain ⟨q, j, p', o, h1, h2, h3, h4, h5⟩ := h.2.2.2 t l' fz' e'
  exact ⟨q, j, p', o, h1, h2, hl ▸ h3, h4, h5⟩
mutual
theorem bc.mono (m : lG w w' S S' H H' ρ ρ' Fr Fr') : ∀ {v : AV E.C} {cs : List Value}, bc E w S H ρ Fr v cs → bc E w' S' H' ρ' Fr' v cs
 | .pv t x, cs, h => by unfold bc at h ⊢; exact h.mono m.st.2.1 m.st.2.2.1
 | .nils, cs, h => by unfold bc at h ⊢; exact h
 | .row i, cs, h => by unfold bc at h ⊢; obtain ⟨v, e, k⟩ := h; exact ⟨v, e, k.mono m⟩
 | .sub i lo hi, cs, h => by unfold bc at h ⊢; obtain ⟨v, e, k⟩ := h; exact ⟨v, e, k.mono m⟩
 | .adr i p t, cs, h => by unfold bc at h ⊢; obtain ⟨v, e, k⟩ := h; exact ⟨v, e, k.mono m⟩
 | .agg n fs, cs, h => by unfold bc at h ⊢; exact dY.mono m h
 | .tup _, _, h => by unfold bc at h; exact h.elim
 | .clo _ _, _, h => by unfold bc at h; exact h.elim
 | .undef, _, h => by unfold bc at h; exact h.elim
theorem dY.mono (m : lG w w' S S' H H' ρ ρ' Fr Fr') : ∀ {vs : List (AV E.C)} {t : Ty} {cs : List Value}, dY E w S H ρ Fr vs t cs → dY E w' S' H' ρ' Fr' vs t cs
 | [], t, cs, h => by unfold dY at h ⊢; exact h
 | v :: vs, t, cs, h => by
  unfold dY at h ⊢
  obtain ⟨a, b, c, d, e1, e2, e3, h1, h2⟩ := h
  exact ⟨a, b, c, d, e1, e2, e3, bc.mono m h1, dY.mono m h2⟩
end
theorem jW.trans {w₁ w₂ w₃ : World} {S₁ S₂ S₃ : Nat → Prop} (h : jW w₁ w₂ S₁ S₂) (k : jW w₂ w₃ S₂ S₃) : jW w₁ w₃ S₁ S₃ :=
 ⟨Nat.le_trans h.1 k.1, fun b hb => k.2.1 b (h.2.1 b hb), fun b hb => (k.2.2.1 b (h.2.1 b hb)).trans (h.2.2.1 b hb), k.2.2.2⟩
theorem sI.mono {d c : Ty} {g : ap E.C d → Option (ap E.C c)} {v : Value} (m : jW w w' S S') (h : sI P E w S d c g v) : sI P E w' S' d c g v := by
 obtain ⟨f, caps, e, n, k⟩ := h
 exact ⟨f, caps, e, n, fun w2 S2 hst => k w2 S2 (m.trans hst)⟩
theorem jB.mono {t : Ty} {x : ap E.C t} {v : Value} (m : jW w w' S S') (h : jB P E w S t x v) : jB P E w' S' t x v := by
 unfold jB at h ⊢
 split at h
 ·exact sI.mono m h
 ·obtain ⟨cs, hr, e⟩ := h
  exact ⟨cs, hr.mono m.2.1 m.2.2.1, e⟩
mutual
theorem aF.mono (m : lG w w' S S' H H' ρ ρ' Fr Fr') : ∀ {v : AV E.C} {u : Value}, aF P E w S H ρ Fr v u → aF P E w' S' H' ρ' Fr' v u
 | .tup vs, u, h => by unfold aF at h ⊢; obtain ⟨us, e, k⟩ := h; exact ⟨us, e, az.mono m k⟩
 | .clo f cs, u, h => by unfold aF at h ⊢; obtain ⟨us, e, k⟩ := h; exact ⟨us, e, az.mono m k⟩
 | .undef, u, h => by unfold aF; trivial
 | .pv t x, u, h => by unfold aF at h ⊢; exact jB.mono m.st h
 | .nils, u, h => by unfold aF at h ⊢; exact h
 | .row i, u, h => by unfold aF at h ⊢; exact h.mono m
 | .sub i lo hi, u, h => by unfold aF at h ⊢; exact h.mono m
 | .adr i p t, u, h => by unfold aF at h ⊢; exact h.mono m
 | .agg n fs, u, h => by unfold aF at h ⊢; obtain ⟨cs, k, e⟩ := h; exact ⟨cs, dY.mono m k, e⟩
theorem az.mono (m : lG w w' S S' H H' ρ ρ' Fr Fr') : ∀ {vs : List (AV E.C)} {us : List Value}, az P E w S H ρ Fr vs us → az P E w' S' H' ρ' Fr' vs us
 | [], us, h => by unfold az at h ⊢; exact h
 | v :: vs, us, h => by
  unfold az at h ⊢
  obtain ⟨u, us', e, h1, h2⟩ := h
  exact ⟨u, us', e, aF.mono m h1, az.mono m h2⟩
end
theorem dw.mono (m : lG w w' S S' H H' ρ ρ' Fr Fr') {i : Nat} (hi : ¬ Fr i) {o : Ob E.C} (hb : ∀ q, ρ i = some q → w'.heap[q.b]? = w.heap[q.b]?) (h : dw E w S H ρ Fr i o) : dw E w' S' H' ρ' Fr' i o := by
 cases o with
 | dead => unfold dw; trivial
 | box t v fz =>
  unfold dw at h ⊢
  obtain ⟨q, T, cs, h1, h2, h3, h4, h5⟩ := h
  exact ⟨q, T, cs, (m.pl i hi).trans h1, (hb q h1).trans h2, h3, bc.mono m h4, fun e => m.st.2.1 _ (h5 e)⟩
 | row t l fz =>
  unfold dw at h ⊢
  rcases h with ⟨h1, h2⟩ | ⟨q, c, T, css, h1, h2, h3, h4, h6, h7, h8⟩
  ·exact .inl ⟨h1, (m.pl i hi).trans h2⟩
  ·exact .inr ⟨q, c, T, css, (m.pl i hi).trans h1, (hb q h1).trans h2, h3, h4, fun j x hx => (h6 j x hx).mono m.st.2.1 m.st.2.2.1, h7, fun e => m.st.2.1 _ (h8 e)⟩
end
end Go.Ev
end
section
namespace Go.Ev
def aj {C : Nat → Type} {α : Type} (H : List (Ob C)) : HM C α → List Nat → Option (α × List Nat)
 | .ret a, T => some (a, T)
 | .fail, _ => none
 | .get i f, T => match H[i]? with | some o => aj H (f o) (i :: T) | none => none
 | .gd b m, T => if b = true then aj H m T else none
 | .br b f, T => aj H (f b) T
 | .call _ x f, T => match x with | some v => aj H (f v) T | none => none
theorem kq {C : Nat → Type} {α R : Type} (H : List (Ob C)) (m : HM C α) : ∀ (T : List Nat) (k : α → List Nat → Option R), kF H m T k = (aj H m T).bind fun p => k p.1 p.2 := by
 induction m with
 | ret a => intro T k; rfl
 | fail => intro T k; rfl
 | get i f ih =>
  intro T k
  simp only [kF, aj]
  cases H[i]? with
  | none => rfl
  | some o => exact ih o _ _
 | gd b m ih => intro T k; cases b <;> simp [kF, aj, ih]
 | br b f ih => intro T k; cases b <;> simp [kF, aj, ih]
 | call t x f ih => intro T k; cases x <;> simp [kF, aj, ih]
section
variable {C : Nat → Type} {α : Type} {H : List (Ob C)} {T : List Nat} {r : α × List Nat}
theorem dr {t : Ty} {x : Option (ap C t)} {f : ap C t → HM C α} (h : aj H (.call t x f) T = some r) : ∃ v, x = some v ∧ aj H (f v) T = some r := by
 cases x with
 | none => simp [aj] at h
 | some v => exact ⟨v, rfl, h⟩
theorem bw {i : Nat} {f : Ob C → HM C α} (h : aj H (.get i f) T = some r) : ∃ o, H[i]? = some o ∧ aj H (f o) (i :: T) = some r := by
 simp only [aj] at h
 cases ho : H[i]? with
 | none => rw [ho] at h; cases h
 | some o => rw [ho] at h; exact ⟨o, rfl, h⟩
theorem bI {b : Bool} {m : HM C α} (h : aj H (.gd b m) T = some r) : b = true ∧ aj H m T = some r := by
 simp only [aj] at h
 split at h
 ·rename_i hb; exact ⟨hb, h⟩
 ·cases h
end
def jb (ds cs : List Value) (o : Nat) : Prop := ∀ j c, ds[j]? = some c → cs[o + j]? = some c
theorem jb.refl (cs : List Value) : jb cs cs 0 := fun j c h => by simpa using h
theorem jb.trans {a b c : List Value} {o o' : Nat} (h : jb a b o) (k : jb b c o') : jb a c (o' + o) := fun j x hx => by
 have := k (o + j) x (h j x hx)
 rwa [← Nat.add_assoc] at this
theorem jb.left (c d : List Value) : jb c (c ++ d) 0 := fun j x hx => by
 have : j < c.length := (List.getElem?_eq_some_iff.1 hx).1
 rw [Nat.zero_add, List.getElem?_append_left this]; exact hx
theorem jb.right (c d : List Value) : jb d (c ++ d) c.length := fun j x hx => by
 rw [List.getElem?_append_right (by omega)]; simpa using hx
section
variable {P : Program} {E : dD} (hE : iC E) {w : World} {S : Nat → Prop} {H : List (Ob E.C)} {ρ : Nat → Option Pl} {Fr : Nat → Prop} {F : List (Nat × cw E.C)}
include hE
theorem kY {α : Type} {T0 : List Nat} {r : α × List Nat} : ∀ {t : Ty} {x : ap E.C t} {i : Nat} {k : (t : Ty) → ap E.C t → HM E.C α} {cs : List Value},
  aE E w S t x cs → aj H (ku E t x i k) T0 = some r → ∃ t' y o ds, ie E t i = some (o, t') ∧ aE E w S t' y ds ∧ jb ds cs o ∧ aj H (k t' y) T0 = some r
 | .pair a b, x, 0, k, cs, h, hr => by
  obtain ⟨c, d, rfl, h1, h2⟩ := h.inv_pair
  exact ⟨a, _, 0, c, rfl, h1, jb.left c d, hr⟩
 | .pair a b, x, i + 1, k, cs, h, hr => by
  obtain ⟨c, d, rfl, h1, h2⟩ := h.inv_pair
  obtain ⟨t', y, o, ds, e1, e2, e3, e4⟩ := kY h2 hr
  refine ⟨t', y, szT E a + o, ds, by simp [ie, e1], e2, ?_, e4⟩
  have := e3.trans (jb.right c d)
  rwa [h1.len hE] at this
 | .int _, _, _, _, _, _, hr => by simp [ku, aj] at hr
 | .bool, _, _, _, _, _, hr => by simp [ku, aj] at hr
 | .str, _, _, _, _, _, hr => by simp [ku, aj] at hr
 | .slice _, _, _, _, _, _, hr => by simp [ku, aj] at hr
 | .arr _ _, _, _, _, _, _, hr => by simp [ku, aj] at hr
 | .nm _, _, _, _, _, _, hr => by simp [ku, aj] at hr
 | .ptr _, _, _, _, _, _, hr => by simp [ku, aj] at hr
 | .unit, _, _, _, _, _, hr => by simp [ku, aj] at hr
 | .sum _ _, _, _, _, _, _, hr => by simp [ku, aj] at hr
 | .fn _ _, _, _, _, _, _, hr => by simp [ku, aj] at hr
omit hE in
theorem lN {t t' : Ty} {x : ap E.C t} (h : fL E (.pv t x) t' = true) : t = t' := by
 unfold fL at h
 exact Ty.eq_of_beq h
omit hE in
theorem Ty.beq_refl : ∀ t : Ty, t.beq t = true := by
 intro t
 induction t <;> simp_all [Ty.beq]
mutual
theorem bc.len : ∀ {v : AV E.C} {t : Ty} {cs : List Value}, fL E v t = true → bc E w S H ρ Fr v cs → cs.length = szT E t
 | .pv t' x, t, cs, ho, h => by
  unfold bc at h
  obtain rfl := lN ho
  exact h.len hE
 | .nils, t, cs, ho, h => by unfold bc at h; cases t <;> simp [fL] at ho; simp [h, szT]
 | .row i, t, cs, ho, h => by unfold bc at h; obtain ⟨v, rfl, _⟩ := h; cases t <;> simp [fL] at ho; rfl
 | .sub i lo hi, t, cs, ho, h => by unfold bc at h; obtain ⟨v, rfl, _⟩ := h; cases t <;> simp [fL] at ho; rfl
 | .adr i p ta, t, cs, ho, h => by unfold bc at h; obtain ⟨v, rfl, _⟩ := h; cases t <;> simp [fL] at ho; rfl
 | .agg n fs, t, cs, ho, h => by
  unfold bc at h
  cases t <;> simp [fL] at ho
  subst ho
  rw [szT, hE.siz]
  exact dY.len h
 | .tup _, _, _, _, h => by unfold bc at h; exact h.elim
 | .clo _ _, _, _, _, h => by unfold bc at h; exact h.elim
 | .undef, _, _, _, h => by unfold bc at h; exact h.elim
theorem dY.len : ∀ {vs : List (AV E.C)} {t : Ty} {cs : List Value}, dY E w S H ρ Fr vs t cs → cs.length = szT E t
 | [], t, cs, h => by unfold dY at h; obtain ⟨rfl, rfl⟩ := h; rfl
 | v :: vs, t, cs, h => by
  unfold dY at h
  obtain ⟨a, b, c, d, rfl, rfl, ho, h1, h2⟩ := h
  rw [List.length_append, bc.len ho h1, dY.len h2]; rfl
end
theorem dY.nth : ∀ {fs : List (AV E.C)} {t : Ty} {cs : List Value} {i : Nat} {v : AV E.C}, dY E w S H ρ Fr fs t cs → fs[i]? = some v →
  ∃ o t' ds, ie E t i = some (o, t') ∧ fL E v t' = true ∧ bc E w S H ρ Fr v ds ∧ jb ds cs o
 | [], t, cs, i, v, h, hv => by simp at hv
 | u :: fs, t, cs, 0, v, h, hv => by
  unfold dY at h
  obtain ⟨a, b, c, d, rfl, rfl, ho, h1, h2⟩ := h
  obtain rfl : u = v := by simpa using hv
  exact ⟨0, a, c, rfl, ho, h1, jb.left c d⟩
 | u :: fs, t, cs, i + 1, v, h, hv => by
  unfold dY at h
  obtain ⟨a, b, c, d, rfl, rfl, ho, h1, h2⟩ := h
  obtain ⟨o, t', ds, e1, e2, e3, e4⟩ := dY.nth h2 (by simpa using hv)
  refine ⟨szT E a + o, t', ds, by simp [ie, e1], e2, e3, ?_⟩
  have := e4.trans (jb.right c d)
  rwa [bc.len hE ho h1] at this
theorem fK {α : Type} {T0 : List Nat} {r : α × List Nat} {k : AV E.C → HM E.C α} : ∀ {p : List Nat} {v : AV E.C} {t : Ty} {cs : List Value},
  fL E v t = true → bc E w S H ρ Fr v cs → aj H (fW E p v k) T0 = some r →
  ∃ v' t' o ds, fM E p t = some (o, t') ∧ fL E v' t' = true ∧ bc E w S H ρ Fr v' ds ∧ jb ds cs o ∧ aj H (k v') T0 = some r
 | [], v, t, cs, ho, h, hr => ⟨v, t, 0, cs, rfl, ho, h, jb.refl cs, by simpa [fW] using hr⟩
 | i :: p, .agg n fs, t, cs, ho, h, hr => by
  cases t <;> simp [fL] at ho
  subst ho
  unfold bc at h
  simp only [fW] at hr
  split at hr
  ·rename_i v hv
   obtain ⟨o, t', ds, e1, e2, e3, e4⟩ := dY.nth hE h hv
   obtain ⟨v', t'', o', ds', f1, f2, f3, f4, f5⟩ := fK e2 e3 hr
   exact ⟨v', t'', o + o', ds', by simp [fM, e1, f1], f2, f3, f4.trans e4, f5⟩
  ·simp [aj] at hr
 | i :: p, .pv (.nm n) x, t, cs, ho, h, hr => by
  obtain rfl := lN ho
  unfold bc at h
  simp only [fW] at hr
  obtain ⟨t', y, o, ds, e1, e2, e3, e4⟩ := kY hE h.inv_nm hr
  obtain ⟨v', t'', o', ds', f1, f2, f3, f4, f5⟩ := fK (v := .pv t' y) (t := t') (by simp [fL, Ty.beq_refl]) (by unfold bc; exact e2) e4
  exact ⟨v', t'', o + o', ds', by simp [fM, e1, f1], f2, f3, f4.trans e3, f5⟩
 | i :: p, .pv (.arr n e) x, t, cs, ho, h, hr => by
  obtain rfl := lN ho
  unfold bc at h
  obtain ⟨css, rfl, hn, hrep⟩ := h.inv_arr
  simp only [fW] at hr
  obtain ⟨y, hy, hr⟩ := dr hr
  ·have hlt : i < n := by
    have := (List.getElem?_eq_some_iff.1 hy).1
    exact hn ▸ this
   obtain ⟨v', t'', o', ds', f1, f2, f3, f4, f5⟩ := fK (v := .pv e y) (t := e) (by simp [fL, Ty.beq_refl]) (by unfold bc; exact hrep i y hy) hr
   refine ⟨v', t'', i * szT E e + o', ds', by simp [fM, f1], f2, f3, f4.trans ?_, f5⟩
   intro j c hc
   have hlen : ∀ m, m ≤ n → ((List.range m).flatMap css).length = m * szT E e := by
    intro m
    induction m with
    | zero => intro _; simp
    | succ m ihm =>
     intro hm
     rw [List.range_succ, List.flatMap_append, List.length_append, ihm (by omega)]
     obtain ⟨z, hz⟩ : ∃ z, (show List (ap E.C e) from x)[m]? = some z := ⟨_, List.getElem?_eq_getElem (by omega)⟩
     simp [(hrep m z hz).len hE, Nat.succ_mul]
   obtain ⟨m, hm⟩ : ∃ m, n = (i + 1) + m := ⟨n - (i + 1), by omega⟩
   have hsplit : List.range n = List.range i ++ (i :: (List.range m).map (i + 1 + ·)) := by
    rw [hm, List.range_add, List.range_succ, List.append_assoc]; rfl
   rw [hsplit, List.flatMap_append, List.flatMap_cons, List.getElem?_append_right (by rw [hlen i (by omega)]; omega), hlen i (by omega)]
   rw [Nat.add_sub_cancel_left, List.getElem?_append_left (List.getElem?_eq_some_iff.1 hc).1]
   exact hc
 | i :: p, .pv (.int _) x, t, cs, ho, h, hr => by simp [fW, aj] at hr
 | i :: p, .pv .bool x, t, cs, ho, h, hr => by simp [fW, aj] at hr
 | i :: p, .pv .str x, t, cs, ho, h, hr => by simp [fW, aj] at hr
 | i :: p, .pv (.slice _) x, t, cs, ho, h, hr => by simp [fW, aj] at hr
 | i :: p, .pv (.ptr _) x, t, cs, ho, h, hr => by simp [fW, aj] at hr
 | i :: p, .pv .unit x, t, cs, ho, h, hr => by simp [fW, aj] at hr
 | i :: p, .pv (.pair _ _) x, t, cs, ho, h, hr => by simp [fW, aj] at hr
 | i :: p, .pv (.sum _ _) x, t, cs, ho, h, hr => by simp [fW, aj] at hr
 | i :: p, .pv (.fn _ _) x, t, cs, ho, h, hr => by simp [fW, aj] at hr
 | i :: p, .nils, t, cs, ho, h, hr => by simp [fW, aj] at hr
 | i :: p, .row _, t, cs, ho, h, hr => by simp [fW, aj] at hr
 | i :: p, .sub _ _ _, t, cs, ho, h, hr => by simp [fW, aj] at hr
 | i :: p, .adr _ _ _, t, cs, ho, h, hr => by simp [fW, aj] at hr
 | i :: p, .tup _, t, cs, ho, h, hr => by simp [fW, aj] at hr
 | i :: p, .clo _ _, t, cs, ho, h, hr => by simp [fW, aj] at hr
 | i :: p, .undef, t, cs, ho, h, hr => by simp [fW, aj] at hr
end
theorem ui {C : Nat → Type} {α : Type} {H : List (Ob C)} {t t' : Ty} {x : ap C t} {k : ap C t' → HM C α} {T : List Nat} {r : α × List Nat} (h : aj H (A4 t t' x k) T = some r) :
  ∃ e : t = t', aj H (k (e ▸ x)) T = some r := by
 unfold A4 at h
 split at h
 ·rename_i hb; exact ⟨Ty.eq_of_beq hb, h⟩
 ·cases h
theorem k0 {C : Nat → Type} {α : Type} {H : List (Ob C)} {t t' : Ty} {x : List (ap C t)} {k : List (ap C t') → HM C α} {T : List Nat} {r : α × List Nat} (h : aj H (wl t t' x k) T = some r) :
  ∃ e : t = t', aj H (k (e ▸ x)) T = some r := by
 unfold wl at h
 split at h
 ·rename_i hb; exact ⟨Ty.eq_of_beq hb, h⟩
 ·cases h
def ST (S : Nat → Prop) (ρ : Nat → Option Pl) (T : List Nat) (b : Nat) : Prop := S b ∨ ∃ i q, i ∈ T ∧ ρ i = some q ∧ q.b = b
theorem ST.mono {S : Nat → Prop} {ρ : Nat → Option Pl} {T T' : List Nat} (h : ∀ i, i ∈ T → i ∈ T') {b : Nat} (hb : ST S ρ T b) : ST S ρ T' b := by
 rcases hb with hb | ⟨i, q, hi, hq, e⟩
 ·exact .inl hb
 ·exact .inr ⟨i, q, h i hi, hq, e⟩
theorem World.cell_of_heap {w : World} {b : Nat} {c : Array Value} {T : TypeId} {fr : Nat × Nat} (h : w.heap[b]? = some (.cells c T fr)) (off : Nat) : w.cell? (at_ b off) = c[off]? := by
 simp [World.cell?, at_, h]
theorem eo.refl (S : Nat → Prop) (w : World) : eo S w w := fun _ _ => rfl
section
variable {P : Program} {E : dD} {w : World} {S : Nat → Prop} {H : List (Ob E.C)} {ρ : Nat → Option Pl} {Fr : Nat → Prop} {F : List (Nat × cw E.C)}
theorem hJ : ∀ {t : Ty} {x : ap E.C t} {us : List Value}, gv t = true → B8 P E w S t x us → lq E w S t x us
 | .unit, x, us, _, h => h
 | .pair a b, x, us, hn, h => by
  obtain ⟨u, us', rfl, h1, h2⟩ := h
  simp only [gv, Bool.and_eq_true] at hn
  unfold jB at h1
  split at h1
  ·simp [gv] at hn
  ·obtain ⟨cs, hr, e⟩ := h1
   exact ⟨u, us', cs, rfl, hr, e, hJ hn.2 h2⟩
 | .int _, _, _, _, h => h.elim
 | .bool, _, _, _, h => h.elim
 | .str, _, _, _, h => h.elim
 | .slice _, _, _, _, h => h.elim
 | .arr _ _, _, _, _, h => h.elim
 | .nm _, _, _, _, h => h.elim
 | .ptr _, _, _, _, h => h.elim
 | .sum _ _, _, _, _, h => h.elim
 | .fn _ _, _, _, _, h => h.elim
theorem lq.mono {w' : World} {S' : Nat → Prop} (hs : ∀ b, S b → S' b) (hw : eo S w w') : ∀ {t : Ty} {x : ap E.C t} {us : List Value}, lq E w S t x us → lq E w' S' t x us
 | .unit, x, us, h => h
 | .pair a b, x, us, h => by
  obtain ⟨u, us', cs, rfl, h1, h2, h3⟩ := h
  exact ⟨u, us', cs, rfl, h1.mono hs hw, h2, lq.mono hs hw h3⟩
 | .int _, _, _, h => h.elim
 | .bool, _, _, h => h.elim
 | .str, _, _, h => h.elim
 | .slice _, _, _, h => h.elim
 | .arr _ _, _, _, h => h.elim
 | .nm _, _, _, h => h.elim
 | .ptr _, _, _, h => h.elim
 | .sum _ _, _, _, h => h.elim
 | .fn _ _, _, _, h => h.elim
def PR (P : Program) (E : dD) (w : World) (S : Nat → Prop) (H : List (Ob E.C)) (ρ : Nat → Option Pl) (Fr : Nat → Prop) (t : Ty) (x : ap E.C t) (v : AV E.C) (T : List Nat) : Prop :=
 (∀ cs, bc E w S H ρ Fr v cs → aE E w (ST S ρ T) t x cs) ∧ ∀ u, aF P E w S H ρ Fr v u → jB P E w (ST S ρ T) t x u
theorem jB.of {t : Ty} {x : ap E.C t} {cs : List Value} {u : Value} (hn : ∀ d c, t ≠ .fn d c) (h : aE E w S t x cs) (e : u = eJ (bm t) cs) : jB P E w S t x u := by
 unfold jB
 split
 ·exact absurd rfl (hn _ _)
 ·exact ⟨cs, h, e⟩
theorem jB.inv {t : Ty} {x : ap E.C t} {u : Value} (hn : ∀ d c, t ≠ .fn d c) (h : jB P E w S t x u) : ∃ cs, aE E w S t x cs ∧ u = eJ (bm t) cs := by
 unfold jB at h
 split at h
 ·exact absurd rfl (hn _ _)
 ·exact h
theorem rh {i : Nat} {e : Ty} {l : List (ap E.C e)} {fz : Bool} {T : List Nat} (hob : dw E w S H ρ Fr i (.row e l fz)) (hT : fz = true ∨ i ∈ T) {lo hi : Nat} (hlo : lo ≤ hi) (hhi : hi ≤ l.length)
  {v : Value} (hv : match ρ i with
   | none => ik v
   | some q => ∃ cap off, v = .slice (some (at_ q.b off)) (hi - lo) cap ∧ hi - lo ≤ cap ∧ lo + cap ≤ q.cp ∧ (cap = 0 ∨ off = (q.p + lo) * szT E e)) :
  aE E w (ST S ρ T) (.slice e) (slc l lo hi) [v] := by
 unfold dw at hob
 have hlen : (slc l lo hi).length = hi - lo := by simp [slc]; omega
 rcases hob with ⟨rfl, hρ⟩ | ⟨q, c, Ty', css, hρ, hheap, h1, h2, h4, h5, h6⟩
 ·rw [hρ] at hv
  have : hi = 0 := by simpa using hhi
  subst this
  simp only at hv
  have : slc ([] : List (ap E.C e)) lo 0 = [] := by simp [slc]
  rw [this]
  exact .nils e _ hv
 ·rw [hρ] at hv
  obtain ⟨cap, off, rfl, hc1, hc2, hc3⟩ := hv
  have hS : ST S ρ T q.b := by
   rcases hT with hT | hT
   ·exact .inl (h6 hT)
   ·exact .inr ⟨i, q, hT, hρ, rfl⟩
  have := aE.slice (E := E) (w := w) (S := ST S ρ T) e (slc l lo hi) q.b off cap (fun j => css (lo + j)) hS (by rw [hlen]; exact hc1)
   (fun j x hx => by
    have hx' : l[lo + j]? = some x := by
     simp only [slc, List.getElem?_drop] at hx
     rw [List.getElem?_take] at hx
     split at hx
     ·exact hx
     ·cases hx
    exact (h4 _ x hx').mono (fun b hb => .inl hb) (eo.refl _ _))
   (fun j k cc hj hk => by
    rw [hlen] at hj
    rcases hc3 with hc3 | hc3
    ·omega
    ·rw [World.cell_of_heap hheap]
     have := h5 (lo + j) k cc (by omega) hk
     rw [hc3]
     have e1 : (q.p + lo) * szT E e + j * szT E e + k = (q.p + (lo + j)) * szT E e + k := by rw [← Nat.add_mul, Nat.add_assoc q.p]
     rw [e1]; exact this)
  rw [hlen] at this
  exact this
theorem pX {α : Type} (l : List α) : slc l 0 l.length = l := by simp [slc]
end
end Go.Ev
end
section
namespace Go.Ev
variable {P : Program} {E : dD} {w : World} {S : Nat → Prop} {H : List (Ob E.C)} {ρ : Nat → Option Pl} {Fr : Nat → Prop} {F : List (Nat × cw E.C)}
theorem aE.st {T T' : List Nat} (h : ∀ i, i ∈ T → i ∈ T') {t : Ty} {x : ap E.C t} {cs : List Value} (k : aE E w (ST S ρ T) t x cs) : aE E w (ST S ρ T') t x cs :=
 k.mono (fun _ hb => ST.mono h hb) (eo.refl _ _)
theorem aE.up {T : List Nat} {t : Ty} {x : ap E.C t} {cs : List Value} (k : aE E w S t x cs) : aE E w (ST S ρ T) t x cs :=
 k.mono (fun _ hb => .inl hb) (eo.refl _ _)
def dp (P : Program) (F : List (Nat × cw E.C)) : Prop := ∀ f s, lh f F = some s → nJ P E f s
theorem sI.st {T T' : List Nat} (h : ∀ i, i ∈ T → i ∈ T') {d c : Ty} {g : ap E.C d → Option (ap E.C c)} {v : Value} (k : sI P E w (ST S ρ T) d c g v) : sI P E w (ST S ρ T') d c g v := by
 obtain ⟨f, caps, e, n, k⟩ := k
 exact ⟨f, caps, e, n, fun w2 S2 hst => k w2 S2 ⟨hst.1, fun b hb => hst.2.1 b (ST.mono h hb), fun b hb => hst.2.2.1 b (ST.mono h hb), hst.2.2.2⟩⟩
theorem jB.st {T T' : List Nat} (h : ∀ i, i ∈ T → i ∈ T') {t : Ty} {x : ap E.C t} {v : Value} (k : jB P E w (ST S ρ T) t x v) : jB P E w (ST S ρ T') t x v := by
 unfold jB at k ⊢
 split at k
 ·exact sI.st h k
 ·obtain ⟨cs, hr, e⟩ := k
  exact ⟨cs, hr.st h, e⟩
theorem jB.up {T : List Nat} {t : Ty} {x : ap E.C t} {v : Value} (k : jB P E w S t x v) : jB P E w (ST S ρ T) t x v := by
 unfold jB at k ⊢
 split at k
 ·obtain ⟨f, caps, e, n, k⟩ := k
  exact ⟨f, caps, e, n, fun w2 S2 hst => k w2 S2 ⟨hst.1, fun b hb => hst.2.1 b (.inl hb), fun b hb => hst.2.2.1 b (.inl hb), hst.2.2.2⟩⟩
 ·obtain ⟨cs, hr, e⟩ := k
  exact ⟨cs, hr.up, e⟩
theorem PR.st {T T' : List Nat} (h : ∀ i, i ∈ T → i ∈ T') {t : Ty} {x : ap E.C t} {v : AV E.C} (k : PR P E w S H ρ Fr t x v T) : PR P E w S H ρ Fr t x v T' :=
 ⟨fun cs hc => (k.1 cs hc).st h, fun u hu => (k.2 u hu).st h⟩
def Be (P : Program) (E : dD) (w : World) (S : Nat → Prop) (H : List (Ob E.C)) (ρ : Nat → Option Pl) (Fr : Nat → Prop) (t : Ty) (x : ap E.C t) (vs : List (AV E.C)) (T : List Nat) : Prop :=
 (∀ cs, dY E w S H ρ Fr vs t cs → aE E w (ST S ρ T) t x cs) ∧ ∀ us, az P E w S H ρ Fr vs us → B8 P E w (ST S ρ T) t x us
def de (H : List (Ob E.C)) (T T1 : List Nat) : Prop := (∀ i, i ∈ T → i ∈ T1) ∧ ∀ i, i ∈ T1 → i ∈ T ∨ ∃ o, H[i]? = some o ∧ o.live = true
theorem de.refl (H : List (Ob E.C)) (T : List Nat) : de H T T := ⟨fun _ h => h, fun _ h => .inl h⟩
theorem de.trans {H : List (Ob E.C)} {T T1 T2 : List Nat} (h : de H T T1) (k : de H T1 T2) : de H T T2 :=
 ⟨fun i hi => k.1 i (h.1 i hi), fun i hi => (k.2 i hi).elim (h.2 i) .inr⟩
theorem de.cons {H : List (Ob E.C)} {T : List Nat} {i : Nat} {o : Ob E.C} {fz : Bool} (ho : H[i]? = some o) (hl : o.live = !fz) : de H T (cond fz T (i :: T)) := by
 cases fz with
 | true => exact de.refl H T
 | false =>
  refine ⟨fun j hj => List.mem_cons_of_mem _ hj, fun j hj => ?_⟩
  rcases List.mem_cons.1 hj with rfl | hj
  ·exact .inr ⟨o, ho, by simpa using hl⟩
  ·exact .inl hj
theorem Aw {T : List Nat} {i : Nat} {fz : Bool} : fz = true ∨ i ∈ cond fz T (i :: T) := by
 cases fz <;> simp
section
variable (hE : iC E) (hp : dW E w S H ρ Fr) (hC : dp P F)
include hE hp hC
theorem dZ {α : Type} : ∀ (d : Nat),
  (∀ (t : Ty) (v : AV E.C) (T : List Nat) (k : ap E.C t → List Nat → HM E.C α) (T0 : List Nat) (r : α × List Nat), aj H (jP E F d t v T k) T0 = some r →
   ∃ x T1 T0', aj H (k x T1) T0' = some r ∧ de H T T1 ∧ PR P E w S H ρ Fr t x v T1) ∧
  (∀ (t : Ty) (vs : List (AV E.C)) (T : List Nat) (k : ap E.C t → List Nat → HM E.C α) (T0 : List Nat) (r : α × List Nat), aj H (mw E F d t vs T k) T0 = some r →
   ∃ x T1 T0', aj H (k x T1) T0' = some r ∧ de H T T1 ∧ Be P E w S H ρ Fr t x vs T1) := by
 intro d
 induction d with
 | zero =>
  refine ⟨fun t v T k T0 r h => ?_, fun t vs T k T0 r h => ?_⟩
  ·unfold jP at h; cases h
  ·unfold mw at h; cases h
 | succ d ih =>
  refine ⟨fun t v T k T0 r h => ?_, fun t vs T k T0 r h => ?_⟩
  ·cases v with
   | pv t' x =>
    unfold jP at h
    obtain ⟨rfl, h⟩ := ui h
    refine ⟨x, T, T0, h, de.refl H T, fun cs hc => ?_, fun u hu => ?_⟩
    ·unfold bc at hc; exact hc.up
    ·unfold aF at hu; exact hu.up
   | nils =>
    unfold jP at h
    cases t <;> first | (cases h; done) | skip
    rename_i e
    refine ⟨[], T, T0, h, de.refl H T, fun cs hc => ?_, fun u hu => ?_⟩
    ·unfold bc at hc; rw [hc]; exact .nils e _ ⟨_, rfl⟩
    ·unfold aF at hu; rw [hu]; exact jB.of (by intro _ _ h; cases h) (.nils e _ ⟨_, rfl⟩) rfl
   | row i =>
    unfold jP at h
    cases t <;> first | (cases h; done) | skip
    rename_i e
    obtain ⟨o, ho, h⟩ := bw h
    cases o with
    | dead => cases h
    | box => cases h
    | row e' l fz =>
     obtain ⟨rfl, h⟩ := k0 h
     have key : ∀ v, ia E H ρ Fr i v → aE E w (ST S ρ (cond fz T (i :: T))) (.slice e') l [v] := by
      intro v hv
      have hv2 := hv.2 _ _ _ ho
      have := rh (T := cond fz T (i :: T)) (hp.obs i _ ho) Aw (lo := 0) (hi := l.length) (Nat.zero_le _) (Nat.le_refl _) (v := v) (by
       split <;> rename_i hq <;> rw [hq] at hv2
       ·exact hv2
       ·obtain ⟨cap, e1, e2, e3⟩ := hv2
        exact ⟨cap, _, by simpa using e1, by simpa using e2, by simpa using e3, .inr rfl⟩)
      rwa [pX] at this
     refine ⟨l, _, _, h, de.cons ho rfl, fun cs hc => ?_, fun u hu => ?_⟩
     ·unfold bc at hc
      obtain ⟨v, rfl, hv⟩ := hc
      exact key v hv
     ·unfold aF at hu
      exact jB.of (by intro _ _ h; cases h) (key u hu) rfl
   | sub i lo hi =>
    unfold jP at h
    cases t <;> first | (cases h; done) | skip
    rename_i e
    obtain ⟨o, ho, h⟩ := bw h
    cases o with
    | dead => cases h
    | box => cases h
    | row e' l fz =>
     obtain ⟨rfl, h⟩ := k0 h
     obtain ⟨hb, h⟩ := bI h
     simp only [Bool.and_eq_true, decide_eq_true_eq] at hb
     have key : ∀ v, kV E H ρ Fr i lo hi v → aE E w (ST S ρ (cond fz T (i :: T))) (.slice e') (slc l lo hi) [v] := by
      intro v hv
      have hv2 := (hv.2 _ _ _ ho).2
      exact rh (T := cond fz T (i :: T)) (hp.obs i _ ho) Aw hb.1 hb.2 (v := v) (by
       split <;> rename_i hq <;> rw [hq] at hv2
       ·exact hv2.1
       ·obtain ⟨cap, p, e1, e2, e3, e4, e5⟩ := hv2
        exact ⟨cap, _, e1, e2, e3, e5.imp id fun e => by rw [e]⟩)
     refine ⟨slc l lo hi, _, _, h, de.cons ho rfl, fun cs hc => ?_, fun u hu => ?_⟩
     ·unfold bc at hc
      obtain ⟨v, rfl, hv⟩ := hc
      exact key v hv
     ·unfold aF at hu
      exact jB.of (by intro _ _ h; cases h) (key u hu) rfl
   | adr i p ta =>
    unfold jP at h
    cases t <;> first | (cases h; done) | skip
    rename_i t
    obtain ⟨o, ho, h⟩ := bw h
    cases o with
    | dead => cases h
    | box bt bv fz =>
     have hob := hp.obs i _ ho
     unfold dw at hob
     obtain ⟨q, Tb, cs, hρ, hheap, hok, hav, hfz⟩ := hob
     obtain ⟨v', t', o', ds, e1, e2, e3, e4, h⟩ := fK hE hok hav h
     obtain ⟨x, T1, T0', hx, hr1, hpr⟩ := ih.1 t v' _ k _ r h
     have hS : ST S ρ T1 q.b := by
      cases fz with
      | true => exact .inl (hfz rfl)
      | false => exact .inr ⟨i, q, hr1.1 _ (List.mem_cons_self ..), hρ, rfl⟩
     have key : ∀ v, j0 E H ρ Fr i p ta v → aE E w (ST S ρ T1) (.ptr t) x [v] := by
      intro v hv
      obtain ⟨q', o'', f1, f2, f3⟩ := hv.2.2.1 _ _ _ ho
      rw [hρ] at f1; obtain rfl := Option.some.inj f1
      rw [e1] at f2; obtain ⟨rfl, rfl⟩ : o' = o'' ∧ t' = ta := by simpa using f2
      rw [f3]
      refine .ptr t x q.b o' ds hS (hpr.1 ds e3) fun j c hc => ?_
      rw [World.cell_of_heap hheap]
      simpa using e4 j c hc
     refine ⟨x, T1, T0', hx, (de.cons ho rfl).trans hr1, fun cs hc => ?_, fun u hu => ?_⟩
     ·unfold bc at hc
      obtain ⟨v, rfl, hv⟩ := hc
      exact key v hv
     ·unfold aF at hu
      exact jB.of (by intro _ _ h; cases h) (key u hu) rfl
    | row e l fz =>
     cases p with
     | nil => cases h
     | cons j p =>
      obtain ⟨y, hy, h⟩ := dr h
      have hob := hp.obs i _ ho
      unfold dw at hob
      have hj : j < l.length := (List.getElem?_eq_some_iff.1 hy).1
      rcases hob with ⟨rfl, _⟩ | ⟨q, c, Tb, css, hρ, hheap, h1, h2, h4, h5, hfz⟩
      ·simp at hj
      obtain ⟨v', t', o', ds, e1, e2, e3, e4, h⟩ := fK (v := .pv e y) (t := e) (cs := css j) (w := w) (S := S) (ρ := ρ) (Fr := Fr) hE (by simp [fL, Ty.beq_refl]) (by unfold bc; exact h4 j y hy) h
      obtain ⟨x, T1, T0', hx, hr1, hpr⟩ := ih.1 t v' _ k _ r h
      have hS : ST S ρ T1 q.b := by
       cases fz with
       | true => exact .inl (hfz rfl)
       | false => exact .inr ⟨i, q, hr1.1 _ (List.mem_cons_self ..), hρ, rfl⟩
      have key : ∀ v, j0 E H ρ Fr i (j :: p) ta v → aE E w (ST S ρ T1) (.ptr t) x [v] := by
       intro v hv
       obtain ⟨q', j', p', o'', f1, f2, f3, f4, f5⟩ := hv.2.2.2 _ _ _ ho
       rw [hρ] at f1; obtain rfl := Option.some.inj f1
       obtain ⟨rfl, rfl⟩ : j = j' ∧ p = p' := by simpa using f2
       rw [e1] at f4; obtain ⟨rfl, rfl⟩ : o' = o'' ∧ t' = ta := by simpa using f4
       rw [f5]
       refine .ptr t x q.b _ ds hS (hpr.1 ds e3) fun k' c' hc => ?_
       rw [World.cell_of_heap hheap]
       rw [Nat.add_assoc]
       exact h5 j _ _ hj (e4 k' c' hc)
      refine ⟨x, T1, T0', hx, (de.cons ho rfl).trans hr1, fun cs hc => ?_, fun u hu => ?_⟩
      ·unfold bc at hc
       obtain ⟨v, rfl, hv⟩ := hc
       exact key v hv
      ·unfold aF at hu
       exact jB.of (by intro _ _ h; cases h) (key u hu) rfl
   | agg n fs =>
    unfold jP at h
    cases t <;> first | (cases h; done) | skip
    rename_i m
    change aj H (cond (Nat.beq m n) (mw E F d (E.fld m) fs T fun y T => k (E.new m y) T) .fail) T0 = some r at h
    cases hnm : Nat.beq m n with
    | false => rw [hnm] at h; cases h
    | true =>
     rw [hnm] at h
     obtain rfl : m = n := Nat.eq_of_beq_eq_true hnm
     obtain ⟨y, T1, T0', hx, hr1, hpr⟩ := ih.2 _ fs T _ _ r h
     refine ⟨E.new m y, T1, T0', hx, hr1, fun cs hc => ?_, fun u hu => ?_⟩
     ·unfold bc at hc
      exact .nm m _ cs (by rw [hE.new]; exact hpr.1 cs hc)
     ·unfold aF at hu
      obtain ⟨cs, hc, rfl⟩ := hu
      exact jB.of (by intro _ _ h; cases h) (.nm m _ cs (by rw [hE.new]; exact hpr.1 cs hc)) rfl
   | tup vs => unfold jP at h; cases h
   | undef => unfold jP at h; cases h
   | clo f cs =>
    unfold jP at h
    cases hl : lh f F with
    | none =>
     change aj H (match lh f F with | some s => mw E F d s.caps cs T fun y T => A4 (.fn s.d s.c) t (s.fn y) fun g => k g T | _ => .fail) T0 = some r at h
     rw [hl] at h; cases h
    | some s =>
     change aj H (match lh f F with | some s => mw E F d s.caps cs T fun y T => A4 (.fn s.d s.c) t (s.fn y) fun g => k g T | _ => .fail) T0 = some r at h
     rw [hl] at h
     obtain ⟨y, T1, T0', hx, hr1, hpr⟩ := ih.2 _ cs T _ _ r h
     obtain ⟨rfl, hx⟩ := ui hx
     refine ⟨s.fn y, T1, T0', hx, hr1, fun cs' hc => ?_, fun u hu => ?_⟩
     ·unfold bc at hc; exact hc.elim
     ·unfold aF at hu
      obtain ⟨us, rfl, hus⟩ := hu
      obtain ⟨hen, hn1, hn2, hn3, hg⟩ := hC f s hl
      have hL := hJ hn1 (hpr.2 us hus)
      show sI P E w (ST S ρ T1) s.d s.c (s.fn y) _
      refine ⟨f, us.toArray, rfl, ⟨hen, hn2, hn3⟩, fun w' S' hst x us' hus' z hz => ?_⟩
      have := hg w' S' hst.2.2.2 y us (hL.mono hst.2.1 hst.2.2.1) x us' hus' z hz
      simpa using this
  ·unfold mw at h
   cases t <;> first | (cases vs <;> (cases h; done)) | skip
   ·cases vs with
    | nil =>
     refine ⟨(), T, T0, h, de.refl H T, fun cs hc => ?_, fun us hu => ?_⟩
     ·unfold dY at hc; rw [hc.2]; exact .unit ()
     ·unfold az at hu; exact hu
    | cons => cases h
   ·rename_i a b
    cases vs with
    | nil => cases h
    | cons v vs =>
     obtain ⟨x, T1, T1', h1, hr1, hp1⟩ := ih.1 a v T _ _ r h
     obtain ⟨y, T2, T2', h2, hr2, hp2⟩ := ih.2 b vs T1 _ _ r h1
     refine ⟨(x, y), T2, T2', h2, hr1.trans hr2, fun cs hc => ?_, fun us hu => ?_⟩
     ·unfold dY at hc
      obtain ⟨a', b', c, d', e1, rfl, ho, hc1, hc2⟩ := hc
      obtain ⟨rfl, rfl⟩ : a = a' ∧ b = b' := by simpa using e1
      exact .pair a b (x, y) c d' ((hp1.1 c hc1).st hr2.1) (hp2.1 d' hc2)
     ·unfold az at hu
      obtain ⟨u, us', rfl, hu1, hu2⟩ := hu
      exact ⟨u, us', rfl, (hp1.2 u hu1).st hr2.1, hp2.2 us' hu2⟩
end
end Go.Ev
end
section
namespace Go.Ev
theorem aY {α : Type} : ∀ (l : List α) (i : Nat) (y : α), (an l i y).length = l.length
 | [], _, _ => rfl
 | _ :: _, 0, _ => rfl
 | _ :: r, n + 1, y => by simp [an, aY r n y]
theorem aQ {α : Type} : ∀ (l : List α) (i : Nat) (y : α) (j : Nat), (an l i y)[j]? = if j = i then (if i < l.length then some y else none) else l[j]?
 | [], i, y, j => by simp [an]
 | x :: r, 0, y, j => by cases j <;> simp [an]
 | x :: r, n + 1, y, j => by
  cases j with
  | zero => simp [an]
  | succ j => simp [an, aQ r n y j]
theorem cj {α : Type} (l : List α) {i j : Nat} (y : α) (h : j ≠ i) : (an l i y)[j]? = l[j]? := by rw [aQ, if_neg h]
theorem bR {α : Type} (l : List α) {i : Nat} (y : α) (h : i < l.length) : (an l i y)[i]? = some y := by rw [aQ, if_pos rfl, if_pos h]
theorem iZ {β R : Type} : ∀ (l : List β) (n : Nat) (y : β) (k : List β → Option R), og l n y k = k (an l n y)
 | [], _, _, _ => rfl
 | _ :: _, 0, _, _ => rfl
 | x :: r, n + 1, y, k => by simp [og, an, iZ r n y]
theorem ic {β R : Type} : ∀ (l ys : List β) (k : List β → Option R), pC l ys k = k (l ++ ys)
 | [], _, _ => rfl
 | x :: r, ys, k => by simp [pC, ic r ys]
def co {β : Type} : List (Nat × β) → List β → List β
 | [], H => H
 | (i, o) :: r, H => co r (an H i o)
theorem pE {β R : Type} : ∀ (us : List (Nat × β)) (H : List β) (k : List β → Option R), xd us H k = k (co us H)
 | [], _, _ => rfl
 | (i, o) :: r, H, k => by simp [xd, co, iZ, pE r]
theorem hG {β : Type} : ∀ (us vs : List (Nat × β)) (H : List β), co (us ++ vs) H = co vs (co us H)
 | [], _, _ => rfl
 | (i, o) :: r, vs, H => by simp [co, hG r vs]
theorem cx {β : Type} : ∀ (us : List (Nat × β)) (H : List β), (co us H).length = H.length
 | [], _ => rfl
 | (i, o) :: r, H => by simp [co, cx r, aY]
section
variable {E : dD}
def lD (H : List (Ob E.C)) (ρ : Nat → Option Pl) (b : Nat) : Prop := ∃ i o q, H[i]? = some o ∧ o.live = true ∧ ρ i = some q ∧ q.b = b
structure f7 (w w' : World) (S S' : Nat → Prop) (H H' : List (Ob E.C)) (ρ ρ' : Nat → Option Pl) (Fr Fr' : Nat → Prop) : Prop where
 mon : lG w w' S S' H H' ρ ρ' Fr Fr'
 os : w'.os = w.os
 tape : w'.tape = w.tape
 output : w'.output = w.output
 frame : ∀ b, b < w.heap.size → ¬ lD H ρ b → w'.heap[b]? = w.heap[b]?
 sb : ∀ b, S' b → S b ∨ w.heap.size ≤ b ∨ lD H ρ b
 own : ∀ b, lD H' ρ' b → lD H ρ b ∨ w.heap.size ≤ b
variable {w w' w'' : World} {S S' S'' : Nat → Prop} {H H' H'' : List (Ob E.C)} {ρ ρ' ρ'' : Nat → Option Pl} {Fr Fr' Fr'' : Nat → Prop}
theorem lG.trans (h : lG w w' S S' H H' ρ ρ' Fr Fr') (k : lG w' w'' S' S'' H' H'' ρ' ρ'' Fr' Fr'') : lG w w'' S S'' H H'' ρ ρ'' Fr Fr'' := by
 have hn : ∀ i, ¬ Fr i → ¬ Fr' i := fun i hi hf => hi (h.fr i hf)
 exact ⟨h.st.trans k.st, fun i hi => (h.sim i hi).trans (k.sim i (hn i hi)), fun i hi => (k.pl i (hn i hi)).trans (h.pl i hi), fun i hi => h.fr i (k.fr i hi)⟩
theorem f7.trans (h : f7 w w' S S' H H' ρ ρ' Fr Fr') (k : f7 w' w'' S' S'' H' H'' ρ' ρ'' Fr' Fr'') : f7 w w'' S S'' H H'' ρ ρ'' Fr Fr'' := by
 have hsz := h.mon.st.1
 refine ⟨h.mon.trans k.mon, k.os.trans h.os, k.tape.trans h.tape, k.output.trans h.output, fun b hb ho => ?_, fun b hb => ?_, fun b hb => ?_⟩
 ·refine (k.frame b (by omega) fun ho' => ?_).trans (h.frame b hb ho)
  rcases h.own b ho' with h1 | h1
  ·exact ho h1
  ·omega
 ·rcases k.sb b hb with h1 | h1 | h1
  ·exact h.sb b h1
  ·exact .inr (.inl (by omega))
  ·rcases h.own b h1 with h2 | h2
   ·exact .inr (.inr h2)
   ·exact .inr (.inl h2)
 ·rcases k.own b hb with h1 | h1
  ·exact h.own b h1
  ·exact .inr (by omega)
theorem lG.refl (hS : ∀ b, S b → b < w.heap.size) : lG w w S S H H ρ ρ Fr Fr :=
 ⟨⟨Nat.le_refl _, fun _ h => h, eo.refl S w, hS⟩, fun i _ => vQ.refl H i, fun _ _ => rfl, fun _ h => h⟩
theorem f7.refl (hS : ∀ b, S b → b < w.heap.size) : f7 w w S S H H ρ ρ Fr Fr :=
 ⟨lG.refl hS, rfl, rfl, rfl, fun _ _ _ => rfl, fun _ h => .inl h, fun _ h => .inl h⟩
theorem dW.nfr (hp : dW E w S H ρ Fr) {i : Nat} {o : Ob E.C} (h : H[i]? = some o) (hd : o ≠ .dead) : ¬ Fr i := fun hf => hd (hp.fre i o hf h)
theorem cd {C : Nat → Type} {o : Ob C} (h : o.live = true) : o ≠ .dead := by rintro rfl; cases h
theorem dw.lt {i : Nat} {o : Ob E.C} (h : dw E w S H ρ Fr i o) (hd : o ≠ .dead) {q : Pl} (hq : ρ i = some q) : q.b < w.heap.size := by
 cases o with
 | dead => exact (hd rfl).elim
 | box t v fz =>
  unfold dw at h
  obtain ⟨q', T, cs, h1, h2, _⟩ := h
  rw [hq] at h1; obtain rfl := Option.some.inj h1
  exact (Array.getElem?_eq_some_iff.1 h2).1
 | row t l fz =>
  unfold dw at h
  rcases h with ⟨_, h1⟩ | ⟨q', c, T, css, h1, h2, _⟩
  ·rw [hq] at h1; cases h1
  ·rw [hq] at h1; obtain rfl := Option.some.inj h1
   exact (Array.getElem?_eq_some_iff.1 h2).1
theorem dw.fz {i : Nat} {o : Ob E.C} (h : dw E w S H ρ Fr i o) (hd : o ≠ .dead) (hl : o.live = false) {q : Pl} (hq : ρ i = some q) : S q.b := by
 cases o with
 | dead => exact (hd rfl).elim
 | box t v fz =>
  unfold dw at h
  obtain ⟨q', T, cs, h1, h2, _, _, h5⟩ := h
  rw [hq] at h1; obtain rfl := Option.some.inj h1
  exact h5 (by simpa [Ob.live] using hl)
 | row t l fz =>
  unfold dw at h
  rcases h with ⟨_, h1⟩ | ⟨q', c, T, css, h1, h2, _, _, _, _, h5⟩
  ·rw [hq] at h1; cases h1
  ·rw [hq] at h1; obtain rfl := Option.some.inj h1
   exact h5 (by simpa [Ob.live] using hl)
theorem lD.lt (hp : dW E w S H ρ Fr) {b : Nat} (h : lD H ρ b) : b < w.heap.size := by
 obtain ⟨i, o, q, h1, h2, h3, rfl⟩ := h
 exact (hp.obs i o h1).lt (cd h2) h3
theorem dW.upd (hp : dW E w S H ρ Fr) (m : lG w w' S S' H H' ρ ρ' Fr Fr') (X : Nat → Prop)
  (same : ∀ j, ¬ X j → H'[j]? = H[j]?)
  (blk : ∀ j o q, ¬ X j → H[j]? = some o → o.live = true → ρ j = some q → w'.heap[q.b]? = w.heap[q.b]? ∧ ¬ S' q.b)
  (new : ∀ j o, X j → H'[j]? = some o → dw E w' S' H' ρ' Fr' j o)
  (out : ∀ j o q, X j → H'[j]? = some o → o.live = true → ρ' j = some q → ¬ S' q.b ∧ ∀ k o' q', k ≠ j → H'[k]? = some o' → o'.live = true → ρ' k = some q' → q'.b ≠ q.b)
  (fre : ∀ j o, Fr' j → H'[j]? = some o → o = .dead) (far : ∀ j, H'.length ≤ j → Fr' j) : dW E w' S' H' ρ' Fr' := by
 have old : ∀ j o, ¬ X j → H'[j]? = some o → o ≠ .dead → H[j]? = some o ∧ ρ' j = ρ j := by
  intro j o hX ho hd
  rw [same j hX] at ho
  exact ⟨ho, m.pl j (hp.nfr ho hd)⟩
 refine ⟨fun j o ho => ?_, fun j o q ho hl hq => ?_, fun i j o o' q q' hi hj hl hl' hq hq' hb => ?_, fre, far⟩
 ·by_cases hX : X j
  ·exact new j o hX ho
  ·by_cases hd : o = .dead
   ·subst hd; unfold dw; trivial
   ·obtain ⟨ho', _⟩ := old j o hX ho hd
    refine dw.mono m (hp.nfr ho' hd) (fun q hq => ?_) (hp.obs j o ho')
    cases hl : o.live with
    | true => exact (blk j o q hX ho' hl hq).1
    | false => exact m.st.2.2.1 _ ((hp.obs j o ho').fz hd hl hq)
 ·by_cases hX : X j
  ·exact (out j o q hX ho hl hq).1
  ·obtain ⟨ho', hr⟩ := old j o hX ho (cd hl)
   exact (blk j o q hX ho' hl (hr ▸ hq)).2
 ·by_cases hij : i = j
  ·exact hij
  ·exfalso
   by_cases hX : X i
   ·exact (out i o q hX hi hl hq).2 j o' q' (fun e => hij e.symm) hj hl' hq' hb.symm
   ·by_cases hY : X j
    ·exact (out j o' q' hY hj hl' hq').2 i o q hij hi hl hq hb
    ·obtain ⟨hi', hr⟩ := old i o hX hi (cd hl)
     obtain ⟨hj', hr'⟩ := old j o' hY hj (cd hl')
     exact hij (hp.inj i j o o' q q' hi' hj' hl hl' (hr ▸ hq) (hr' ▸ hq') hb)
theorem dW.sbound (hp : dW E w S H ρ Fr) (hS : ∀ b, S b → b < w.heap.size) {T : List Nat} (hT : ∀ i, i ∈ T → ∃ o, H[i]? = some o ∧ o ≠ .dead) : ∀ b, ST S ρ T b → b < w.heap.size := by
 rintro b (h | ⟨i, q, hi, hq, rfl⟩)
 ·exact hS b h
 ·obtain ⟨o, ho, hd⟩ := hT i hi
  exact (hp.obs i o ho).lt hd hq
def Ob.frozen {C : Nat → Type} : Ob C → Ob C
 | .dead => .dead
 | .box t v _ => .box t v true
 | .row t l _ => .row t l true
theorem qW (hp : dW E w S H ρ Fr) (hS : ∀ b, S b → b < w.heap.size) {i : Nat} {o : Ob E.C} (ho : H[i]? = some o) (hd : o ≠ .dead) :
  f7 w w S (ST S ρ [i]) H (an H i o.frozen) ρ ρ Fr Fr ∧ dW E w (ST S ρ [i]) (an H i o.frozen) ρ Fr := by
 have hi : i < H.length := (List.getElem?_eq_some_iff.1 ho).1
 have hget : ∀ j, (an H i o.frozen)[j]? = if j = i then some o.frozen else H[j]? := by intro j; rw [aQ, if_pos hi]
 have hb : ∀ b, ST S ρ [i] b → b < w.heap.size := hp.sbound hS (by intro j hj; simp at hj; subst hj; exact ⟨o, ho, hd⟩)
 have hfl : o.frozen.live = false := by cases o <;> rfl
 have m : lG w w S (ST S ρ [i]) H (an H i o.frozen) ρ ρ Fr Fr := by
  refine ⟨⟨Nat.le_refl _, fun b hb => .inl hb, eo.refl S w, hb⟩, fun j hj => ?_, fun _ _ => rfl, fun _ h => h⟩
  refine ⟨fun t l fz h => ?_, fun t x fz h => ?_⟩
  ·rw [hget] at h
   split at h
   ·rename_i e; subst e
    cases o <;> simp [Ob.frozen] at h
    obtain ⟨rfl, h⟩ := h
    obtain ⟨rfl, rfl⟩ := h
    exact ⟨_, _, ho, rfl⟩
   ·exact ⟨l, fz, h, rfl⟩
  ·rw [hget] at h
   split at h
   ·rename_i e; subst e
    cases o <;> simp [Ob.frozen] at h
    obtain ⟨rfl, h⟩ := h
    exact ⟨_, _, ho⟩
   ·exact ⟨x, fz, h⟩
 refine ⟨⟨m, rfl, rfl, rfl, fun _ _ _ => rfl, fun b hb => ?_, fun b hb => ?_⟩, ?_⟩
 ·rcases hb with hb | ⟨j, q, hj, hq, rfl⟩
  ·exact .inl hb
  ·simp at hj; subst hj
   cases hl : o.live with
   | true => exact .inr (.inr ⟨j, o, q, ho, hl, hq, rfl⟩)
   | false => exact .inl ((hp.obs j o ho).fz hd hl hq)
 ·obtain ⟨j, o', q, h1, h2, h3, rfl⟩ := hb
  rw [hget] at h1
  split at h1
  ·obtain rfl := Option.some.inj h1
   rw [hfl] at h2; cases h2
  ·exact .inl ⟨j, o', q, h1, h2, h3, rfl⟩
 ·refine hp.upd m (fun j => j = i) (fun j hj => by rw [hget, if_neg hj]) (fun j o' q hj hoj hlj hq => ⟨rfl, ?_⟩) (fun j o' hj hoj => ?_) (fun j o' q hj hoj hl hq => ?_) (fun j o' hf h => ?_) (fun j hj => hp.far j (by simpa [aY] using hj))
  ·rintro (hs | ⟨k, q', hk, hq', e⟩)
   ·exact hp.out j o' q hoj hlj hq hs
   ·simp at hk; subst hk
    cases hl : o.live with
    | true => exact hj (hp.inj j k o' o q q' hoj ho hlj hl hq hq' e.symm)
    | false => exact hp.out j o' q hoj hlj hq (e ▸ (hp.obs k o ho).fz hd hl hq')
  ·subst hj
   rw [hget, if_pos rfl] at hoj
   obtain rfl := Option.some.inj hoj
   have hob := dw.mono m (hp.nfr ho hd) (fun q _ => rfl) (hp.obs j o ho)
   cases o with
   | dead => exact (hd rfl).elim
   | box t v fz =>
    unfold dw at hob
    obtain ⟨q, T, cs, h1, h2, h3, h4, h5⟩ := hob
    show dw E w _ _ _ _ j (.box t v true)
    unfold dw
    exact ⟨q, T, cs, h1, h2, h3, h4, fun _ => .inr ⟨j, q, by simp, h1, rfl⟩⟩
   | row t l fz =>
    unfold dw at hob
    show dw E w _ _ _ _ j (.row t l true)
    unfold dw
    rcases hob with h1 | ⟨q, c, T, css, h1, h2, h3, h4, h5, h6, h7⟩
    ·exact .inl h1
    ·exact .inr ⟨q, c, T, css, h1, h2, h3, h4, h5, h6, fun _ => .inr ⟨j, q, by simp, h1, rfl⟩⟩
  ·subst hj
   rw [hget, if_pos rfl] at hoj
   obtain rfl := Option.some.inj hoj
   rw [hfl] at hl; cases hl
  ·rw [hget] at h
   split at h
   ·rename_i e; subst e
    exact (hp.nfr ho hd hf).elim
   ·exact hp.fre j o' hf h
theorem zY {b : Nat} : ST S ρ [] b ↔ S b := ⟨fun h => by rcases h with h | ⟨i, q, hi, _⟩; exact h; simp at hi, .inl⟩
theorem yO {T : List Nat} {i b : Nat} : ST S ρ (i :: T) b ↔ ST (ST S ρ [i]) ρ T b := by
 constructor
 ·rintro (h | ⟨j, q, hj, hq, e⟩)
  ·exact .inl (.inl h)
  ·rcases List.mem_cons.1 hj with rfl | hj
   ·exact .inl (.inr ⟨j, q, by simp, hq, e⟩)
   ·exact .inr ⟨j, q, hj, hq, e⟩
 ·rintro ((h | ⟨j, q, hj, hq, e⟩) | ⟨j, q, hj, hq, e⟩)
  ·exact .inl h
  ·simp at hj; subst hj; exact .inr ⟨j, q, by simp, hq, e⟩
  ·exact .inr ⟨j, q, by simp [hj], hq, e⟩
theorem tk {T : List Nat} {i : Nat} : ST S ρ (i :: T) = ST (ST S ρ [i]) ρ T := funext fun _ => propext yO
theorem lW : ST S ρ [] = S := funext fun _ => propext zY
def hO (H : List (Ob E.C)) : List Nat → List (Nat × Ob E.C)
 | [] => []
 | i :: r => match H[i]? with | some o => (i, o.frozen) :: hO H r | none => hO H r
theorem nZ {C : Nat → Type} (o : Ob C) : o.frozen.frozen = o.frozen := by cases o <;> rfl
theorem il : ∀ (T : List Nat) (H G : List (Ob E.C)), G.length = H.length → ∀ j, (co (hO H T) G)[j]? = if j ∈ T then (H[j]?).map Ob.frozen else G[j]? := by
 intro T
 induction T with
 | nil => intro H G _ j; simp [hO, co]
 | cons i T ih =>
  intro H G hl j
  cases ho : H[i]? with
  | none =>
   have hi : H.length ≤ i := by simpa using ho
   simp only [hO, ho]
   rw [ih H G hl j]
   by_cases h : j ∈ T
   ·simp [h]
   ·by_cases e : j = i
    ·subst e; simp [h, ho, hl, hi]
    ·simp [h, e]
  | some o =>
   have hi : i < H.length := (List.getElem?_eq_some_iff.1 ho).1
   simp only [hO, ho, co]
   rw [ih H _ (by simpa [aY] using hl) j]
   by_cases h : j ∈ T
   ·simp [h]
   ·by_cases e : j = i
    ·subst e; simp [h, ho, bR _ _ (by omega : j < G.length)]
    ·simp [h, e, cj _ _ e]
theorem nc (T : List Nat) (H : List (Ob E.C)) (j : Nat) : (co (hO H T) H)[j]? = if j ∈ T then (H[j]?).map Ob.frozen else H[j]? := il T H H rfl j
theorem wB (H : List (Ob E.C)) (i : Nat) (T : List Nat) {o : Ob E.C} (ho : H[i]? = some o) : co (hO H (i :: T)) H = co (hO (an H i o.frozen) T) (an H i o.frozen) := by
 have hi : i < H.length := (List.getElem?_eq_some_iff.1 ho).1
 refine List.ext_getElem? fun j => ?_
 rw [nc, nc]
 by_cases e : j = i
 ·subst e; by_cases h : j ∈ T <;> simp [h, bR _ _ hi, ho, nZ]
 ·simp [e, cj _ _ e]
theorem mT : ∀ (T : List Nat) {H : List (Ob E.C)} {S : Nat → Prop}, dW E w S H ρ Fr → (∀ b, S b → b < w.heap.size) → (∀ i, i ∈ T → ∃ o, H[i]? = some o ∧ o ≠ .dead) →
  f7 w w S (ST S ρ T) H (co (hO H T) H) ρ ρ Fr Fr ∧ dW E w (ST S ρ T) (co (hO H T) H) ρ Fr := by
 intro T
 induction T with
 | nil =>
  intro H S hp hS _
  rw [lW]
  exact ⟨f7.refl hS, hp⟩
 | cons i T ih =>
  intro H S hp hS hT
  obtain ⟨o, ho, hd⟩ := hT i (by simp)
  obtain ⟨h1, h2⟩ := qW hp hS ho hd
  have hi : i < H.length := (List.getElem?_eq_some_iff.1 ho).1
  obtain ⟨h3, h4⟩ := ih h2 h1.mon.st.2.2.2 (fun j hj => by
   obtain ⟨o', ho', hd'⟩ := hT j (by simp [hj])
   by_cases e : j = i
   ·subst e
    refine ⟨_, bR _ _ hi, ?_⟩
    rw [ho] at ho'; obtain rfl := Option.some.inj ho'
    cases o <;> simp [Ob.frozen] at hd ⊢
   ·exact ⟨o', (cj _ _ e).trans ho', hd'⟩)
  rw [wB H i T ho, tk]
  exact ⟨h1.trans h3, h4⟩
theorem s5 : ∀ {T T0 : List Nat} {g : List (Nat × Ob E.C) → M E} {r : lF E.C × List Nat}, aj H (gx.frz E T g) T0 = some r →
  ∃ T1, aj H (g (hO H T)) T1 = some r ∧ ∀ i, i ∈ T → ∃ o, H[i]? = some o ∧ o ≠ .dead
 | [], T0, g, r, h => ⟨T0, h, by simp⟩
 | i :: T, T0, g, r, h => by
  unfold gx.frz at h
  obtain ⟨o, ho, h⟩ := bw h
  have fin : ∀ {u : Ob E.C}, o ≠ .dead → o.frozen = u → aj H (gx.frz E T fun us => g ((i, u) :: us)) (i :: T0) = some r → ∃ T1, aj H (g (hO H (i :: T))) T1 = some r ∧ ∀ j, j ∈ i :: T → ∃ o, H[j]? = some o ∧ o ≠ .dead := by
   intro u hd hu hh
   obtain ⟨T1, h1, h2⟩ := s5 hh
   subst hu
   refine ⟨T1, by simpa [hO, ho] using h1, fun j hj => ?_⟩
   rcases List.mem_cons.1 hj with rfl | hj
   ·exact ⟨o, ho, hd⟩
   ·exact h2 j hj
  cases o with
  | dead => cases h
  | box t v fz => exact fin (by simp) rfl h
  | row t l fz => exact fin (by simp) rfl h
theorem kW (hp : dW E w S H ρ Fr) (hS : ∀ b, S b → b < w.heap.size) {i : Nat} {o o' : Ob E.C} {q : Pl} (ho : H[i]? = some o) (hl : o.live = true) (hq : ρ i = some q)
  (hsz : w'.heap.size = w.heap.size) (hos : w'.os = w.os) (htp : w'.tape = w.tape) (hou : w'.output = w.output) (hb : ∀ b, b ≠ q.b → w'.heap[b]? = w.heap[b]?)
  (hsim : vQ H (an H i o') i) (hl' : o'.live = true) (hob : ∀ (m : lG w w' S S H (an H i o') ρ ρ Fr Fr), dw E w' S (an H i o') ρ Fr i o') :
  f7 w w' S S H (an H i o') ρ ρ Fr Fr ∧ dW E w' S (an H i o') ρ Fr := by
 have hi : i < H.length := (List.getElem?_eq_some_iff.1 ho).1
 have hnS := hp.out i o q ho hl hq
 have m : lG w w' S S H (an H i o') ρ ρ Fr Fr := by
  refine ⟨⟨by omega, fun _ h => h, fun b hb' => hb b (fun e => hnS (e ▸ hb')), fun b h => by rw [hsz]; exact hS b h⟩, fun j hj => ?_, fun _ _ => rfl, fun _ h => h⟩
  by_cases e : j = i
  ·subst e; exact hsim
  ·refine ⟨fun t l fz h => ⟨l, fz, by rwa [cj _ _ e] at h, rfl⟩, fun t x fz h => ⟨x, fz, by rwa [cj _ _ e] at h⟩⟩
 refine ⟨⟨m, hos, htp, hou, fun b _ hn => hb b (fun e => hn ⟨i, o, q, ho, hl, hq, e.symm⟩), fun b h => .inl h, fun b h => ?_⟩, ?_⟩
 ·obtain ⟨j, oj, qj, h1, h2, h3, rfl⟩ := h
  by_cases e : j = i
  ·subst e; rw [hq] at h3; obtain rfl := Option.some.inj h3
   exact .inl ⟨j, o, q, ho, hl, hq, rfl⟩
  ·rw [cj _ _ e] at h1
   exact .inl ⟨j, oj, qj, h1, h2, h3, rfl⟩
 ·refine hp.upd m (fun j => j = i) (fun j hj => cj _ _ hj) (fun j oj qj hj hoj hlj hqj => ⟨hb _ fun e => hj (hp.inj j i oj o qj q hoj ho hlj hl hqj hq e), hp.out j oj qj hoj hlj hqj⟩)
   (fun j oj hj hoj => ?_) (fun j oj qj hj hoj hlj hqj => ?_) (fun j oj hf h => ?_) (fun j hj => hp.far j (by simpa [aY] using hj))
  ·subst hj; rw [bR _ _ hi] at hoj; obtain rfl := Option.some.inj hoj; exact hob m
  ·subst hj
   rw [hq] at hqj; obtain rfl := Option.some.inj hqj
   refine ⟨hnS, fun k ok qk hk hok hlk hqk e => ?_⟩
   rw [cj _ _ hk] at hok
   exact hk (hp.inj k j ok o qk q hok ho hlk hl hqk hq e)
  ·by_cases e : j = i
   ·subst e; exact (hp.nfr ho (cd hl) hf).elim
   ·rw [cj _ _ e] at h; exact hp.fre j oj hf h
def fx {C : Nat → Type} (kill : Option Nat) (H : List (Ob C)) : List (Ob C) := match kill with | some i => an H i .dead | none => H
theorem lw (hp : dW E w S H ρ Fr) (hS : ∀ b, S b → b < w.heap.size) {s : Nat} {o' : Ob E.C} {oq : Option Pl} (hs : Fr s) {k : Nat} (hk : 0 < k) (hsl : s + k ≤ H.length)
  (hsz : w.heap.size ≤ w'.heap.size) (hos : w'.os = w.os) (htp : w'.tape = w.tape) (hou : w'.output = w.output) (kill : Option Nat) (hki : ∀ i, kill = some i → i ≠ s)
  (hb : ∀ b, b < w.heap.size → (∀ i o q, kill = some i → H[i]? = some o → o.live = true → ρ i = some q → b ≠ q.b) → w'.heap[b]? = w.heap[b]?)
  (hq : ∀ q, oq = some q → w.heap.size ≤ q.b ∨ ∃ i o q', kill = some i ∧ H[i]? = some o ∧ o.live = true ∧ ρ i = some q' ∧ q'.b = q.b)
  (hl' : o'.live = true) (H' : List (Ob E.C)) (hH : H' = fx kill (an H s o'))
  (hob : ∀ (m : lG w w' S S H H' ρ (fun j => if j = s then oq else ρ j) Fr (fun j => Fr j ∧ ¬ (s ≤ j ∧ j < s + k))),
   dw E w' S H' (fun j => if j = s then oq else ρ j) (fun j => Fr j ∧ ¬ (s ≤ j ∧ j < s + k)) s o') :
  f7 w w' S S H H' ρ (fun j => if j = s then oq else ρ j) Fr (fun j => Fr j ∧ ¬ (s ≤ j ∧ j < s + k)) ∧ dW E w' S H' (fun j => if j = s then oq else ρ j) (fun j => Fr j ∧ ¬ (s ≤ j ∧ j < s + k)) := by
 have hsl' : s < H.length := by omega
 have hget : ∀ j o, H'[j]? = some o → o ≠ .dead → (j = s ∧ o = o') ∨ (j ≠ s ∧ H[j]? = some o ∧ kill ≠ some j) := by
  intro j o h hd
  subst hH
  cases kill with
  | none =>
   simp only [fx] at h
   rw [aQ] at h
   split at h
   ·rename_i e; exact .inl ⟨e, (Option.some.inj h).symm⟩
   ·rename_i e; exact .inr ⟨e, h, by simp⟩
  | some i =>
   simp only [fx] at h
   rw [aQ] at h
   split at h
   ·split at h
    ·exact (hd (Option.some.inj h).symm).elim
    ·cases h
   ·rename_i e1
    rw [aQ] at h
    split at h
    ·rename_i e; exact .inl ⟨e, (Option.some.inj h).symm⟩
    ·rename_i e; exact .inr ⟨e, h, by simpa using fun e => e1 e.symm⟩
 have hlen : H'.length = H.length := by subst hH; cases kill <;> simp [fx, aY]
 have hss : H'[s]? = some o' := by
  subst hH
  cases kill with
  | none => exact bR _ _ hsl'
  | some i => simp only [fx]; rw [cj _ _ (fun e => hki i rfl e.symm)]; exact bR _ _ hsl'
 have hlive : ∀ b, S b → ∀ i o q, H[i]? = some o → o.live = true → ρ i = some q → b ≠ q.b := fun b hb i o q ho hl hq e => hp.out i o q ho hl hq (e ▸ hb)
 have m : lG w w' S S H H' ρ (fun j => if j = s then oq else ρ j) Fr (fun j => Fr j ∧ ¬ (s ≤ j ∧ j < s + k)) := by
  refine ⟨⟨hsz, fun _ h => h, fun b hb' => hb b (hS b hb') (fun i o q _ ho hl hq => hlive b hb' i o q ho hl hq), fun b h => Nat.lt_of_lt_of_le (hS b h) hsz⟩, fun j hj => ?_, fun j hj => ?_, fun _ h => h.1⟩
  ·have hjs : j ≠ s := fun e => hj (e ▸ hs)
   refine ⟨fun t l fz h => ?_, fun t x fz h => ?_⟩
   ·rcases hget j _ h (by simp) with ⟨e, _⟩ | ⟨_, h1, _⟩
    ·exact (hjs e).elim
    ·exact ⟨l, fz, h1, rfl⟩
   ·rcases hget j _ h (by simp) with ⟨e, _⟩ | ⟨_, h1, _⟩
    ·exact (hjs e).elim
    ·exact ⟨x, fz, h1⟩
  ·have hjs : j ≠ s := fun e => hj (e ▸ hs)
   show (if j = s then oq else ρ j) = ρ j
   rw [if_neg hjs]
 have hqown : ∀ q, oq = some q → lD H ρ q.b ∨ w.heap.size ≤ q.b := by
  intro q e
  rcases hq q e with h | ⟨i, o, q', h1, h2, h3, h4, h5⟩
  ·exact .inr h
  ·exact .inl ⟨i, o, q', h2, h3, h4, h5⟩
 refine ⟨⟨m, hos, htp, hou, fun b hb' hn => hb b hb' (fun i o q _ ho hl hq e => hn ⟨i, o, q, ho, hl, hq, e.symm⟩), fun b h => .inl h, fun b h => ?_⟩, ?_⟩
 ·obtain ⟨j, oj, qj, h1, h2, h3, rfl⟩ := h
  rcases hget j oj h1 (cd h2) with ⟨e, _⟩ | ⟨e, h4, _⟩
  ·replace h3 : (if j = s then oq else ρ j) = some qj := h3
   rw [if_pos e] at h3; exact hqown qj h3
  ·replace h3 : (if j = s then oq else ρ j) = some qj := h3
   rw [if_neg e] at h3; exact .inl ⟨j, oj, qj, h4, h2, h3, rfl⟩
 ·have hS' : ∀ b, S b → b < w.heap.size := hS
  refine hp.upd m (fun j => j = s ∨ kill = some j) (fun j hj => ?_) (fun j oj qj hj hoj hlj hqj => ⟨hb _ ((hp.obs j oj hoj).lt (cd hlj) hqj) fun i o q hk' ho hl hq e => ?_, hp.out j oj qj hoj hlj hqj⟩)
   (fun j oj hj hoj => ?_) (fun j oj qj hj hoj hlj hqj => ?_) (fun j oj hf h => ?_) (fun j hj => ?_)
  ·have h1 : j ≠ s := fun e => hj (.inl e)
   have h2 : kill ≠ some j := fun e => hj (.inr e)
   subst hH
   cases kill with
   | none => exact cj _ _ h1
   | some i => simp only [fx]; rw [cj _ _ (fun e => h2 (by rw [e])), cj _ _ h1]
  ·have : j = i := hp.inj j i oj o qj q hoj ho hlj hl hqj hq e
   subst this; exact hj (.inr hk')
  ·by_cases hd : oj = .dead
   ·subst hd; unfold dw; trivial
   ·rcases hget j oj hoj hd with ⟨e1, e2⟩ | ⟨e1, _, e2⟩
    ·subst e1; subst e2; exact hob m
    ·rcases hj with hj | hj
     ·exact (e1 hj).elim
     ·exact (e2 hj).elim
  ·rcases hget j oj hoj (cd hlj) with ⟨e1, e2⟩ | ⟨e1, _, e2⟩
   ·subst e1
    replace hqj : (if j = j then oq else ρ j) = some qj := hqj
    rw [if_pos rfl] at hqj
    refine ⟨fun hs' => ?_, fun k' ok qk hk' hok hlk hqk e => ?_⟩
    ·rcases hq qj hqj with h | ⟨i, o, q', h1, h2, h3, h4, h5⟩
     ·exact absurd (hS _ hs') (by omega)
     ·exact hp.out i o q' h2 h3 h4 (h5 ▸ hs')
    ·rcases hget k' ok hok (cd hlk) with ⟨e3, _⟩ | ⟨e3, h1, h2⟩
     ·exact hk' e3
     ·replace hqk : (if k' = j then oq else ρ k') = some qk := hqk
      rw [if_neg e3] at hqk
      rcases hq qj hqj with h | ⟨i, o, q', g1, g2, g3, g4, g5⟩
      ·have := (hp.obs k' ok h1).lt (cd hlk) hqk
       omega
      ·have : k' = i := hp.inj k' i ok o qk q' h1 g2 hlk g3 hqk g4 (e.trans g5.symm)
       subst this; exact h2 g1
   ·rcases hj with hj | hj
    ·exact (e1 hj).elim
    ·exact (e2 hj).elim
  ·by_cases hd : oj = .dead
   ·exact hd
   ·rcases hget j oj h hd with ⟨e1, _⟩ | ⟨e1, h1, _⟩
    ·subst e1; exact (hf.2 ⟨Nat.le_refl _, by omega⟩).elim
    ·exact hp.fre j oj hf.1 h1
  ·rw [hlen] at hj
   exact ⟨hp.far j hj, by omega⟩
end
end Go.Ev
end
section
namespace Go.Ev
theorem jJ (b off j : Nat) : (at_ b off).add j = at_ b (off + j) := by unfold Addr.add at_; split <;> simp_all
def dx (E : dD) : List Field → Ty → Nat → Prop
 | [], .unit, _ => True
 | f :: fs, .pair a b, off => f.offset = off ∧ E.ty f.type = some a ∧ szT E a ≠ 0 ∧ f.name ≠ "_" ∧ dx E fs b (off + szT E a)
 | _, _, _ => False
def wM (E : dD) : TypeDesc → Ty → Prop
 | .int k, .int k' => k = k'
 | .bool, .bool => True
 | .string, .str => True
 | .slice T, .slice e => E.ty T = some e
 | .array n T, .arr m e => n = m ∧ E.ty T = some e
 | .struct fs, .nm n => dx E fs.toList (E.fld n) 0
 | .pointer T, .ptr t => E.ty T = some t
 | _, _ => False
def zc (E : dD) : Nat → Ty → Option (List Value)
 | _, .int k => some [.int k 0]
 | _, .bool => some [.bool false]
 | _, .str => some [.string ⟨#[]⟩]
 | _, .slice _ => some [.slice none 0 0]
 | _, .unit => some []
 | d + 1, .pair a b => match zc E d a, zc E d b with | some x, some y => some (x ++ y) | _, _ => none
 | d + 1, .nm n => zc E d (E.fld n)
 | d + 1, .arr n e => match zc E d e with | some x => some ((List.replicate n x).flatten) | none => none
 | _, _ => none
structure eP (P : Program) (E : dD) : Prop where
 env : iC E
 und : ∀ T t, E.ty T = some t → ∃ d, P.underlying T = some d ∧ wM E d t
 eqs : ∀ T, E.eqs T = true → P.stoodInHeld T = false ∧ P.eqGuardType P.depth T = false
 inf : ∀ T t, E.ty T = some t → ∃ i, P.info? T = some i ∧ i.size = szT E t ∧ i.bytes ≤ 2048 ∧ ∀ cs, zc E 40 t = some cs → i.zero = some (eJ (bm t) cs)
section
variable {P : Program} {E : dD} {w : World} {S : Nat → Prop} {H : List (Ob E.C)} {ρ : Nat → Option Pl} {Fr : Nat → Prop} {F : List (Nat × cw E.C)}
theorem eP.plain (hT : eP P E) {T : TypeId} {t : Ty} (h : E.ty T = some t) : t ≠ .unit ∧ (∀ a b, t ≠ .pair a b) ∧ (∀ a b, t ≠ .fn a b) ∧ ∀ a b, t ≠ .sum a b := by
 obtain ⟨d, _, h2⟩ := hT.und T t h
 refine ⟨?_, ?_, ?_, ?_⟩ <;> (intros; rintro rfl; cases d <;> exact h2)
theorem pc (hT : eP P E) {T : TypeId} {t : Ty} (h : E.ty T = some t) (w : World) : (isAgg T).run P w = .ok (bm t) w := by
 obtain ⟨d, h1, h2⟩ := hT.und T t h
 unfold isAgg
 rw [Sem.run_bind, run_underlying h1 w]
 cases t <;> cases d <;> first | exact h2.elim | rfl
theorem bW (hT : eP P E) {T : TypeId} {t : Ty} (h : E.ty T = some t) (w : World) : (sizeOf T).run P w = .ok (szT E t) w := by
 obtain ⟨i, h1, h2, _⟩ := hT.inf T t h
 simp [sizeOf, typeInfo, h1, h2]
theorem pO {t : Ty} (h : bm t = false) : szT E t = 1 := by cases t <;> first | rfl | (simp [bm] at h)
theorem ms (hT : eP P E) {T : TypeId} {t : Ty} (h : E.ty T = some t) {b off : Nat} {cs : List Value} (hl : cs.length = szT E t)
  (hm : ∀ j c, cs[j]? = some c → w.cell? (at_ b (off + j)) = some c) : (loadVar T (at_ b off)).run P w = .ok (eJ (bm t) cs) w := by
 unfold loadVar
 rw [Sem.run_bind, pc hT h w]
 cases ha : bm t with
 | true =>
  have := run_loadCells_list (P := P) w (at_ b off) cs (fun j v hv => by rw [jJ]; exact hm j v hv)
  rw [hl] at this
  simp [bW hT h, this, eJ]
 | false =>
  rw [pO ha] at hl
  match cs, hl with
  | [c], _ =>
   have := hm 0 c rfl
   simp at this
   simp [eJ, this]
theorem aE.flat {t : Ty} {x : ap E.C t} {cs : List Value} (h : aE E w S t x cs) : ∀ c, c ∈ cs → c.oneCell' = true := by
 induction h with
 | int | bool | str | slice | ptr => intro c hc; simp at hc; subst hc; rfl
 | nils e v hv =>
  intro c hc; simp at hc; subst hc
  obtain ⟨a, rfl⟩ := hv.form
  rfl
 | arr n e l css hn hr ih =>
  intro c hc
  obtain ⟨i, hi, hc⟩ := List.mem_flatMap.1 hc
  have hi : i < l.length := by rw [hn]; simpa using hi
  exact ih i _ (List.getElem?_eq_getElem hi) c hc
 | nm n x cs h ih => exact ih
 | unit => intro c hc; simp at hc
 | pair a b p cs ds h k ih1 ih2 =>
  intro c hc
  rcases List.mem_append.1 hc with hc | hc
  ·exact ih1 c hc
  ·exact ih2 c hc
theorem ia.one {i : Nat} {v : Value} {t : Ty} {l : List (ap E.C t)} {fz : Bool} (h : ia E H ρ Fr i v) (ho : H[i]? = some (.row t l fz)) : v.oneCell' = true := by
 have := h.2 _ _ _ ho
 split at this
 ·obtain ⟨a, rfl⟩ := ik.form this; rfl
 ·obtain ⟨cap, rfl, _⟩ := this; rfl
theorem xY {v : Value} (h : v.oneCell' = true) : v.cells = #[v] := by cases v <;> first | rfl | cases h
theorem gN {t : Ty} {cs : List Value} (hl : cs.length = szT E t) (hf : ∀ c, c ∈ cs → c.oneCell' = true) : (eJ (bm t) cs).cells = cs.toArray := by
 cases ha : bm t with
 | true => simp [eJ, Value.cells]
 | false =>
  rw [pO ha] at hl
  match cs, hl with
  | [c], _ => simp [eJ, xY (hf c (by simp))]
theorem aF.ofC {v : AV E.C} {t : Ty} {cs : List Value} (hfn : ∀ a b, t ≠ .fn a b) (ho : fL E v t = true) (h : bc E w S H ρ Fr v cs) : aF P E w S H ρ Fr v (eJ (bm t) cs) := by
 cases v with
 | pv t' x =>
  obtain rfl := lN ho
  unfold bc at h; unfold aF
  exact jB.of hfn h rfl
 | nils => unfold bc at h; cases t <;> simp [fL] at ho; unfold aF; simp [h, eJ, bm]
 | row i => unfold bc at h; cases t <;> simp [fL] at ho; obtain ⟨v, rfl, hv⟩ := h; unfold aF; simpa [eJ, bm] using hv
 | sub i lo hi => unfold bc at h; cases t <;> simp [fL] at ho; obtain ⟨v, rfl, hv⟩ := h; unfold aF; simpa [eJ, bm] using hv
 | adr i p ta => unfold bc at h; cases t <;> simp [fL] at ho; obtain ⟨v, rfl, hv⟩ := h; unfold aF; simpa [eJ, bm] using hv
 | agg n fs =>
  unfold bc at h; cases t <;> simp [fL] at ho; subst ho; unfold aF
  exact ⟨cs, h, rfl⟩
 | tup => unfold bc at h; exact h.elim
 | clo => unfold bc at h; exact h.elim
 | undef => unfold bc at h; exact h.elim
theorem aF.toC {v : AV E.C} {t : Ty} {u : Value} (hfn : ∀ a b, t ≠ .fn a b) (ho : fL E v t = true) (h : aF P E w S H ρ Fr v u) : ∃ cs, bc E w S H ρ Fr v cs ∧ u = eJ (bm t) cs := by
 cases v with
 | pv t' x =>
  obtain rfl := lN ho
  unfold aF at h; unfold bc
  exact h.inv hfn
 | nils => unfold aF at h; cases t <;> simp [fL] at ho; exact ⟨[u], by unfold bc; rw [h], by simp [eJ, bm]⟩
 | row i => unfold aF at h; cases t <;> simp [fL] at ho; exact ⟨[u], by unfold bc; exact ⟨u, rfl, h⟩, by simp [eJ, bm]⟩
 | sub i lo hi => unfold aF at h; cases t <;> simp [fL] at ho; exact ⟨[u], by unfold bc; exact ⟨u, rfl, h⟩, by simp [eJ, bm]⟩
 | adr i p ta => unfold aF at h; cases t <;> simp [fL] at ho; exact ⟨[u], by unfold bc; exact ⟨u, rfl, h⟩, by simp [eJ, bm]⟩
 | agg n fs =>
  unfold aF at h; cases t <;> simp [fL] at ho; subst ho
  obtain ⟨cs, h1, rfl⟩ := h
  exact ⟨cs, by unfold bc; exact h1, rfl⟩
 | tup => simp [fL] at ho
 | clo => simp [fL] at ho
 | undef => simp [fL] at ho
theorem aX {k : IntKind} {n : Int} {u : Value} : aF P E w S H ρ Fr (.pv (.int k) n) u ↔ u = .int k n := by
 unfold aF
 constructor
 ·intro h
  obtain ⟨cs, h1, rfl⟩ := h.inv (by intro _ _ h; cases h)
  rw [h1.inv_int]; rfl
 ·rintro rfl; exact jB.of (by intro _ _ h; cases h) (.int k n) rfl
theorem fI {b : Bool} {u : Value} : aF P E w S H ρ Fr (.pv .bool b) u ↔ u = .bool b := by
 unfold aF
 constructor
 ·intro h
  obtain ⟨cs, h1, rfl⟩ := h.inv (by intro _ _ h; cases h)
  rw [h1.inv_bool]; rfl
 ·rintro rfl; exact jB.of (by intro _ _ h; cases h) (.bool b) rfl
theorem iv {b : ByteArray} {u : Value} : aF P E w S H ρ Fr (.pv .str b) u ↔ u = .string b := by
 unfold aF
 constructor
 ·intro h
  obtain ⟨cs, h1, rfl⟩ := h.inv (by intro _ _ h; cases h)
  rw [h1.inv_str]; rfl
 ·rintro rfl; exact jB.of (by intro _ _ h; cases h) (.str b) rfl
theorem cF {t : Ty} {x : ap E.C t} {u : Value} (hn : ∀ a b, t ≠ .fn a b) : aF P E w S H ρ Fr (.pv t x) u ↔ ∃ cs, aE E w S t x cs ∧ u = eJ (bm t) cs := by
 unfold aF
 exact ⟨fun h => h.inv hn, fun ⟨cs, h1, h2⟩ => jB.of hn h1 h2⟩
def ak (P : Program) (E : dD) (w : World) (S : Nat → Prop) (H : List (Ob E.C)) (ρ : Nat → Option Pl) (Fr : Nat → Prop) (m : Sem Value) (r : lF E.C) : Prop :=
 ∃ v u, r = ⟨v, [], []⟩ ∧ m.run P w = .ok u w ∧ aF P E w S H ρ Fr v u
theorem zG {v : AV E.C} {T : List Nat} {r : lF E.C × List Nat} (h : aj H (rv E v) T = some r) : r.1 = ⟨v, [], []⟩ := by
 simp only [rv, aj] at h; rw [← Option.some.inj h]
theorem ak.rv {m : Sem Value} {v : AV E.C} {T : List Nat} {r : lF E.C × List Nat} (h : aj H (rv E v) T = some r) {u : Value} (hm : m.run P w = .ok u w) (hv : aF P E w S H ρ Fr v u) :
  ak P E w S H ρ Fr m r.1 := ⟨v, u, zG h, hm, hv⟩
theorem gD {v : AV E.C} {k : IntKind → Int → M E} {T : List Nat} {r : lF E.C × List Nat} (h : aj H (jf E v k) T = some r) :
  ∃ (kk : IntKind) (n : Int), v = .pv (.int kk) n ∧ aj H (k kk n) T = some r := by
 unfold jf at h
 split at h
 ·split at h
  ·exact ⟨_, _, rfl, h⟩
  ·cases h
 ·cases h
theorem t8 {op : BinOp} {n m : Int} {T : List Nat} {r : lF E.C × List Nat} (h : aj H (yh E op n m (rB E)) T = some r) : ak P E w S H ρ Fr (Op.intCmp op n m) r.1 := by
 unfold yh at h
 cases op <;> first | (cases h; done) | exact ak.rv h rfl (fI.2 rfl)
theorem sT {op : BinOp} {kk : IntKind} {n m : Int} {T : List Nat} {r : lF E.C × List Nat} {X : TypeId} (h : aj H (yn E op kk n m) T = some r) (hs : op ≠ .shl ∧ op ≠ .shr) :
  ak P E w S H ρ Fr (binOp op X (.int kk n) (.int kk m)) r.1 := by
 unfold yn at h
 cases op
 case add => exact ak.rv h (by simp [binOp, Op.intArith]) (aX.2 rfl)
 case sub => exact ak.rv h (by simp [binOp, Op.intArith]) (aX.2 rfl)
 case mul => exact ak.rv h (by simp [binOp, Op.intArith]) (aX.2 rfl)
 case quo =>
  obtain ⟨h1, h⟩ := bI h
  have h1 : m ≠ 0 := by simpa using h1
  exact ak.rv h (by simp [binOp, Op.intDiv, h1]) (aX.2 rfl)
 case rem =>
  obtain ⟨h1, h⟩ := bI h
  have h1 : m ≠ 0 := by simpa using h1
  exact ak.rv h (by simp [binOp, Op.intDiv, h1]) (aX.2 rfl)
 case and => exact ak.rv h (by simp [binOp, Op.intBits, bits]) (aX.2 rfl)
 case or => exact ak.rv h (by simp [binOp, Op.intBits, bits]) (aX.2 rfl)
 case xor => exact ak.rv h (by simp [binOp, Op.intBits, bits]) (aX.2 rfl)
 case andNot => unfold yh at h; cases h
 case shl => exact (hs.1 rfl).elim
 case shr => exact (hs.2 rfl).elim
 all_goals first
  | (obtain ⟨v, u, h1, h2, h3⟩ := t8 (P := P) (w := w) (S := S) (ρ := ρ) (Fr := Fr) h; exact ⟨v, u, h1, by simpa [binOp] using h2, h3⟩)
theorem mD (x y : ByteArray) : (x.toList == y.toList) = di x y := by
 unfold di
 rw [← beq_toListBytes]
 rw [Bool.eq_iff_iff, MapKept.bytes_beq]
 simp
theorem sF {op : BinOp} {x y : ByteArray} {T : List Nat} {r : lF E.C × List Nat} {X : TypeId} (h : aj H (zL E op x y) T = some r) :
  ak P E w S H ρ Fr (binOp op X (.string x) (.string y)) r.1 := by
 unfold zL at h
 cases op <;> first | (cases h; done) | skip
 case add =>
  obtain ⟨h1, h⟩ := bI h
  have h1 : x.size + y.size ≤ 68719476736 := by simpa [bX, zC] using h1
  refine ak.rv h ?_ (iv.2 rfl)
  have : ¬ ((x.size : Int) + (y.size : Int) > IntKind.i64.max) := by
   have : IntKind.i64.max = 9223372036854775807 := rfl
   omega
  simp [binOp, Op.stringOp]
  have : IntKind.i64.max = 9223372036854775807 := rfl
  omega
 case eql => exact ak.rv h (by simp [binOp, Op.stringOp, mD]) (fI.2 rfl)
 case neq => exact ak.rv h (by simp [binOp, Op.stringOp, mD]) (fI.2 rfl)
 case lss => exact ak.rv h (by simp [binOp, Op.stringOp, ByteArray.toList_eq]) (fI.2 rfl)
theorem l8 (hT : eP P E) {T : TypeId} {t : Ty} (h : E.ty T = some t) {cs ds : List Value} {o : Nat} (hl : ds.length = szT E t) (hs : jb ds cs o) (w : World) :
  (part T cs.toArray o).run P w = .ok (eJ (bm t) ds) w := by
 unfold part
 rw [Sem.run_bind, pc hT h w]
 cases ha : bm t with
 | true =>
  have : List.take (szT E t) (List.drop o cs) = ds := by
   refine List.ext_getElem? fun j => ?_
   rw [List.getElem?_take]
   split
   ·rename_i hj
    have h1 : ds[j]? = some ds[j] := List.getElem?_eq_getElem (by omega)
    rw [h1, List.getElem?_drop]
    exact hs j _ h1
   ·rw [List.getElem?_eq_none]; omega
  simp [bW hT h, this, eJ]
 | false =>
  rw [pO ha] at hl
  match ds, hl with
  | [c], _ =>
   have := hs 0 c rfl
   simp at this
   simp [this, eJ]
theorem uA {t : Ty} {x y : ap E.C t} {p : Bool} (h : yD E t x y = some p) {cs ds : List Value} (hx : aE E w S t x cs) (hy : aE E w S t y ds) {T : TypeId} (hT : eP P E) (hty : E.ty T = some t) (d : Nat) :
  (Op.equalIn (d + 1) T (eJ (bm t) cs) (eJ (bm t) ds)).run P w = .ok p w ∧ bm t = false := by
 obtain ⟨D, h1, h2⟩ := hT.und T t hty
 cases t <;> first | (cases h; done) | skip
 case int k =>
  rw [hx.inv_int, hy.inv_int]
  cases D <;> first | exact h2.elim | skip
  rename_i k'
  obtain rfl : k' = k := h2
  simp only [yD, Option.some.injEq] at h
  subst h
  exact ⟨by simpa [eJ, bm] using run_equalIn_int w d T k' k' _ _ h1, rfl⟩
 case bool =>
  rw [hx.inv_bool, hy.inv_bool]
  cases D <;> first | exact h2.elim | skip
  simp only [yD, Option.some.injEq] at h
  subst h
  exact ⟨by simpa [eJ, bm] using run_equalIn_bool' w d T _ _ h1, rfl⟩
 case str =>
  rw [hx.inv_str, hy.inv_str]
  cases D <;> first | exact h2.elim | skip
  simp only [yD, Option.some.injEq] at h
  subst h
  refine ⟨?_, rfl⟩
  rw [show di x y = (ByteArray.toList x == ByteArray.toList y) from (mD x y).symm]
  simpa [eJ, bm] using run_equalIn_string w d T _ _ h1
theorem uu (hT : eP P E) (d : Nat) (CS DS : List Value) : ∀ (t : Ty) (x y : ap E.C t) (p : Bool) (fs : List Field) (off : Nat) (cs ds : List Value), Az E t x y = some p → dx E fs t off →
  aE E w S t x cs → aE E w S t y ds → jb cs CS off → jb ds DS off → (Op.eqFields (d + 1) CS.toArray DS.toArray fs).run P w = .ok p w
 | .unit, x, y, p, [], off, cs, ds, h, hf, hx, hy, h1, h2 => by
  simp only [Az, Option.some.injEq] at h; subst h
  simp [Op.eqFields]
 | .pair a b, x, y, p, f :: fs, off, cs, ds, h, hf, hx, hy, h1, h2 => by
  obtain ⟨e1, e2, _, e3, hf⟩ := hf
  obtain ⟨c1, c2, rfl, x1, x2⟩ := hx.inv_pair
  obtain ⟨d1, d2, rfl, y1, y2⟩ := hy.inv_pair
  simp only [Az] at h
  split at h
  ·rename_i p1 p2 hp1 hp2
   simp only [Option.some.injEq] at h; subst h
   obtain ⟨hr, hag⟩ := uA hp1 x1 y1 hT e2 d
   have hl1 := x1.len hT.env
   have hl2 := y1.len hT.env
   have g1 := l8 hT e2 hl1 (by have := (jb.left c1 c2).trans h1; simpa using this) w
   have g2 := l8 hT e2 hl2 (by have := (jb.left d1 d2).trans h2; simpa using this) w
   have s1 : jb c2 CS (off + szT E a) := by have := (jb.right c1 c2).trans h1; rwa [hl1] at this
   have s2 : jb d2 DS (off + szT E a) := by have := (jb.right d1 d2).trans h2; rwa [hl2] at this
   have ih := uu hT d CS DS b _ _ p2 fs (off + szT E a) c2 d2 hp2 hf x2 y2 s1 s2
   simp only [Op.eqFields, ne_eq, e3, not_false_eq_true, if_true, Sem.run_bind, e1, g1, g2, Result.andThen_ok, hr, Sem.run_ite]
   cases p1 <;> simp [ih]
  ·cases h
 | .unit, _, _, _, _ :: _, _, _, _, _, hf, _, _, _, _ => hf.elim
 | .pair _ _, _, _, _, [], _, _, _, _, hf, _, _, _, _ => hf.elim
 | .int _, _, _, _, _, _, _, _, h, _, _, _, _, _ => by cases h
 | .bool, _, _, _, _, _, _, _, h, _, _, _, _, _ => by cases h
 | .str, _, _, _, _, _, _, _, h, _, _, _, _, _ => by cases h
 | .slice _, _, _, _, _, _, _, _, h, _, _, _, _, _ => by cases h
 | .arr _ _, _, _, _, _, _, _, _, h, _, _, _, _, _ => by cases h
 | .nm _, _, _, _, _, _, _, _, h, _, _, _, _, _ => by cases h
 | .ptr _, _, _, _, _, _, _, _, h, _, _, _, _, _ => by cases h
 | .sum _ _, _, _, _, _, _, _, _, h, _, _, _, _, _ => by cases h
 | .fn _ _, _, _, _, _, _, _, _, h, _, _, _, _, _ => by cases h
theorem yc (hT : eP P E) {X : TypeId} {t : Ty} (hty : E.ty X = some t) {x y : ap E.C t} {p : Bool} (h : A8 E X t x y = some p) {cs ds : List Value} (hx : aE E w S t x cs) (hy : aE E w S t y ds) :
  (Op.equal X (eJ (bm t) cs) (eJ (bm t) ds)).run P w = .ok p w ∧ (bm t = true → P.eqGuardType P.depth X = false) := by
 have base : yD E t x y = some p → (Op.equal X (eJ (bm t) cs) (eJ (bm t) ds)).run P w = .ok p w ∧ (bm t = true → P.eqGuardType P.depth X = false) := fun h =>
  let ⟨h1, h2⟩ := uA h hx hy hT hty 9999
  ⟨h1, fun h3 => by rw [h2] at h3; cases h3⟩
 cases t <;> first | exact base h | skip
 rename_i n
 simp only [A8] at h
 cases he : E.eqs X with
 | false => rw [he] at h; cases h
 | true =>
  rw [he] at h
  obtain ⟨g1, g2⟩ := hT.eqs X he
  obtain ⟨D, u1, u2⟩ := hT.und X _ hty
  cases D <;> first | exact u2.elim | skip
  rename_i fs
  have hfs : P.fieldsOf X = fs := by simp [Program.fieldsOf, u1]
  refine ⟨?_, fun _ => g2⟩
  show (Op.equalIn (9999 + 1) X (.agg cs.toArray) (.agg ds.toArray)).run P w = _
  rw [run_equalIn_struct w 9999 X cs.toArray ds.toArray (by rw [hfs]; exact u1) g1, hfs]
  exact uu hT 9998 cs ds _ _ _ p fs.toList 0 cs ds h u2 hx.inv_nm hy.inv_nm (jb.refl cs) (jb.refl ds)
theorem gP {op : BinOp} {X : TypeId} {x y : Operand} {a b : Value} (h1 : a ≠ .nilIface) (h2 : ∀ c, a ≠ .agg c) : (eqGuard op X x y a b).run P w = .ok () w := by
 unfold eqGuard
 cases op <;> cases a <;> first | rfl | exact (h1 rfl).elim | exact (h2 _ rfl).elim
theorem oQ {X e : TypeId} (hu : P.underlying X = some (.slice e)) (a b : Option Addr) (l l' c c' : Nat) (h : a = none ∨ b = none) :
  (binOp .eql X (.slice a l c) (.slice b l' c')).run P w = .ok (.bool (a.isNone && b.isNone)) w ∧ (binOp .neq X (.slice a l c) (.slice b l' c')).run P w = .ok (.bool (!(a.isNone && b.isNone))) w := by
 have : (Op.equal X (.slice a l c) (.slice b l' c')).run P w = .ok (a.isNone && b.isNone) w := by
  show (Op.equalIn (9999 + 1) X _ _).run P w = _
  unfold Op.equalIn
  rw [Sem.run_bind, run_underlying hu w]
  cases a <;> cases b <;> simp at h ⊢
 constructor <;> simp [binOp, this]
theorem lj {b : Bool} {T : List Nat} {r : lF E.C × List Nat} (h : aj H (rB E b) T = some r) {m : Sem Value} (hm : m.run P w = .ok (.bool b) w) : ak P E w S H ρ Fr m r.1 :=
 ak.rv h hm (fI.2 rfl)
theorem rU (hp : dW E w S H ρ Fr) {i : Nat} {t : Ty} {l : List (ap E.C t)} {fz : Bool} (ho : H[i]? = some (.row t l fz)) (hl : l ≠ []) {v : Value} (hv : ia E H ρ Fr i v) :
  ∃ a n c, v = .slice (some a) n c := by
 have h1 := hv.2 _ _ _ ho
 have h2 := hp.obs i _ ho
 unfold dw at h2
 rcases h2 with ⟨h3, _⟩ | ⟨q, _, _, _, h3, _⟩
 ·exact (hl h3).elim
 ·rw [h3] at h1
  obtain ⟨cap, rfl, _⟩ := h1
  exact ⟨_, _, _, rfl⟩
theorem tX {e : Ty} {l : List (ap E.C e)} (hl : l ≠ []) {v : Value} (hv : aF P E w S H ρ Fr (.pv (.slice e) l) v) : ∃ a n c, v = .slice (some a) n c := by
 obtain ⟨cs, h1, rfl⟩ := (cF (by intro _ _ h; cases h)).1 hv
 rcases h1.inv_slice with ⟨_, _, _, h2⟩ | ⟨b, off, cap, css, rfl, _⟩
 ·exact (hl h2).elim
 ·exact ⟨_, _, _, rfl⟩
theorem te (hp : dW E w S H ρ Fr) {neg : Bool} {X e : TypeId} (hu : P.underlying X = some (.slice e)) {a b : AV E.C} {u v : Value} (ha : aF P E w S H ρ Fr a u) (hb : aF P E w S H ρ Fr b v)
  {T : List Nat} {r : lF E.C × List Nat} (h : aj H (zm E neg a b) T = some r) : ak P E w S H ρ Fr (binOp (cond neg .neq .eql) X u v) r.1 ∧ ∃ a n c, u = .slice a n c := by
 have fin : ∀ (a b : Option Addr) (l l' c c' : Nat) (T : List Nat), a = none ∨ b = none → aj H (rB E (cond neg (!(a.isNone && b.isNone)) (a.isNone && b.isNone))) T = some r →
   ak P E w S H ρ Fr (binOp (cond neg .neq .eql) X (.slice a l c) (.slice b l' c')) r.1 ∧ ∃ a' n' c', Value.slice a l c = .slice a' n' c' := by
  intro a b l l' c c' T hab hh
  refine ⟨?_, _, _, _, rfl⟩
  obtain ⟨h1, h2⟩ := oQ (P := P) (w := w) hu a b l l' c c' hab
  cases neg
  ·exact lj hh h1
  ·exact lj hh h2
 have some1 : ∀ {v : Value} {T : List Nat}, (∃ a n c, v = .slice (some a) n c) → aj H (rB E neg) T = some r → ak P E w S H ρ Fr (binOp (cond neg .neq .eql) X (.slice none 0 0) v) r.1 ∧ ∃ a' n' c', Value.slice none 0 0 = .slice a' n' c' := by
  rintro v T ⟨a, n, c, rfl⟩ hh
  exact fin none (some a) 0 n 0 c T (.inl rfl) (by cases neg <;> exact hh)
 have some2 : ∀ {v : Value} {T : List Nat}, (∃ a n c, v = .slice (some a) n c) → aj H (rB E neg) T = some r → ak P E w S H ρ Fr (binOp (cond neg .neq .eql) X v (.slice none 0 0)) r.1 ∧ ∃ a' n' c', v = .slice a' n' c' := by
  rintro v T ⟨a, n, c, rfl⟩ hh
  exact fin (some a) none n 0 c 0 T (.inr rfl) (by cases neg <;> exact hh)
 unfold zm at h
 split at h
 ·unfold aF at ha hb; subst ha hb
  exact fin none none 0 0 0 0 T (.inl rfl) (by cases neg <;> exact h)
 ·obtain ⟨o, ho, h⟩ := bw h
  unfold aF at ha hb; subst ha
  cases o <;> first | (cases h; done) | skip
  obtain ⟨hl, h⟩ := bI h
  exact some1 (rU hp ho (by simpa using hl) hb) h
 ·obtain ⟨o, ho, h⟩ := bw h
  unfold aF at ha hb; subst hb
  cases o <;> first | (cases h; done) | skip
  obtain ⟨hl, h⟩ := bI h
  exact some2 (rU hp ho (by simpa using hl) ha) h
 ·split at h
  ·obtain ⟨hl, h⟩ := bI h
   have := tX (by intro e; rw [e] at hl; cases hl) ha
   unfold aF at hb; subst hb
   exact some2 this h
  ·cases h
 ·split at h
  ·obtain ⟨hl, h⟩ := bI h
   have := tX (by intro e; rw [e] at hl; cases hl) hb
   unfold aF at ha; subst ha
   exact some1 this h
  ·cases h
 ·cases h
theorem pI {X : TypeId} {t : Ty} {x y : ap E.C t} {cs ds : List Value} {p : Bool} (hx : aE E w S t x cs) (hy : aE E w S t y ds) (hev : A8 E X t x y = some p)
  (he : (Op.equal X (eJ (bm t) cs) (eJ (bm t) ds)).run P w = .ok p w) :
  (binOp .eql X (eJ (bm t) cs) (eJ (bm t) ds)).run P w = .ok (.bool p) w ∧ (binOp .neq X (eJ (bm t) cs) (eJ (bm t) ds)).run P w = .ok (.bool (!p)) w ∧
   (eJ (bm t) cs ≠ .nilIface ∧ (bm t = false → ∀ c, eJ (bm t) cs ≠ .agg c)) := by
 cases t <;> first | (cases hev; done) | skip
 case int k =>
  rw [hx.inv_int, hy.inv_int] at he ⊢
  simp only [A8, yD, Option.some.injEq] at hev
  subst hev
  refine ⟨by simp [eJ, bm, binOp, Op.intCmp], by simp [eJ, bm, binOp, Op.intCmp, bne], by simp [eJ, bm], by simp [eJ, bm]⟩
 case bool =>
  rw [hx.inv_bool, hy.inv_bool] at he ⊢
  have he' : (Op.equal X (.bool x) (.bool y)).run P w = .ok p w := by simpa [eJ, bm] using he
  refine ⟨by simp [eJ, bm, binOp, he'], by simp [eJ, bm, binOp, he'], by simp [eJ, bm], by simp [eJ, bm]⟩
 case str =>
  rw [hx.inv_str, hy.inv_str] at he ⊢
  simp only [A8, yD, Option.some.injEq] at hev
  subst hev
  have hb := mD x y
  refine ⟨by simp [eJ, bm, binOp, Op.stringOp]; exact hb, by simp [eJ, bm, binOp, Op.stringOp]; exact hb, by simp [eJ, bm], by simp [eJ, bm]⟩
 case nm n =>
  simp only [eJ, bm, if_true] at he ⊢
  refine ⟨by simp [binOp, he], by simp [binOp, he], by simp, by simp⟩
theorem mZ (hT : eP P E) (hp : dW E w S H ρ Fr) (hC : dp P F) {neg : Bool} {X : TypeId} {xo yo : Operand} {a b : AV E.C} {u v : Value} (ha : aF P E w S H ρ Fr a u) (hb : aF P E w S H ρ Fr b v)
  {T : List Nat} {r : lF E.C × List Nat} (h : aj H (vP E F neg X (E.ty X) a b) T = some r) :
  ak P E w S H ρ Fr (do eqGuard (cond neg .neq .eql) X xo yo u v; binOp (cond neg .neq .eql) X u v) r.1 := by
 unfold vP at h
 split at h
 ·rename_i e hty
  obtain ⟨D, u1, u2⟩ := hT.und X _ hty
  cases D <;> first | exact u2.elim | skip
  obtain ⟨⟨v1, u1', e1, e2, e3⟩, a', n', c', e4⟩ := te hp u1 ha hb h
  refine ⟨v1, u1', e1, ?_, e3⟩
  rw [Sem.run_bind, gP (by rw [e4]; simp) (by rw [e4]; simp)]
  exact e2
 ·rename_i t _ hty
  obtain ⟨x, T1, T2, h, _, px⟩ := (dZ hT.env hp hC 40).1 t a [] _ _ _ h
  obtain ⟨y, T3, T4, h, _, py⟩ := (dZ hT.env hp hC 40).1 t b [] _ _ _ h
  split at h
  ·rename_i p hev
   have hfn := (hT.plain hty).2.2.1
   obtain ⟨cs, c1, rfl⟩ := (px.2 u ha).inv hfn
   obtain ⟨ds, d1, rfl⟩ := (py.2 v hb).inv hfn
   have c1 := c1.mono (S' := fun _ => True) (fun _ _ => trivial) (eo.refl _ _)
   have d1 := d1.mono (S' := fun _ => True) (fun _ _ => trivial) (eo.refl _ _)
   obtain ⟨e1, e2⟩ := yc hT hty hev c1 d1
   obtain ⟨e3, e4, e5, e6⟩ := pI c1 d1 hev e1
   have hg : (eqGuard (cond neg .neq .eql) X xo yo (eJ (bm t) cs) (eJ (bm t) ds)).run P w = .ok () w := by
    cases hag : bm t with
    | true => exact run_eqGuard_agg w _ X xo yo _ _ (e2 hag)
    | false =>
     rw [hag] at e5 e6
     exact gP e5 (e6 rfl)
   refine lj h ?_
   rw [Sem.run_bind, hg]
   cases neg
   ·exact e3
   ·exact e4
  ·cases h
 ·cases h
theorem sZ (hT : eP P E) (hp : dW E w S H ρ Fr) (hC : dp P F) {op : BinOp} {X : TypeId} {xo yo : Operand} {a b : AV E.C} {u v : Value} (ha : aF P E w S H ρ Fr a u) (hb : aF P E w S H ρ Fr b v)
  {T : List Nat} {r : lF E.C × List Nat} (h : aj H (zD E F op X (E.ty X) a b) T = some r) :
  ak P E w S H ρ Fr (do eqGuard op X xo yo u v; binOp op X u v) r.1 := by
 have guard : ∀ {m : Sem Value}, (eqGuard op X xo yo u v).run P w = .ok () w → ak P E w S H ρ Fr m r.1 → ak P E w S H ρ Fr (do eqGuard op X xo yo u v; m) r.1 := by
  rintro m hg ⟨v1, u1, e1, e2, e3⟩
  exact ⟨v1, u1, e1, by rw [Sem.run_bind, hg]; exact e2, e3⟩
 have other : ∀ {T : List Nat}, aj H (match op with | .eql => vP E F false X (E.ty X) a b | .neq => vP E F true X (E.ty X) a b | _ => .fail) T = some r →
   ak P E w S H ρ Fr (do eqGuard op X xo yo u v; binOp op X u v) r.1 := by
  intro T h
  cases op <;> first | (cases h; done) | skip
  ·exact mZ (neg := false) hT hp hC ha hb h
  ·exact mZ (neg := true) hT hp hC ha hb h
 unfold zD at h
 dsimp only at h
 split at h
 ·rename_i t x
  split at h
  ·rename_i kk n
   obtain ⟨kk', m, rfl, h⟩ := gD h
   obtain rfl := aX.1 ha
   obtain rfl := aX.1 hb
   refine guard (gP (by simp) (by simp)) ?_
   split at h
   ·obtain ⟨hm, h⟩ := bI h
    have hm : ¬ m < 0 := by simpa using hm
    refine ak.rv h ?_ (aX.2 rfl)
    simp [binOp, Op.shift, hm]
   ·obtain ⟨hm, h⟩ := bI h
    have hm : ¬ m < 0 := by simpa using hm
    refine ak.rv h ?_ (aX.2 rfl)
    simp [binOp, Op.shift, hm]
   ·rename_i h1 h2
    have h3 : aj H (cond (Nat.beq (ph kk) (ph kk')) (yn E op kk n m) .fail) T = some r := by
     rename_i h
     exact h
    cases hk : Nat.beq (ph kk) (ph kk') with
    | false => rw [hk] at h3; cases h3
    | true =>
     rw [hk] at h3
     obtain rfl := mG (Nat.eq_of_beq_eq_true hk)
     exact sT h3 ⟨h1, h2⟩
  ·rename_i s
   split at h
   ·split at h
    ·obtain rfl := iv.1 ha
     obtain rfl := iv.1 hb
     exact guard (gP (by simp) (by simp)) (sF h)
    ·cases h
   ·cases h
  ·exact other h
 ·exact other h
theorem ve {op : UnOp} {a : AV E.C} {u : Value} (ha : aF P E w S H ρ Fr a u) {T : List Nat} {r : lF E.C × List Nat} (h : aj H (B6 E op a) T = some r) : ak P E w S H ρ Fr (Op.unary op u) r.1 := by
 unfold B6 at h
 split at h
 ·split at h
  ·obtain rfl := fI.1 ha
   exact lj h (by simp [Op.unary])
  ·obtain rfl := aX.1 ha
   exact ak.rv h (by simp [Op.unary, Op.intArith]) (aX.2 rfl)
  ·cases h
 ·cases h
end
end Go.Ev
end
section
namespace Go.Ev
section
variable {P : Program} {E : dD} {w : World} {S : Nat → Prop} {H : List (Ob E.C)} {ρ : Nat → Option Pl} {Fr : Nat → Prop} {F : List (Nat × cw E.C)}
variable {T : List Nat} {r : lF E.C × List Nat}
theorem qy (hT : eP P E) {X Y : TypeId} {a : AV E.C} {u : Value} (ha : aF P E w S H ρ Fr a u) (h : aj H (wR E (E.ty X) (E.ty Y) a) T = some r) :
  ak P E w S H ρ Fr (convert X Y u) r.1 := by
 unfold wR at h
 split at h
 ·cases h
 ·rename_i t hX
  obtain ⟨D, u1, u2⟩ := hT.und X _ hX
  split at h
  ·split at h
   ·rename_i kk n k hY
    obtain ⟨D', v1, v2⟩ := hT.und Y _ hY
    cases D' <;> first | exact v2.elim | skip
    rename_i k'
    obtain rfl : k' = k := v2
    obtain rfl := aX.1 ha
    refine ak.rv h ?_ (aX.2 rfl)
    unfold convert
    rw [Sem.run_bind, run_underlying u1 w, Result.andThen_ok, Sem.run_bind, run_underlying v1 w, Result.andThen_ok]
    simp [Conv.intToInt]
   ·rename_i s hY
    obtain ⟨D', v1, v2⟩ := hT.und Y _ hY
    cases D' <;> first | exact v2.elim | skip
    obtain rfl := iv.1 ha
    refine ak.rv h ?_ (iv.2 rfl)
    unfold convert
    rw [Sem.run_bind, run_underlying u1 w, Result.andThen_ok, Sem.run_bind, run_underlying v1 w, Result.andThen_ok]
    simp
   ·cases h
  ·cases h
theorem aE.slice_form {e : Ty} {l : List (ap E.C e)} {cs : List Value} (h : aE E w S (.slice e) l cs) : ∃ a c, cs = [.slice a l.length c] := by
 rcases h.inv_slice with ⟨v, hv, rfl, h2⟩ | ⟨b, off, cap, css, rfl, _⟩
 ·have h2 : l = [] := h2
  obtain ⟨a, rfl⟩ := hv.form
  subst h2; exact ⟨a, 0, rfl⟩
 ·exact ⟨_, _, rfl⟩
theorem wj (hp : dW E w S H ρ Fr) {i : Nat} {t : Ty} {l : List (ap E.C t)} {fz : Bool} (ho : H[i]? = some (.row t l fz)) {v : Value} (hv : ia E H ρ Fr i v) :
  ∃ a c, v = .slice a l.length c := by
 have h1 := hv.2 _ _ _ ho
 have h2 := hp.obs i _ ho
 unfold dw at h2
 rcases h2 with ⟨h3, h4⟩ | ⟨q, _, _, _, h3, _⟩
 ·rw [h4] at h1
  obtain ⟨a, h1⟩ := ik.form h1
  exact ⟨a, 0, by rw [h1, h3]; rfl⟩
 ·rw [h3] at h1
  obtain ⟨cap, rfl, _⟩ := h1
  exact ⟨_, _, rfl⟩
theorem jg (hT : eP P E) {X ty : TypeId} {e : Ty} (hX : E.ty X = some (.slice e)) (a : Option Addr) (n c : Nat) (w : World) : (Builtin.len_ #[X] ty #[.slice a n c]).run P w = .ok (.int .i64 n) w := by
 obtain ⟨D, u1, u2⟩ := hT.und X _ hX
 cases D <;> first | exact u2.elim | skip
 simp [Builtin.len_, run_underlying u1, goInt]
theorem kB (hT : eP P E) {X : TypeId} {e : Ty} (hX : E.ty X = some (.slice e)) {k : IntKind} {b off n c : Nat} {i : Int} (h0 : 0 ≤ i) (h1 : i < (n : Int)) :
  (Instr.indexAt X (.slice (some (at_ b off)) n c) (.int k i)).run P w = .ok (.pointer (some (at_ b (off + i.toNat * szT E e)))) w := by
 obtain ⟨D, u1, u2⟩ := hT.und X _ hX
 cases D <;> first | exact u2.elim | skip
 simp [Instr.indexAt, asIntOf, run_underlying u1, h0, h1, bW hT u2, jJ]
theorem mv (hT : eP P E) {X : TypeId} {e : Ty} {n : Nat} (hX : E.ty X = some (.arr n e)) {k : IntKind} {b off : Nat} {i : Int} (h0 : 0 ≤ i) (h1 : i < (n : Int)) :
  (Instr.indexAt X (.pointer (some (at_ b off))) (.int k i)).run P w = .ok (.pointer (some (at_ b (off + i.toNat * szT E e)))) w := by
 obtain ⟨D, u1, u2⟩ := hT.und X _ hX
 cases D <;> first | exact u2.elim | skip
 obtain ⟨rfl, u2⟩ := u2
 simp [Instr.indexAt, Instr.sureAddr, asIntOf, run_underlying u1, h0, h1, bW hT u2, jJ]
theorem idx_some {α : Type} {l : List α} {i : Int} {y : α} (h : aB l i = some y) : 0 ≤ i ∧ i < (l.length : Int) ∧ l[i.toNat]? = some y := by
 unfold aB at h
 by_cases h0 : 0 ≤ i
 ·simp only [h0, decide_true, cond_true, nth] at h
  have := (List.getElem?_eq_some_iff.1 h).1
  exact ⟨h0, by omega, h⟩
 ·simp [h0] at h
theorem iU : ∀ (p q : List Nat) (t : Ty) {o : Nat} {t' : Ty}, fM E p t = some (o, t') → fM E (p ++ q) t = (fM E q t').map fun x => (o + x.1, x.2)
 | [], q, t, o, t', h => by
  obtain ⟨rfl, rfl⟩ : 0 = o ∧ t = t' := by simpa [fM] using h
  cases hq : fM E q t <;> simp [hq]
 | i :: p, q, .nm n, o, t', h => by
  simp only [fM] at h
  cases hf : ie E (E.fld n) i with
  | none => rw [hf] at h; cases h
  | some x =>
   obtain ⟨o1, t1⟩ := x
   rw [hf] at h
   simp only at h
   cases hp : fM E p t1 with
   | none => rw [hp] at h; cases h
   | some y =>
    obtain ⟨o2, t2⟩ := y
    rw [hp] at h
    obtain ⟨rfl, rfl⟩ : o1 + o2 = o ∧ t2 = t' := by simpa using h
    have := iU p q t1 hp
    simp only [List.cons_append, fM, hf, this]
    cases fM E q t2 <;> simp [Nat.add_assoc]
 | i :: p, q, .arr n e, o, t', h => by
  simp only [fM] at h
  cases hp : fM E p e with
  | none => rw [hp] at h; cases h
  | some y =>
   obtain ⟨o2, t2⟩ := y
   rw [hp] at h
   obtain ⟨rfl, rfl⟩ : i * szT E e + o2 = o ∧ t2 = t' := by simpa using h
   have := iU p q e hp
   simp only [List.cons_append, fM, this]
   cases fM E q t2 <;> simp [Nat.add_assoc]
 | _ :: _, _, .int _, _, _, h => by cases h
 | _ :: _, _, .bool, _, _, h => by cases h
 | _ :: _, _, .str, _, _, h => by cases h
 | _ :: _, _, .slice _, _, _, h => by cases h
 | _ :: _, _, .ptr _, _, _, h => by cases h
 | _ :: _, _, .unit, _, _, h => by cases h
 | _ :: _, _, .pair _ _, _, _, h => by cases h
 | _ :: _, _, .sum _ _, _, _, h => by cases h
 | _ :: _, _, .fn _ _, _, _, h => by cases h
theorem dx.nth {fs : List Field} {t : Ty} {off i : Nat} (h : dx E fs t off) {o : Nat} {t' : Ty} (ho : ie E t i = some (o, t')) : ∃ f, fs[i]? = some f ∧ f.offset = off + o ∧ E.ty f.type = some t' ∧ szT E t' ≠ 0 := by
 induction fs generalizing t off i o with
 | nil => cases t <;> first | exact h.elim | (cases i <;> cases ho)
 | cons f fs ih =>
  cases t <;> first | exact h.elim | skip
  obtain ⟨h1, h2, h3, _, h4⟩ := h
  cases i with
  | zero =>
   obtain ⟨rfl, rfl⟩ : 0 = o ∧ _ = t' := by simpa [ie] using ho
   exact ⟨f, rfl, by simpa using h1, h2, h3⟩
  | succ i =>
   simp only [ie] at ho
   split at ho
   ·rename_i o1 t1 e1
    obtain ⟨rfl, rfl⟩ : _ = o ∧ t1 = t' := by simpa using ho
    obtain ⟨g, g1, g2, g3, g4⟩ := ih h4 e1
    exact ⟨g, by simpa using g1, by omega, g3, g4⟩
   ·cases ho
theorem nv (hT : eP P E) {X : TypeId} {n : Nat} (hX : E.ty X = some (.nm n)) {i o : Nat} {t' : Ty} (ho : ie E (E.fld n) i = some (o, t')) {b off : Nat} :
  (Instr.fieldAt X (.pointer (some (at_ b off))) i).run P w = .ok (.pointer (some (at_ b (off + o)))) w := by
 obtain ⟨D, u1, u2⟩ := hT.und X _ hX
 cases D <;> first | exact u2.elim | skip
 rename_i fs
 obtain ⟨f, f1, f2, f3, f4⟩ := dx.nth u2 ho
 have f1' : fs[i]? = some f := by simpa using f1
 simp [Instr.fieldAt, run_underlying u1, f1', Instr.sureAddr, fieldPlace, bW hT f3, f4, jJ, f2]
theorem rO (hT : eP P E) {X : TypeId} {n : Nat} (hX : E.ty X = some (.nm n)) {i o : Nat} {t' : Ty} (ho : ie E (E.fld n) i = some (o, t')) {cs ds : List Value} (hl : ds.length = szT E t') (hs : jb ds cs o) :
  (Instr.field X (.agg cs.toArray) i).run P w = .ok (eJ (bm t') ds) w ∧ ∃ Y, E.ty Y = some t' := by
 obtain ⟨D, u1, u2⟩ := hT.und X _ hX
 cases D <;> first | exact u2.elim | skip
 rename_i fs
 obtain ⟨f, f1, f2, f3, f4⟩ := dx.nth u2 ho
 have f1' : fs[i]? = some f := by simpa using f1
 have := l8 hT f3 hl hs w
 refine ⟨?_, f.type, f3⟩
 simp only [Nat.zero_add] at f2
 simp [Instr.field, run_underlying u1, f1', asAgg, f2, this]
theorem t6 (hT : eP P E) (hp : dW E w S H ρ Fr) {X ty : TypeId} {a : AV E.C} {u : Value} (ha : aF P E w S H ρ Fr a u) (h : aj H (zA E (E.ty X) a) T = some r) :
  ak P E w S H ρ Fr (Builtin.len_ #[X] ty #[u]) r.1 := by
 unfold zA at h
 split at h
 ·rename_i e hX
  split at h
  ·unfold aF at ha; subst ha
   exact ak.rv h (jg hT hX none 0 0 w) (aX.2 rfl)
  ·obtain ⟨o, ho, h⟩ := bw h
   cases o <;> first | (cases h; done) | skip
   unfold aF at ha
   obtain ⟨a', c', rfl⟩ := wj hp ho ha
   exact ak.rv h (jg hT hX _ _ _ w) (aX.2 rfl)
  ·obtain ⟨o, ho, h⟩ := bw h
   cases o <;> first | (cases h; done) | skip
   unfold aF at ha
   obtain ⟨hlo, hv⟩ := ha.2 _ _ _ ho
   split at hv
   ·obtain ⟨hu, rfl⟩ := hv
    obtain ⟨a', rfl⟩ := hu.form
    refine ak.rv h (jg hT hX _ _ _ w) (aX.2 ?_)
    simp
   ·obtain ⟨cap, p, rfl, _⟩ := hv
    exact ak.rv h (jg hT hX _ _ _ w) (aX.2 rfl)
  ·split at h
   ·obtain ⟨cs, h1, rfl⟩ := (cF (by intro _ _ h; cases h)).1 ha
    obtain ⟨a', c', rfl⟩ := h1.slice_form
    exact ak.rv h (by simpa [eJ, bm] using jg hT hX a' _ c' w) (aX.2 rfl)
   ·cases h
  ·cases h
 ·rename_i hX
  split at h
  ·split at h
   ·obtain rfl := iv.1 ha
    obtain ⟨D, u1, u2⟩ := hT.und X _ hX
    cases D <;> first | exact u2.elim | skip
    exact ak.rv h (run_len_string w X ty _ u1) (aX.2 rfl)
   ·cases h
  ·cases h
 ·cases h
theorem gc {i : Nat} {p : List Nat} {t : Ty} {v : Value} : aF P E w S H ρ Fr (.adr i p t) v ↔ j0 E H ρ Fr i p t v := by unfold aF; exact Iff.rfl
theorem aT {C : Nat → Type} {α : Type} {H : List (Ob C)} {b : Bool} {m : HM C α} {T : List Nat} {r : α × List Nat} (h : aj H (cond b m .fail) T = some r) : b = true ∧ aj H m T = some r := by
 cases b
 ·cases h
 ·exact ⟨rfl, h⟩
theorem g8 {C : Nat → Type} {α : Type} {H : List (Ob C)} {t t' : Ty} {m : HM C α} {T : List Nat} {r : α × List Nat} (h : aj H (cond (t.beq t') m .fail) T = some r) : t = t' ∧ aj H m T = some r :=
 let ⟨h1, h2⟩ := aT h
 ⟨Ty.eq_of_beq h1, h2⟩
theorem j0.elem {i : Nat} {e : Ty} {l : List (ap E.C e)} {fz : Bool} (ho : H[i]? = some (.row e l fz)) (hf : ¬ Fr i) {q : Pl} (hq : ρ i = some q) {j : Nat} (hj : j < l.length) :
  j0 E H ρ Fr i [j] e (.pointer (some (at_ q.b ((q.p + j) * szT E e)))) := by
 refine ⟨hf, ⟨_, _, rfl⟩, fun t x fz' hh => ?_, fun t l' fz' hh => ?_⟩
 ·rw [ho] at hh; exact nomatch hh
 ·rw [ho] at hh
  cases hh
  exact ⟨q, j, [], 0, hq, rfl, hj, rfl, rfl⟩
theorem j0.part {i : Nat} {p : List Nat} {t : Ty} {b off : Nat} (h : j0 E H ρ Fr i p t (.pointer (some (at_ b off)))) {k : List Nat} {o : Nat} {t' : Ty} (ho : fM E k t = some (o, t')) :
  j0 E H ρ Fr i (p ++ k) t' (.pointer (some (at_ b (off + o)))) := by
 refine ⟨h.1, ⟨_, _, rfl⟩, fun t0 x fz hh => ?_, fun t0 l fz hh => ?_⟩
 ·obtain ⟨q, o1, h1, h2, h3⟩ := h.2.2.1 t0 x fz hh
  have e1 : b = q.b ∧ off = o1 := by simpa [at_] using h3
  refine ⟨q, o1 + o, h1, by rw [iU p k t0 h2, ho]; rfl, by rw [e1.1, e1.2]⟩
 ·obtain ⟨q, j, p', o1, h1, h2, h3, h4, h5⟩ := h.2.2.2 t0 l fz hh
  have e1 : b = q.b ∧ off = (q.p + j) * szT E t0 + o1 := by simpa [at_] using h5
  subst h2
  refine ⟨q, j, p' ++ k, o1 + o, h1, rfl, h3, by rw [iU p' k t0 h4, ho]; rfl, by rw [e1.1, e1.2, Nat.add_assoc]⟩
theorem cz (css : Nat → List Value) (n sz : Nat) (h : ∀ i, i < n → (css i).length = sz) : ((List.range n).flatMap css).length = n * sz := by
 induction n with
 | zero => simp
 | succ n ih => rw [List.range_succ, List.flatMap_append, List.length_append, ih fun i hi => h i (by omega)]; simp [h n (by omega), Nat.succ_mul]
theorem jb.arr (css : Nat → List Value) (n sz : Nat) (h : ∀ i, i < n → (css i).length = sz) {i : Nat} (hi : i < n) : jb (css i) ((List.range n).flatMap css) (i * sz) := by
 intro j c hc
 obtain ⟨m, hm⟩ : ∃ m, n = (i + 1) + m := ⟨n - (i + 1), by omega⟩
 have hsplit : List.range n = List.range i ++ (i :: (List.range m).map (i + 1 + ·)) := by rw [hm, List.range_add, List.range_succ, List.append_assoc]; rfl
 have hlen := cz css i sz fun k hk => h k (by omega)
 rw [hsplit, List.flatMap_append, List.flatMap_cons, List.getElem?_append_right (by rw [hlen]; omega), hlen, Nat.add_sub_cancel_left, List.getElem?_append_left (List.getElem?_eq_some_iff.1 hc).1]
 exact hc
theorem aE.arr_sub (hE : iC E) {n : Nat} {e : Ty} {l : List (ap E.C e)} {cs : List Value} (h : aE E w S (.arr n e) l cs) {i : Nat} {y : ap E.C e} (hy : l[i]? = some y) :
  ∃ ds, aE E w S e y ds ∧ jb ds cs (i * szT E e) := by
 obtain ⟨css, rfl, hl, hr⟩ := h.inv_arr
 have hl : List.length l = n := hl
 have hi : i < n := by have := (List.getElem?_eq_some_iff.1 hy).1; omega
 refine ⟨css i, hr i y hy, jb.arr css n (szT E e) (fun k hk => ?_) hi⟩
 exact (hr k _ (List.getElem?_eq_getElem (show k < List.length l by omega))).len hE
theorem lH (hT : eP P E) (hp : dW E w S H ρ Fr) {X : TypeId} {k : IntKind} {i : Int} {a : AV E.C} {u : Value} (ha : aF P E w S H ρ Fr a u) (h : aj H (kM E (E.ty X) a i) T = some r) :
  ak P E w S H ρ Fr (Instr.indexAt X u (.int k i)) r.1 := by
 unfold kM at h
 split at h
 ·rename_i e' hX
  split at h
  ·split at h
   ·rename_i e l
    replace h := g8 h
    obtain ⟨rfl, h⟩ := h
    obtain ⟨y, hy, h⟩ := dr h
    obtain ⟨h0, h1, h2⟩ := idx_some hy
    obtain ⟨cs, c1, rfl⟩ := (cF (by intro _ _ h; cases h)).1 ha
    rcases c1.inv_slice with ⟨_, _, _, c2⟩ | ⟨b, off, cap, css, rfl, hS, hc, hr, hm⟩
    ·rw [show l = [] from c2] at h2; simp at h2
    ·exact ak.rv h (kB hT hX h0 h1) ((cF (by intro _ _ h; cases h)).2 ⟨_, .ptr e y b (off + i.toNat * szT E e) (css i.toNat) hS (hr _ _ h2)
      (fun j c hc => hm _ _ _ (show i.toNat < List.length l by omega) hc), rfl⟩)
   ·cases h
  ·replace h := bw h
   obtain ⟨o, ho, h⟩ := h
   cases o with
   | dead => cases h
   | box => cases h
   | row e l fz =>
    replace h := g8 h
    obtain ⟨rfl, h⟩ := h
    obtain ⟨hg, h⟩ := bI h
    simp only [Bool.and_eq_true, decide_eq_true_eq] at hg
    unfold aF at ha
    have hv := ha.2 _ _ _ ho
    have hob := hp.obs _ _ ho
    unfold dw at hob
    rcases hob with ⟨hl, _⟩ | ⟨q, c, Ty', css, hq, _⟩
    ·rw [hl] at hg; simp at hg; omega
    ·rw [hq] at hv
     obtain ⟨cap, rfl, _⟩ := hv
     refine ak.rv h (kB hT hX hg.1 hg.2) (gc.2 ?_)
     have := j0.elem ho ha.1.1 hq (j := i.toNat) (by omega)
     rwa [Nat.add_mul] at this
  ·rename_i r' lo hi
   replace h := bw h
   obtain ⟨o, ho, h⟩ := h
   cases o with
   | dead => cases h
   | box => cases h
   | row e l fz =>
    replace h := g8 h
    obtain ⟨rfl, h⟩ := h
    obtain ⟨hg, h⟩ := bI h
    simp only [Bool.and_eq_true, decide_eq_true_eq] at hg
    obtain ⟨⟨hg1, hg2⟩, hg3⟩ := hg
    unfold aF at ha
    obtain ⟨hlo, hv⟩ := ha.2 _ _ _ ho
    split at hv
    ·obtain ⟨_, rfl⟩ := hv; simp at hg2; omega
    ·rename_i q hq
     obtain ⟨cap, p, rfl, k1, k2, k3, k4⟩ := hv
     have hp' := k4.resolve_left (by omega)
     subst hp'
     refine ak.rv h (kB hT hX hg1 hg2) (gc.2 ?_)
     have := j0.elem ho ha.1.1 hq (show lo + i.toNat < l.length by omega)
     rwa [← Nat.add_assoc, Nat.add_mul] at this
  ·cases h
 ·rename_i n e' hX
  split at h
  ·split at h
   ·rename_i m e l
    replace h := aT h
    obtain ⟨hb, h⟩ := h
    simp only [Bool.and_eq_true] at hb
    obtain rfl := Nat.eq_of_beq_eq_true hb.1
    obtain rfl := Ty.eq_of_beq hb.2
    obtain ⟨y, hy, h⟩ := dr h
    obtain ⟨h0, h1, h2⟩ := idx_some hy
    obtain ⟨cs, c1, rfl⟩ := (cF (by intro _ _ h; cases h)).1 ha
    obtain ⟨b, off, ds, rfl, hS, c2, hm⟩ := c1.inv_ptr
    have hl : List.length l = m := by obtain ⟨_, _, hl, _⟩ := c2.inv_arr; exact hl
    obtain ⟨es, e1, e2⟩ := c2.arr_sub hT.env h2
    rw [hl] at h1
    refine ak.rv h (mv hT hX h0 h1) ((cF (by intro _ _ h; cases h)).2 ⟨_, .ptr e y b (off + i.toNat * szT E e) es hS e1 (fun j c hc => ?_), rfl⟩)
    rw [Nat.add_assoc]
    exact hm _ c (e2 j c hc)
   ·cases h
  ·rename_i r' p t
   replace h := g8 h
   obtain ⟨rfl, h⟩ := h
   obtain ⟨hg, h⟩ := bI h
   simp only [Bool.and_eq_true, decide_eq_true_eq] at hg
   have ha := gc.1 ha
   obtain ⟨b, off, rfl⟩ := ha.2.1
   refine ak.rv h (mv hT hX hg.1 hg.2) (gc.2 (ha.part ?_))
   simp [fM]
  ·cases h
 ·cases h
theorem tR (hT : eP P E) {t : Ty} {x : ap E.C t} {i : Nat} {cs : List Value} {k : (t : Ty) → ap E.C t → M E} (hc : aE E w S t x cs) (h : aj H (ku E t x i k) T = some r) :
  ∃ t' y o ds, ie E t i = some (o, t') ∧ aE E w S t' y ds ∧ jb ds cs o ∧ aj H (k t' y) T = some r := kY hT.env hc h
theorem lS (hT : eP P E) {X : TypeId} {a : AV E.C} {f : Nat} {u : Value} (ha : aF P E w S H ρ Fr a u) (h : aj H (kQ E (E.ty X) a f) T = some r) :
  ak P E w S H ρ Fr (Instr.fieldAt X u f) r.1 := by
 unfold kQ at h
 split at h
 ·rename_i m hX
  split at h
  ·rename_i r' p t
   replace h := g8 h
   obtain ⟨rfl, h⟩ := h
   have ha := gc.1 ha
   obtain ⟨b, off, rfl⟩ := ha.2.1
   split at h
   ·rename_i o t' ho
    refine ak.rv h (nv hT hX ho) (gc.2 (ha.part ?_))
    simp [fM, ho]
   ·cases h
  ·split at h
   ·rename_i n y
    replace h := aT h
    obtain ⟨hb, h⟩ := h
    obtain rfl := Nat.eq_of_beq_eq_true hb
    obtain ⟨cs, c1, rfl⟩ := (cF (by intro _ _ h; cases h)).1 ha
    obtain ⟨b, off, ds, rfl, hS, c2, hm⟩ := c1.inv_ptr
    obtain ⟨t', z, o, es, e1, e2, e3, h⟩ := tR hT c2.inv_nm h
    refine ak.rv h (nv hT hX e1) ((cF (by intro _ _ h; cases h)).2 ⟨_, .ptr t' z b (off + o) es hS e2 (fun j c hc => ?_), rfl⟩)
    rw [Nat.add_assoc]
    exact hm _ c (e3 j c hc)
   ·cases h
  ·cases h
 ·cases h
theorem pV (hT : eP P E) {X : TypeId} {a : AV E.C} {f : Nat} {u : Value} (ha : aF P E w S H ρ Fr a u) (h : aj H (sc E (E.ty X) a f) T = some r) :
  ak P E w S H ρ Fr (Instr.field X u f) r.1 := by
 unfold sc at h
 split at h
 ·rename_i m hX
  split at h
  ·rename_i n fs
   replace h := aT h
   obtain ⟨hb, h⟩ := h
   obtain rfl := Nat.eq_of_beq_eq_true hb
   unfold aF at ha
   obtain ⟨cs, c1, rfl⟩ := ha
   simp only [fW] at h
   split at h
   ·rename_i v hv
    obtain ⟨o, t', ds, e1, e2, e3, e4⟩ := dY.nth hT.env c1 hv
    obtain ⟨h1, Y, hY⟩ := rO (w := w) hT hX e1 (bc.len hT.env e2 e3) e4
    exact ak.rv h h1 (aF.ofC (hT.plain hY).2.2.1 e2 e3)
   ·cases h
  ·split at h
   ·rename_i n y
    replace h := aT h
    obtain ⟨hb, h⟩ := h
    obtain rfl := Nat.eq_of_beq_eq_true hb
    obtain ⟨cs, c1, rfl⟩ := (cF (by intro _ _ h; cases h)).1 ha
    obtain ⟨t', z, o, es, e1, e2, e3, h⟩ := tR hT c1.inv_nm h
    obtain ⟨h1, Y, hY⟩ := rO (w := w) hT hX e1 (e2.len hT.env) e3
    exact ak.rv h h1 ((cF (hT.plain hY).2.2.1).2 ⟨es, e2, rfl⟩)
   ·cases h
  ·cases h
 ·cases h
theorem v7 {s : ByteArray} {i : Int} {n : Int} (h : kv s i = some n) : 0 ≤ i ∧ ∃ b, s[i.toNat]? = some b ∧ n = (b.toNat : Int) := by
 unfold kv at h
 by_cases h0 : 0 ≤ i
 ·simp only [h0, decide_true, cond_true] at h
  refine ⟨h0, ?_⟩
  cases hb : s.data[i.toNat]? with
  | none => rw [hb] at h; cases h
  | some b =>
   rw [hb] at h
   have hlt : i.toNat < s.data.size := (Array.getElem?_eq_some_iff.1 hb).1
   have hlt' : i.toNat < s.size := hlt
   refine ⟨b, ?_, (Option.some.inj h).symm⟩
   rw [ByteArray.getElem?_lt' s _ hlt']
   have := (Array.getElem?_eq_some_iff.1 hb).2
   rw [← this]; rfl
 ·simp [h0] at h
theorem qb (hT : eP P E) {X : TypeId} {k : IntKind} {i : Int} {a : AV E.C} {u : Value} (ha : aF P E w S H ρ Fr a u) (h : aj H (t7 E (E.ty X) a i) T = some r) :
  ak P E w S H ρ Fr (Instr.index X u (.int k i)) r.1 := by
 unfold t7 at h
 split at h
 ·rename_i t hX
  split at h
  ·rename_i t' x
   replace h := g8 h
   obtain ⟨rfl, h⟩ := h
   obtain ⟨D, u1, u2⟩ := hT.und X _ hX
   split at h
   ·rename_i n e l
    cases D <;> first | exact u2.elim | skip
    obtain ⟨rfl, u2⟩ := u2
    obtain ⟨y, hy, h⟩ := dr h
    obtain ⟨h0, h1, h2⟩ := idx_some hy
    obtain ⟨cs, c1, rfl⟩ := (cF (by intro _ _ h; cases h)).1 ha
    have hl := c1.inv_arr
    obtain ⟨_, _, hl, _⟩ := hl
    have hl : List.length l = _ := hl
    obtain ⟨ds, d1, d2⟩ := c1.arr_sub hT.env h2
    rw [hl] at h1
    have := l8 hT u2 (d1.len hT.env) d2 w
    refine ak.rv h ?_ ((cF (hT.plain u2).2.2.1).2 ⟨ds, d1, rfl⟩)
    simp [Instr.index, asIntOf, run_underlying u1, eJ, bm, h0, h1, bW hT u2, this]
   ·rename_i s
    cases D <;> first | exact u2.elim | skip
    obtain ⟨y, hy, h⟩ := dr h
    obtain ⟨h0, b, h1, rfl⟩ := v7 hy
    obtain rfl := iv.1 ha
    refine ak.rv h ?_ (aX.2 rfl)
    have h1' : s[i.toNat]? = some b := h1
    simp [Instr.index, asIntOf, run_underlying u1, h0, h1']
   ·cases h
  ·cases h
 ·cases h
theorem zN {b off : Nat} {cs : List Value} {X : TypeId} {fr : Nat × Nat} (h : w.heap[b]? = some (.cells cs.toArray X fr)) : w.cell? (at_ b off) = cs[off]? := by
 rw [World.cell_of_heap h]; simp
theorem lL (hT : eP P E) {X : TypeId} {t : Ty} (hX : E.ty X = some t) {b off : Nat} {v : AV E.C} {cs : List Value} (ho : fL E v t = true) (hc : bc E w S H ρ Fr v cs)
  (hm : ∀ j c, cs[j]? = some c → w.cell? (at_ b (off + j)) = some c) {u : Value} (hu : u = .pointer (some (at_ b off))) (h : aj H (rv E v) T = some r) :
  ak P E w S H ρ Fr (Instr.loadAt X u) r.1 := by
 subst hu
 refine ak.rv h ?_ (aF.ofC (hT.plain hX).2.2.1 ho hc)
 simp only [Instr.loadAt, Instr.sureAddr, Sem.run_bind, Sem.run_pure, Result.andThen_ok]
 exact ms hT hX (bc.len hT.env ho hc) hm
theorem qx (hT : eP P E) (hp : dW E w S H ρ Fr) {X : TypeId} {a : AV E.C} {u : Value} (ha : aF P E w S H ρ Fr a u) (h : aj H (wv E (E.ty X) a) T = some r) :
  ak P E w S H ρ Fr (Instr.loadAt X u) r.1 := by
 unfold wv at h
 split at h
 ·cases h
 ·rename_i t hX
  split at h
  ·rename_i i p ta
   replace h := bw h
   obtain ⟨o, ho, h⟩ := h
   have ha := gc.1 ha
   have hob := hp.obs _ _ ho
   cases o with
   | dead => cases h
   | box bt v fz =>
    unfold dw at hob
    obtain ⟨q, Tb, cs, hq, hheap, hok, hav, _⟩ := hob
    obtain ⟨q', o', f1, f2, f3⟩ := ha.2.2.1 _ _ _ ho
    rw [hq] at f1; obtain rfl := Option.some.inj f1
    obtain ⟨v', t', o1, ds, e1, e2, e3, e4, h⟩ := fK hT.env hok hav h
    rw [e1] at f2; obtain ⟨rfl, rfl⟩ : o1 = o' ∧ t' = ta := by simpa using f2
    obtain ⟨hb, h⟩ := aT h
    exact lL hT hX hb e3 (fun j c hc => by rw [zN hheap]; exact e4 j c hc) f3 h
   | row e l fz =>
    cases p with
    | nil => cases h
    | cons j p =>
     obtain ⟨y, hy, h⟩ := dr h
     have hj : j < l.length := (List.getElem?_eq_some_iff.1 hy).1
     unfold dw at hob
     rcases hob with ⟨rfl, _⟩ | ⟨q, c, Tb, css, hq, hheap, h1, h2, h4, h5, hfz⟩
     ·simp at hj
     obtain ⟨q', j', p', o'', f1, f2, f3, f4, f5⟩ := ha.2.2.2 _ _ _ ho
     rw [hq] at f1; obtain rfl := Option.some.inj f1
     obtain ⟨rfl, rfl⟩ : j = j' ∧ p = p' := by simpa using f2
     obtain ⟨v', t', o1, ds, e1, e2, e3, e4, h⟩ := fK (v := .pv e y) (t := e) (cs := css j) (w := w) (S := S) (ρ := ρ) (Fr := Fr) hT.env (by simp [fL, Ty.beq_refl]) (by unfold bc; exact h4 j y hy) h
     rw [e1] at f4; obtain ⟨rfl, rfl⟩ : o1 = o'' ∧ t' = ta := by simpa using f4
     obtain ⟨hb, h⟩ := aT h
     refine lL hT hX hb e3 (fun k c hc => ?_) f5 h
     rw [World.cell_of_heap hheap, Nat.add_assoc]
     exact h5 j _ _ hj (e4 k c hc)
  ·split at h
   ·rename_i t' y
    replace h := g8 h
    obtain ⟨rfl, h⟩ := h
    obtain ⟨cs, c1, rfl⟩ := (cF (by intro _ _ h; cases h)).1 ha
    obtain ⟨b, off, ds, rfl, hS, c2, hm⟩ := c1.inv_ptr
    exact lL (v := .pv t' y) hT hX (by simp [fL, Ty.beq_refl]) (by unfold bc; exact c2) hm rfl h
   ·cases h
  ·cases h
theorem gg {k : IntKind} {i : Int} {y : Nat} {code : BoundsCode} (h0 : 0 ≤ i) (h1 : i ≤ (y : Int)) : (Instr.sliceBound (.int k i) y code).run P w = .ok i.toNat w := by
 simp [Instr.sliceBound, asIntOf, h0, h1]
def Ai (v : Option (AV E.C)) (i : Int) : Prop := match v with | some v => ∃ k, v = .pv (.int k) i | none => i = 0
def AE (v : Option (AV E.C)) (n i : Int) : Prop := match v with | some v => ∃ k, v = .pv (.int k) i | none => i = n
def qO (P : Program) (E : dD) (w : World) (S : Nat → Prop) (H : List (Ob E.C)) (ρ : Nat → Option Pl) (Fr : Nat → Prop) (v : Option (AV E.C)) (u : Option Value) : Prop :=
 match v, u with | some v, some u => aF P E w S H ρ Fr v u | none, none => True | _, _ => False
theorem qX {lo : Option (AV E.C)} {k : Int → M E} (h : aj H (match lo with | some v => jf E v fun _ n => k n | none => k 0) T = some r) : ∃ i, Ai lo i ∧ aj H (k i) T = some r := by
 cases lo with
 | none => exact ⟨0, rfl, h⟩
 | some v => obtain ⟨kk, n, rfl, h⟩ := gD h; exact ⟨n, ⟨kk, rfl⟩, h⟩
theorem mX {hi : Option (AV E.C)} {n : Int} {k : Int → M E} (h : aj H (match hi with | some v => jf E v fun _ n => k n | none => k n) T = some r) : ∃ i, AE hi n i ∧ aj H (k i) T = some r := by
 cases hi with
 | none => exact ⟨n, rfl, h⟩
 | some v => obtain ⟨kk, n, rfl, h⟩ := gD h; exact ⟨n, ⟨kk, rfl⟩, h⟩
theorem gO {lo hi : Option (AV E.C)} {ul uh : Option Value} {a b : Int} {isS : Bool} {len cap : Nat} (h1 : Ai lo a) (h2 : AE hi len b) (v1 : qO P E w S H ρ Fr lo ul) (v2 : qO P E w S H ρ Fr hi uh)
  (h0 : 0 ≤ a) (hab : a ≤ b) (hb : b ≤ (cap : Int)) : (Instr.sliceBounds isS len cap ul uh none).run P w = .ok (a.toNat, b.toNat, cap) w := by
 have hb0 : 0 ≤ b := Int.le_trans h0 hab
 have hbn : ((b.toNat : Nat) : Int) = b := Int.toNat_of_nonneg hb0
 cases lo with
 | none =>
  cases ul <;> first | exact v1.elim | skip
  simp only [Ai] at h1; subst h1
  cases hi with
  | none =>
   cases uh <;> first | exact v2.elim | skip
   simp only [AE] at h2; subst h2
   simp [Instr.sliceBounds]
  | some v =>
   cases uh <;> first | exact v2.elim | skip
   obtain ⟨k, rfl⟩ := h2
   replace v2 : aF P E w S H ρ Fr _ _ := v2
   obtain rfl := aX.1 v2
   simp [Instr.sliceBounds, gg hb0 hb]
 | some v =>
  cases ul <;> first | exact v1.elim | skip
  obtain ⟨k, rfl⟩ := h1
  replace v1 : aF P E w S H ρ Fr _ _ := v1
  obtain rfl := aX.1 v1
  cases hi with
  | none =>
   cases uh <;> first | exact v2.elim | skip
   simp only [AE] at h2; subst h2
   simp [Instr.sliceBounds, gg h0 hab]
  | some v =>
   cases uh <;> first | exact v2.elim | skip
   obtain ⟨k, rfl⟩ := h2
   replace v2 : aF P E w S H ρ Fr _ _ := v2
   obtain rfl := aX.1 v2
   simp [Instr.sliceBounds, gg hb0 hb, gg (y := b.toNat) h0 (by omega)]
theorem sQ {lo hi : Option (AV E.C)} {m : AV E.C} {ul uh : Option Value} {um : Value} {a b c : Int} {k3 : IntKind} {len cap : Nat} (h1 : Ai lo a) (h2 : AE hi len b) (h3 : m = .pv (.int k3) c) (v1 : qO P E w S H ρ Fr lo ul)
  (v2 : qO P E w S H ρ Fr hi uh) (v3 : aF P E w S H ρ Fr m um) (hh : hi.isSome = true) (h0 : 0 ≤ a) (hab : a ≤ b) (hb : b ≤ c) (hc : c ≤ (cap : Int)) :
  (Instr.sliceBounds true len cap ul uh (some um)).run P w = .ok (a.toNat, b.toNat, c.toNat) w := by
 have hb0 : 0 ≤ b := Int.le_trans h0 hab
 have hc0 : 0 ≤ c := Int.le_trans hb0 hb
 subst h3
 obtain rfl := aX.1 v3
 cases hi with
 | none => cases hh
 | some v =>
  cases uh <;> first | exact v2.elim | skip
  obtain ⟨k, rfl⟩ := h2
  replace v2 : aF P E w S H ρ Fr _ _ := v2
  obtain rfl := aX.1 v2
  cases lo with
  | none =>
   cases ul <;> first | exact v1.elim | skip
   simp only [Ai] at h1; subst h1
   simp [Instr.sliceBounds, gg hc0 hc, gg (y := c.toNat) hb0 (by omega)]
  | some v =>
   cases ul <;> first | exact v1.elim | skip
   obtain ⟨k, rfl⟩ := h1
   replace v1 : aF P E w S H ρ Fr _ _ := v1
   obtain rfl := aX.1 v1
   simp [Instr.sliceBounds, gg hc0 hc, gg (y := c.toNat) hb0 (by omega), gg (y := b.toNat) h0 (by omega)]
theorem m9 (hT : eP P E) {X : TypeId} {e : Ty} (hX : E.ty X = some (.slice e)) {ul uh um : Option Value} {b off len cap l h m : Nat}
  (hb : (Instr.sliceBounds true len cap ul uh um).run P w = .ok (l, h, m) w) :
  (Instr.sliceAt X (.slice (some (at_ b off)) len cap) ul uh um).run P w = .ok (.slice (some (at_ b (if m = l then off else off + l * szT E e))) (h - l) (m - l)) w := by
 obtain ⟨D, u1, u2⟩ := hT.und X _ hX
 cases D <;> first | exact u2.elim | skip
 rename_i Y
 have : (Instr.sliceAt X (.slice (some (at_ b off)) len cap) ul uh um) = (do
  match ← underlying X with
  | .array n elem =>
   let a ← Instr.sureAddr (.slice (some (at_ b off)) len cap)
   let (l, h, m) ← Instr.sliceBounds false n n ul uh um
   let size ← sizeOf elem
   pure (.slice (some (if m = l then a else a.add (l * size))) (h - l) (m - l))
  | _ => Instr.slice X (.slice (some (at_ b off)) len cap) ul uh um) := rfl
 rw [this, Sem.run_bind, run_underlying u1 w]
 simp only [Result.andThen_ok, Instr.slice, Sem.run_bind, run_underlying u1, hb, bW hT u2, Sem.run_pure]
 congr 2
 by_cases hm : m = l
 ·simp [hm]
 ·simp [hm, jJ]
theorem oK (hT : eP P E) {X : TypeId} {e : Ty} (hX : E.ty X = some (.slice e)) {ul uh um : Option Value} {len cap l h m : Nat}
  (hb : (Instr.sliceBounds true len cap ul uh um).run P w = .ok (l, h, m) w) :
  (Instr.sliceAt X (.slice none len cap) ul uh um).run P w = .ok (.slice none (h - l) (m - l)) w := by
 obtain ⟨D, u1, u2⟩ := hT.und X _ hX
 cases D <;> first | exact u2.elim | skip
 rename_i Y
 unfold Instr.sliceAt
 rw [Sem.run_bind, run_underlying u1 w]
 simp only [Result.andThen_ok, Instr.slice, Sem.run_bind, run_underlying u1, hb, bW hT u2, Sem.run_pure]
 congr 2
 split <;> rfl
theorem kS (hT : eP P E) {X : TypeId} {e : Ty} (hX : E.ty X = some (.slice e)) {u : Value} (hu : ik u) {ul uh um : Option Value} (hb : (Instr.sliceBounds true 0 0 ul uh um).run P w = .ok (0, 0, 0) w) :
  ∃ v, (Instr.sliceAt X u ul uh um).run P w = .ok v w ∧ ik v := by
 obtain ⟨a, rfl⟩ := hu
 cases a with
 | none => exact ⟨_, oK hT hX hb, _, rfl⟩
 | some a =>
  obtain ⟨D, u1, u2⟩ := hT.und X _ hX
  cases D <;> first | exact u2.elim | skip
  refine ⟨.slice (some a) 0 0, ?_, _, rfl⟩
  unfold Instr.sliceAt
  rw [Sem.run_bind, run_underlying u1 w]
  simp [Result.andThen_ok, Instr.slice, Sem.run_bind, run_underlying u1, hb, bW hT u2, Sem.run_pure]
theorem pK {α : Type} {l : List α} {lo hi i : Nat} {x : α} (h : (slc l lo hi)[i]? = some x) : l[lo + i]? = some x ∧ lo + i < hi := by
 simp only [slc, List.getElem?_drop] at h
 rw [List.getElem?_take] at h
 split at h
 ·exact ⟨h, by assumption⟩
 ·cases h
theorem aE.slc {e : Ty} {l : List (ap E.C e)} {b off cap : Nat} (h : aE E w S (.slice e) l [.slice (some (at_ b off)) l.length cap]) {lo hi m : Nat} (h1 : lo ≤ hi) (h2 : hi ≤ l.length) (h3 : hi ≤ m) (h4 : m ≤ cap) :
  aE E w S (.slice e) (slc l lo hi) [.slice (some (at_ b (if m = lo then off else off + lo * szT E e))) (hi - lo) (m - lo)] := by
 rcases h.inv_slice with ⟨v, hv, h5, h6⟩ | ⟨b', off', cap', css, h5, hS, hc, hr, hm⟩
 ·have h6 : l = [] := h6
  subst h6
  simp at h2
  subst h2
  obtain rfl : lo = 0 := by omega
  have e1 : Ev.slc ([] : List (ap E.C e)) 0 0 = [] := by simp [Ev.slc]
  rw [e1]
  have h5' : Value.slice (some (at_ b off)) 0 cap = v := by simpa using h5
  subst h5'
  have hc0 : cap = 0 := by
   obtain ⟨a', h⟩ := hv
   simp at h; exact h.2
  subst hc0
  obtain rfl : m = 0 := by omega
  exact .nils e _ ⟨_, rfl⟩
 ·have e1 : (b = b' ∧ off = off') ∧ cap = cap' := by simpa [at_] using h5
  obtain ⟨⟨rfl, rfl⟩, rfl⟩ := e1
  have hlen : (Ev.slc l lo hi).length = hi - lo := by simp [Ev.slc]; omega
  have := aE.slice (E := E) (w := w) (S := S) e (Ev.slc l lo hi) b (if m = lo then off else off + lo * szT E e) (m - lo) (fun j => css (lo + j)) hS (by rw [hlen]; omega)
   (fun j x hx => hr _ _ (pK hx).1)
   (fun j k c hj hk => by
    rw [hlen] at hj
    rw [if_neg (by omega)]
    have := hm (lo + j) k c (show lo + j < List.length l by omega) hk
    rwa [Nat.add_mul, ← Nat.add_assoc] at this)
  rwa [hlen] at this
theorem pP (hT : eP P E) (hp : dW E w S H ρ Fr) {X : TypeId} {a : AV E.C} {lo hi mx : Option (AV E.C)} {u : Value} {ul uh um : Option Value} (ha : aF P E w S H ρ Fr a u)
  (v1 : qO P E w S H ρ Fr lo ul) (v2 : qO P E w S H ρ Fr hi uh) (v3 : qO P E w S H ρ Fr mx um) (hmx : mx.isSome = true → hi.isSome = true) (h : aj H (tg E (E.ty X) a lo hi mx) T = some r) :
  ak P E w S H ρ Fr (Instr.sliceAt X u ul uh um) r.1 := by
 unfold tg at h
 dsimp only at h
 split at h
 ·rename_i hX
  split at h
  ·split at h
   ·rename_i s
    cases um <;> first | exact v3.elim | skip
    obtain ⟨i, h1, h⟩ := qX (k := fun l => match hi with | some v => jf E v fun _ n => .gd (decide (0 ≤ l) && decide (l ≤ n) && decide (n ≤ (s.size : Int))) (rv E (.pv .str (s.extract l.toNat n.toNat))) | none => .gd (decide (0 ≤ l) && decide (l ≤ (s.size : Int)) && decide ((s.size : Int) ≤ (s.size : Int))) (rv E (.pv .str (s.extract l.toNat (s.size : Int).toNat)))) h
    obtain ⟨j, h2, h⟩ := mX (k := fun n => .gd (decide (0 ≤ i) && decide (i ≤ n) && decide (n ≤ (s.size : Int))) (rv E (.pv .str (s.extract i.toNat n.toNat)))) h
    obtain ⟨hg, h⟩ := bI h
    simp only [Bool.and_eq_true, decide_eq_true_eq] at hg
    obtain rfl := iv.1 ha
    obtain ⟨D, u1, u2⟩ := hT.und X _ hX
    cases D <;> first | exact u2.elim | skip
    have hb := gO (isS := false) (cap := s.size) h1 h2 v1 v2 hg.1.1 hg.1.2 hg.2
    refine ak.rv h ?_ (iv.2 rfl)
    unfold Instr.sliceAt
    rw [Sem.run_bind, run_underlying u1 w]
    simp [Instr.slice, run_underlying u1, hb]
   ·cases h
  ·cases h
 ·rename_i e hX
  split at h
  ·split at h
   ·rename_i e' xs
    cases um <;> first | exact v3.elim | skip
    replace h := g8 h
    obtain ⟨rfl, h⟩ := h
    obtain ⟨i, h1, h⟩ := qX (k := fun l => match hi with | some v => jf E v fun _ n => .gd (decide (0 ≤ l) && decide (l ≤ n) && decide (n ≤ (List.length xs : Int))) (rv E (.pv (.slice e') (slc (α := ap E.C e') xs l.toNat n.toNat))) | none => .gd (decide (0 ≤ l) && decide (l ≤ (List.length xs : Int)) && decide ((List.length xs : Int) ≤ (List.length xs : Int))) (rv E (.pv (.slice e') (slc (α := ap E.C e') xs l.toNat (List.length xs : Int).toNat)))) h
    obtain ⟨j, h2, h⟩ := mX (k := fun n => .gd (decide (0 ≤ i) && decide (i ≤ n) && decide (n ≤ (List.length xs : Int))) (rv E (.pv (.slice e') (slc (α := ap E.C e') xs i.toNat n.toNat)))) h
    obtain ⟨hg, h⟩ := bI h
    simp only [Bool.and_eq_true, decide_eq_true_eq] at hg
    obtain ⟨cs, c1, rfl⟩ := (cF (by intro _ _ h; cases h)).1 ha
    rcases c1.inv_slice with ⟨v, hv, rfl, c2⟩ | ⟨b, off, cap, css, rfl, hS, hc, _⟩
    ·have c2 : xs = [] := c2
     subst c2
     simp at hg
     have hb := gO (isS := true) (cap := 0) h1 h2 v1 v2 hg.1.1 hg.1.2 hg.2
     have hij : i = 0 ∧ j = 0 := by omega
     obtain ⟨rfl, rfl⟩ := hij
     obtain ⟨v', s1, s2⟩ := kS hT hX hv hb
     exact ak.rv h s1 ((cF (by intro _ _ h; cases h)).2 ⟨_, .nils e' v' s2, rfl⟩)
    ·have hc : List.length xs ≤ cap := hc
     have hb := gO (isS := true) (cap := cap) h1 h2 v1 v2 hg.1.1 hg.1.2 (by omega)
     refine ak.rv h (m9 hT hX hb) ((cF (by intro _ _ h; cases h)).2 ⟨_, aE.slc c1 (by omega) (show j.toNat ≤ List.length xs by omega) (show j.toNat ≤ cap by omega) (Nat.le_refl cap), rfl⟩)
   ·cases h
  ·split at h
   ·cases um <;> first | exact v3.elim | skip
    obtain ⟨i, h1, h⟩ := qX (k := fun l => match hi with | some v => jf E v fun _ n => .gd ((l == 0) && (n == 0)) (rv E .nils) | none => .gd ((l == 0) && ((0 : Int) == 0)) (rv E .nils)) h
    obtain ⟨j, h2, h⟩ := mX (k := fun n => .gd ((i == 0) && (n == 0)) (rv E .nils)) h
    obtain ⟨hg, h⟩ := bI h
    simp at hg
    obtain ⟨rfl, rfl⟩ := hg
    unfold aF at ha
    subst ha
    have hb := gO (P := P) (w := w) (isS := true) (len := 0) (cap := 0) h1 h2 v1 v2 (by omega) (by omega) (by omega)
    exact ak.rv h (oK hT hX hb) (by unfold aF; rfl)
   ·cases h
  ·rename_i r'
   replace h := bw h
   obtain ⟨o, ho, h⟩ := h
   cases o with
   | dead => cases h
   | box => cases h
   | row e' l fz =>
    replace h := g8 h
    obtain ⟨rfl, h⟩ := h
    replace h := qX h
    obtain ⟨i, h1, h⟩ := h
    replace h := mX h
    obtain ⟨j, h2, h⟩ := h
    replace h := bI h
    obtain ⟨hg, h⟩ := h
    simp only [Bool.and_eq_true, decide_eq_true_eq] at hg
    obtain ⟨⟨hg1, hg2⟩, hg3⟩ := hg
    unfold aF at ha
    have hv := ha.2 _ _ _ ho
    have hob := hp.obs _ _ ho
    have fin : ∀ (cap m : Nat), (∀ q, ρ r' = some q → cap ≤ q.cp) → (ρ r' = none → cap = 0 ∧ l.length = 0) → l.length ≤ cap → j.toNat ≤ m → m ≤ cap → (Instr.sliceBounds true l.length cap ul uh um).run P w = .ok (i.toNat, j.toNat, m) w →
      (match ρ r' with | none => ik u | some q => u = .slice (some (at_ q.b (q.p * szT E e'))) l.length cap) → ∀ T, aj H (rv E (.sub r' i.toNat j.toNat)) T = some r → ak P E w S H ρ Fr (Instr.sliceAt X u ul uh um) r.1 := by
     intro cap m hcq hcn hlc hjm hmc hb hu T h
     cases hρ : ρ r' with
     | none =>
      rw [hρ] at hu; simp only at hu
      obtain ⟨rfl, hl0⟩ := hcn hρ
      rw [hl0] at hb
      have hj0 : j.toNat = 0 := by omega
      have hi0 : i.toNat = 0 := by omega
      rw [hi0, hj0] at hb
      obtain rfl : m = 0 := by omega
      obtain ⟨v', s1, s2⟩ := kS hT hX hu hb
      refine ak.rv h s1 (by
       unfold aF
       obtain ⟨av, rfl⟩ := s2.form
       refine ⟨⟨ha.1.1, _, _, _, rfl⟩, fun t l' fz' hh => ⟨by omega, ?_⟩⟩
       rw [hρ]
       exact ⟨s2, hj0⟩)
     | some q =>
      rw [hρ] at hu; simp only at hu; subst hu
      have := hcq q hρ
      refine ak.rv h (m9 hT hX hb) (by
       unfold aF
       refine ⟨⟨ha.1.1, _, _, _, rfl⟩, fun t l' fz' hh => ⟨by omega, ?_⟩⟩
       rw [ho] at hh
       cases hh
       rw [hρ]
       refine ⟨m - i.toNat, if m = i.toNat then q.p else q.p + i.toNat, ?_, by omega, by omega, by split <;> omega, ?_⟩
       ·congr 3; split <;> simp [Nat.add_mul]
       ·split <;> omega)
    have hvv : ∃ cap, (∀ q, ρ r' = some q → cap ≤ q.cp) ∧ (ρ r' = none → cap = 0 ∧ l.length = 0) ∧ l.length ≤ cap ∧
      (match ρ r' with | none => ik u | some q => u = .slice (some (at_ q.b (q.p * szT E e'))) l.length cap) := by
     cases hρ : ρ r' with
     | none =>
      rw [hρ] at hv
      unfold dw at hob
      rcases hob with ⟨hl, _⟩ | ⟨q, _, _, _, hq, _⟩
      ·exact ⟨0, by simp, by simp [hl], by simp [hl], hv⟩
      ·rw [hρ] at hq; cases hq
     | some q =>
      rw [hρ] at hv
      obtain ⟨cap, e1, e2, e3⟩ := hv
      exact ⟨cap, by simpa using e3, by simp, e2, e1⟩
    obtain ⟨cap, c1, c2, c3, c4⟩ := hvv
    split at h
    ·cases um <;> first | exact v3.elim | skip
     exact fin cap cap c1 c2 c3 (by omega) (Nat.le_refl _) (gO (isS := true) (cap := cap) h1 h2 v1 v2 hg1 hg2 (by omega)) c4 _ h
    ·rename_i m
     cases um <;> first | exact v3.elim | skip
     rename_i um
     obtain ⟨k3, c, rfl, h⟩ := gD h
     replace h := bI h
     obtain ⟨hm, h⟩ := h
     simp only [Bool.and_eq_true, decide_eq_true_eq] at hm
     exact fin cap c.toNat c1 c2 c3 (by omega) (by omega) (sQ h1 h2 rfl v1 v2 v3 (hmx rfl) hg1 hg2 hm.1 (by omega)) c4 _ h
  ·rename_i r' lo' hi'
   replace h := bw h
   obtain ⟨o, ho, h⟩ := h
   cases o with
   | dead => cases h
   | box => cases h
   | row e' l fz =>
    cases mx with
    | some m => cases h
    | none =>
     cases um <;> first | exact v3.elim | skip
     replace h := g8 h
     obtain ⟨rfl, h⟩ := h
     replace h := qX h
     obtain ⟨i, h1, h⟩ := h
     replace h := mX h
     obtain ⟨j, h2, h⟩ := h
     replace h := bI h
     obtain ⟨hg, h⟩ := h
     simp only [Bool.and_eq_true, decide_eq_true_eq] at hg
     obtain ⟨⟨hg1, hg2⟩, hg3⟩ := hg
     unfold aF at ha
     obtain ⟨hlo, hv⟩ := ha.2 _ _ _ ho
     cases hρ : ρ r' with
     | none =>
      rw [hρ] at hv
      obtain ⟨hu, rfl⟩ := hv
      obtain rfl : lo' = 0 := by omega
      simp at hg3 h2
      have hb := gO (P := P) (w := w) (isS := true) (len := 0) (cap := 0) h1 (by simpa using h2) v1 v2 hg1 hg2 (by omega)
      have hj0 : j.toNat = 0 := by omega
      have hi0 : i.toNat = 0 := by omega
      rw [hi0, hj0] at hb
      obtain ⟨v', s1, s2⟩ := kS hT hX hu hb
      refine ak.rv h s1 (by
       unfold aF
       obtain ⟨av, rfl⟩ := s2.form
       refine ⟨⟨ha.1.1, _, _, _, rfl⟩, fun t l' fz' hh => ⟨by omega, ?_⟩⟩
       rw [hρ]
       exact ⟨s2, by omega⟩)
     | some q =>
      rw [hρ] at hv
      obtain ⟨cap, p, rfl, k1, k2, k3, k4⟩ := hv
      have hb := gO (P := P) (w := w) (isS := true) (cap := cap) h1 h2 v1 v2 hg1 hg2 (by omega)
      refine ak.rv h (m9 hT hX hb) (by
       unfold aF
       refine ⟨⟨ha.1.1, _, _, _, rfl⟩, fun t l' fz' hh => ⟨by omega, ?_⟩⟩
       rw [ho] at hh
       cases hh
       rw [hρ]
       refine ⟨cap - i.toNat, if cap = i.toNat then p else p + i.toNat, ?_, by omega, by omega, by split <;> omega, ?_⟩
       ·have e1 : lo' + j.toNat - (lo' + i.toNat) = j.toNat - i.toNat := by omega
        rw [e1]
        congr 3; split <;> simp [Nat.add_mul]
       ·split
        ·omega
        ·rcases k4 with k4 | k4 <;> omega)
  ·cases h
 ·cases h
end
end Go.Ev
end
