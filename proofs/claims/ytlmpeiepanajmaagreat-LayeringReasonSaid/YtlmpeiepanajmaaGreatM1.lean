import Derived.Test.YtlmpeiepanajmaaGreatM0
set_option linter.all false
section
namespace Go.Ev
def wr (cs : List Value) (o : Nat) (ds : List Value) : List Value := cs.take o ++ ds ++ cs.drop (o + ds.length)
theorem kT {cs ds : List Value} {o : Nat} (h : o + ds.length ≤ cs.length) : (wr cs o ds).length = cs.length := by simp [wr]; omega
theorem gC {cs ds : List Value} {o : Nat} (h : o + ds.length ≤ cs.length) (i : Nat) : (wr cs o ds)[i]? = if o ≤ i ∧ i < o + ds.length then ds[i - o]? else cs[i]? := by
 unfold wr
 have h1 : (List.take o cs).length = o := by simp; omega
 rw [List.append_assoc]
 by_cases hi : i < o
 ·rw [List.getElem?_append_left (by omega), List.getElem?_take, if_pos hi, if_neg (by omega)]
 ·rw [List.getElem?_append_right (by omega), h1]
  by_cases hj : i < o + ds.length
  ·rw [List.getElem?_append_left (by omega), if_pos ⟨by omega, hj⟩]
  ·rw [List.getElem?_append_right (by omega), List.getElem?_drop, if_neg (by omega)]
   congr 1; omega
theorem tx {cs : List Value} {o : Nat} : wr cs o [] = cs := by simp [wr]
theorem sg {cs ds : List Value} (h : ds.length = cs.length) : wr cs 0 ds = ds := by simp [wr, h]
theorem uj {a b ds : List Value} {o : Nat} (h : o + ds.length ≤ a.length) : wr (a ++ b) o ds = wr a o ds ++ b := by
 have hl := kT h
 refine List.ext_getElem? fun i => ?_
 rw [gC (by simp; omega)]
 by_cases hi : i < a.length
 ·rw [List.getElem?_append_left (l₁ := a) hi, List.getElem?_append_left (l₁ := wr a o ds) (by omega), gC h]
 ·rw [List.getElem?_append_right (l₁ := wr a o ds) (by omega), hl, if_neg (by omega), List.getElem?_append_right (l₁ := a) (by omega)]
theorem rW {a b ds : List Value} {o : Nat} (h : o + ds.length ≤ b.length) : wr (a ++ b) (a.length + o) ds = a ++ wr b o ds := by
 refine List.ext_getElem? fun i => ?_
 rw [gC (by simp; omega)]
 by_cases hi : i < a.length
 ·rw [if_neg (by omega), List.getElem?_append_left hi, List.getElem?_append_left hi]
 ·rw [List.getElem?_append_right (by omega), List.getElem?_append_right (by omega), gC h]
  by_cases hj : o ≤ i - a.length ∧ i - a.length < o + ds.length
  ·rw [if_pos hj, if_pos (by omega)]; congr 1; omega
  ·rw [if_neg hj, if_neg (by omega)]
theorem yS {cs ds es : List Value} {o o' : Nat} (h : o + ds.length ≤ cs.length) (h' : o' + es.length ≤ ds.length) (he : ∀ j c, ds[j]? = some c → cs[o + j]? = some c) :
  wr cs (o + o') es = wr cs o (wr ds o' es) := by
 have hl := kT h'
 refine List.ext_getElem? fun i => ?_
 rw [gC (by omega), gC (by omega), hl]
 by_cases hi : o ≤ i ∧ i < o + ds.length
 ·rw [if_pos hi, gC h']
  by_cases hj : o' ≤ i - o ∧ i - o < o' + es.length
  ·rw [if_pos hj, if_pos (by omega)]; congr 1; omega
  ·rw [if_neg hj, if_neg (by omega)]
   have := he (i - o) ds[i - o] (List.getElem?_eq_getElem (by omega))
   rw [show o + (i - o) = i by omega] at this
   rw [this, List.getElem?_eq_getElem]
 ·rw [if_neg hi, if_neg (by omega)]
section
variable {P : Program} {E : dD} {w : World} {S : Nat → Prop} {H : List (Ob E.C)} {ρ : Nat → Option Pl} {Fr : Nat → Prop} {F : List (Nat × cw E.C)}
theorem fG (cs : List Value) (n : Nat) : ((List.range n).flatMap fun _ => cs) = (List.replicate n cs).flatten := by
 induction n with
 | zero => rfl
 | succ n ih => rw [List.range_succ, List.flatMap_append, ih, List.replicate_succ']; simp
theorem dv : ∀ (d : Nat) (t : Ty) (z : ap E.C t), iC E → eQ E d t = some z → ∃ cs, zc E d t = some cs ∧ ∀ w S, aE E w S t z cs
 | d, .int k, z, _, h => by
  unfold eQ at h
  obtain rfl := Option.some.inj h
  exact ⟨_, by cases d <;> rfl, fun w S => .int k 0⟩
 | d, .bool, z, _, h => by
  unfold eQ at h
  obtain rfl := Option.some.inj h
  exact ⟨_, by cases d <;> rfl, fun w S => .bool false⟩
 | d, .str, z, _, h => by
  unfold eQ at h
  obtain rfl := Option.some.inj h
  exact ⟨_, by cases d <;> rfl, fun w S => .str _⟩
 | d, .slice e, z, _, h => by
  unfold eQ at h
  obtain rfl := Option.some.inj h
  exact ⟨_, by cases d <;> rfl, fun w S => .nils e _ ⟨_, rfl⟩⟩
 | d, .unit, z, _, h => ⟨[], by cases d <;> rfl, fun w S => .unit z⟩
 | d + 1, .pair a b, z, hE, h => by
  unfold eQ at h
  split at h
  ·rename_i x y hx hy
   obtain rfl := Option.some.inj h
   obtain ⟨cs, c1, c2⟩ := dv d a x hE hx
   obtain ⟨ds, d1, d2⟩ := dv d b y hE hy
   exact ⟨cs ++ ds, by simp [zc, c1, d1], fun w S => .pair a b (x, y) cs ds (c2 w S) (d2 w S)⟩
  ·cases h
 | d + 1, .nm n, z, hE, h => by
  unfold eQ at h
  split at h
  ·rename_i x hx
   obtain rfl := Option.some.inj h
   obtain ⟨cs, c1, c2⟩ := dv d _ x hE hx
   exact ⟨cs, by simp [zc, c1], fun w S => .nm n _ cs (by rw [hE.new]; exact c2 w S)⟩
  ·cases h
 | d + 1, .arr n e, z, hE, h => by
  unfold eQ at h
  split at h
  ·rename_i x hx
   obtain rfl := Option.some.inj h
   obtain ⟨cs, c1, c2⟩ := dv d _ x hE hx
   refine ⟨(List.replicate n cs).flatten, by simp [zc, c1], fun w S => ?_⟩
   rw [← fG]
   refine .arr n e (List.replicate n x) (fun _ => cs) (by simp) fun i y hy => ?_
   rw [List.getElem?_replicate] at hy
   split at hy
   ·obtain rfl := Option.some.inj hy; exact c2 w S
   ·cases hy
  ·cases h
 | 0, .pair _ _, _, _, h => by cases h
 | 0, .nm _, _, _, h => by cases h
 | 0, .arr _ _, _, _, h => by cases h
 | 0, .ptr _, _, _, h => by cases h
 | _ + 1, .ptr _, _, _, h => by cases h
 | 0, .sum _ _, _, _, h => by cases h
 | _ + 1, .sum _ _, _, _, h => by cases h
 | 0, .fn _ _, _, _, h => by cases h
 | _ + 1, .fn _ _, _, _, h => by cases h
theorem fO : ∀ (d : Nat) (t : Ty), ux E d t = true → ∃ z, eQ E d t = some z
 | 0, t, h => by cases t <;> first | (cases h; done) | exact ⟨_, rfl⟩
 | d + 1, t, h => by
  cases t <;> first | (cases h; done) | skip
  case pair a b =>
   simp only [ux, Bool.and_eq_true] at h
   obtain ⟨x, hx⟩ := fO d a h.1
   obtain ⟨y, hy⟩ := fO d b h.2
   exact ⟨(x, y), by simp [eQ, hx, hy]⟩
  case nm n =>
   obtain ⟨x, hx⟩ := fO d _ h
   exact ⟨E.new n x, by simp [eQ, hx]⟩
  case arr n e =>
   obtain ⟨x, hx⟩ := fO d _ h
   exact ⟨List.replicate n x, by simp [eQ, hx]⟩
  all_goals exact ⟨_, rfl⟩
theorem oI (hT : eP P E) : ∀ (d : Nat),
  (∀ T t, E.ty T = some t → ux E d t = true → ∃ z cs, iH E d t = [z] ∧ zc E d t = some cs ∧ fL E z t = true ∧ ∀ w S H ρ Fr, bc E w S H ρ Fr z cs) ∧
  (∀ fs t off, dx E fs t off → ux E d t = true → ∃ cs, zc E d t = some cs ∧ ∀ w S H ρ Fr, dY E w S H ρ Fr (iH E d t) t cs) := by
 have base : ∀ d T t, E.ty T = some t → ux E d t = true → (∀ n, t ≠ .nm n) → (∀ n e, t ≠ .arr n e) → ∃ z cs, iH E d t = [z] ∧ zc E d t = some cs ∧ fL E z t = true ∧ ∀ w S H ρ Fr, bc E w S H ρ Fr z cs := by
  intro d T t hty hz h1 h2
  obtain ⟨p1, p2, -, -⟩ := hT.plain hty
  cases t <;> first | (exact (h1 _ rfl).elim) | (exact (h2 _ _ rfl).elim) | (exact (p1 rfl).elim) | (exact (p2 _ _ rfl).elim) | (cases d <;> cases hz; done) | skip
  case int k => exact ⟨.pv (.int k) (0 : Int), [.int k 0], by cases d <;> rfl, by cases d <;> rfl, by simp [fL, Ty.beq_refl], fun w S H ρ Fr => by unfold bc; exact .int k 0⟩
  case bool => exact ⟨.pv .bool false, [.bool false], by cases d <;> rfl, by cases d <;> rfl, by simp [fL, Ty.beq_refl], fun w S H ρ Fr => by unfold bc; exact .bool false⟩
  case str => exact ⟨.pv .str (⟨#[]⟩ : ByteArray), [.string ⟨#[]⟩], by cases d <;> rfl, by cases d <;> rfl, by simp [fL, Ty.beq_refl], fun w S H ρ Fr => by unfold bc; exact .str _⟩
  case slice e => exact ⟨.nils, [.slice none 0 0], by cases d <;> rfl, by cases d <;> rfl, by simp [fL], fun w S H ρ Fr => by unfold bc; rfl⟩
 intro d
 induction d with
 | zero =>
  refine ⟨fun T t hty hz => base 0 T t hty hz (by rintro n rfl; cases hz) (by rintro n e rfl; cases hz), fun fs t off hf hz => ?_⟩
  cases t <;> first | (cases hz; done) | (cases fs <;> (exact hf.elim); done) | skip
  cases fs with
  | nil => exact ⟨[], rfl, fun w S H ρ Fr => by unfold iH dY; exact ⟨rfl, rfl⟩⟩
  | cons => exact hf.elim
 | succ d ih =>
  refine ⟨fun T t hty hz => ?_, fun fs t off hf hz => ?_⟩
  ·by_cases h1 : ∃ n, t = .nm n
   ·obtain ⟨n, rfl⟩ := h1
    obtain ⟨D, u1, u2⟩ := hT.und T _ hty
    cases D <;> first | exact u2.elim | skip
    obtain ⟨cs, c1, c2⟩ := ih.2 _ _ _ u2 hz
    exact ⟨.agg n (iH E d (E.fld n)), cs, rfl, by simp [zc, c1], by simp [fL], fun w S H ρ Fr => by unfold bc; exact c2 w S H ρ Fr⟩
   ·by_cases h2 : ∃ n e, t = .arr n e
    ·obtain ⟨n, e, rfl⟩ := h2
     obtain ⟨x, hx⟩ := fO d e hz
     obtain ⟨cs, c1, c2⟩ := dv (d + 1) (.arr n e) (List.replicate n x) hT.env (by simp [eQ, hx])
     exact ⟨.pv (.arr n e) (List.replicate n x), cs, by simp [iH, hx], c1, by simp [fL, Ty.beq_refl], fun w S H ρ Fr => by unfold bc; exact c2 w S⟩
    ·exact base (d + 1) T t hty hz (fun n e => h1 ⟨n, e⟩) (fun n e h => h2 ⟨n, e, h⟩)
  ·cases t <;> first | (cases hz; done) | (cases fs <;> (exact hf.elim); done) | skip
   case unit =>
    cases fs with
    | nil => exact ⟨[], rfl, fun w S H ρ Fr => by unfold iH dY; exact ⟨rfl, rfl⟩⟩
    | cons => exact hf.elim
   case pair a b =>
    cases fs with
    | nil => exact hf.elim
    | cons f fs =>
     obtain ⟨e1, e2, _, _, hf⟩ := hf
     simp only [ux, Bool.and_eq_true] at hz
     obtain ⟨z, cs, a1, a2, a3, a4⟩ := ih.1 _ _ e2 hz.1
     obtain ⟨ds, b1, b2⟩ := ih.2 _ _ _ hf hz.2
     refine ⟨cs ++ ds, by simp [zc, a2, b1], fun w S H ρ Fr => ?_⟩
     simp only [iH, a1]
     show dY E w S H ρ Fr (z :: iH E d b) _ _
     unfold dY
     exact ⟨a, b, cs, ds, rfl, rfl, a3, a4 w S H ρ Fr, b2 w S H ρ Fr⟩
theorem dY.put (hE : iC E) : ∀ {fs : List (AV E.C)} {t : Ty} {cs : List Value} {i o : Nat} {t' : Ty} {v : AV E.C} {ds : List Value}, dY E w S H ρ Fr fs t cs → ie E t i = some (o, t') → fL E v t' = true → bc E w S H ρ Fr v ds →
  dY E w S H ρ Fr (an fs i v) t (wr cs o ds) ∧ o + ds.length ≤ cs.length
 | [], t, cs, i, o, t', v, ds, h, ho, hok, hv => by
  unfold dY at h
  obtain ⟨rfl, rfl⟩ := h
  cases i <;> cases ho
 | u :: fs, t, cs, 0, o, t', v, ds, h, ho, hok, hv => by
  unfold dY at h
  obtain ⟨a, b, c, d, rfl, rfl, ho1, h1, h2⟩ := h
  obtain ⟨rfl, rfl⟩ : 0 = o ∧ a = t' := by simpa [ie] using ho
  have e1 := bc.len hE ho1 h1
  have e2 := bc.len hE hok hv
  refine ⟨?_, by simp; omega⟩
  rw [uj (by omega), sg (by omega)]
  show dY E w S H ρ Fr (v :: fs) _ _
  unfold dY
  exact ⟨a, b, ds, d, rfl, rfl, hok, hv, h2⟩
 | u :: fs, t, cs, i + 1, o, t', v, ds, h, ho, hok, hv => by
  unfold dY at h
  obtain ⟨a, b, c, d, rfl, rfl, ho1, h1, h2⟩ := h
  simp only [ie] at ho
  split at ho
  ·rename_i o1 t1 e1
   obtain ⟨rfl, rfl⟩ : szT E a + o1 = o ∧ t1 = t' := by simpa using ho
   obtain ⟨k1, k2⟩ := dY.put hE h2 e1 hok hv
   have e2 := bc.len hE ho1 h1
   refine ⟨?_, by simp; omega⟩
   rw [← e2, rW k2]
   show dY E w S H ρ Fr (u :: an fs i v) _ _
   unfold dY
   exact ⟨a, b, c, _, rfl, rfl, ho1, h1, k1⟩
  ·cases ho
theorem kh : ∀ {t : Ty} {x : ap E.C t} {cs : List Value}, tL t = true → aE E w S t x cs → dY E w S H ρ Fr (nr E t x) t cs
 | .unit, x, cs, _, h => by unfold nr dY; exact ⟨rfl, h.inv_unit⟩
 | .pair a b, x, cs, hc, h => by
  obtain ⟨c, d, rfl, h1, h2⟩ := h.inv_pair
  simp only [tL, Bool.and_eq_true] at hc
  unfold nr dY
  exact ⟨a, b, c, d, rfl, rfl, by simp [fL, Ty.beq_refl], by unfold bc; exact h1, kh hc.2 h2⟩
 | .int _, _, _, hc, _ => by cases hc
 | .bool, _, _, hc, _ => by cases hc
 | .str, _, _, hc, _ => by cases hc
 | .slice _, _, _, hc, _ => by cases hc
 | .arr _ _, _, _, hc, _ => by cases hc
 | .nm _, _, _, hc, _ => by cases hc
 | .ptr _, _, _, hc, _ => by cases hc
 | .sum _ _, _, _, hc, _ => by cases hc
 | .fn _ _, _, _, hc, _ => by cases hc
theorem jH (hE : iC E) {α : Type} {T0 : List Nat} {r : α × List Nat} : ∀ {p : List Nat} {v y : AV E.C} {t t' : Ty} {cs ds : List Value} {o : Nat} {k : AV E.C → HM E.C α},
  fL E v t = true → bc E w S H ρ Fr v cs → fM E p t = some (o, t') → fL E y t' = true → bc E w S H ρ Fr y ds → aj H (i7 E p v y k) T0 = some r →
  ∃ v', fL E v' t = true ∧ bc E w S H ρ Fr v' (wr cs o ds) ∧ o + ds.length ≤ cs.length ∧ aj H (k v') T0 = some r
 | [], v, y, t, t', cs, ds, o, k, hv, hc, ho, hy, hd, hr => by
  obtain ⟨rfl, rfl⟩ : 0 = o ∧ t = t' := by simpa [fM] using ho
  have e1 := bc.len hE hv hc
  have e2 := bc.len hE hy hd
  exact ⟨y, hy, by rw [sg (by omega)]; exact hd, by omega, by simpa [i7] using hr⟩
 | i :: p, .agg n fs, y, t, t', cs, ds, o, k, hv, hc, ho, hy, hd, hr => by
  cases t <;> simp [fL] at hv
  subst hv
  unfold bc at hc
  simp only [i7] at hr
  split at hr
  ·rename_i u hu
   obtain ⟨o1, t1, es, e1, e2, e3, e4⟩ := dY.nth hE hc hu
   simp only [fM, e1] at ho
   split at ho
   ·rename_i o2 t2 e5
    obtain ⟨rfl, rfl⟩ : o1 + o2 = o ∧ t2 = t' := by simpa using ho
    obtain ⟨u', f1, f2, f3, f4⟩ := jH hE e2 e3 e5 hy hd hr
    obtain ⟨g1, g2⟩ := dY.put hE hc e1 f1 f2
    rw [kT f3] at g2
    refine ⟨_, by simp [fL], ?_, by omega, f4⟩
    unfold bc
    rwa [yS g2 f3 e4]
   ·cases ho
  ·simp [aj] at hr
 | i :: p, .pv (.nm n) x, y, t, t', cs, ds, o, k, hv, hc, ho, hy, hd, hr => by
  obtain rfl := lN hv
  unfold bc at hc
  have hc := kh (H := H) (ρ := ρ) (Fr := Fr) (hE.chn n) hc.inv_nm
  simp only [i7] at hr
  split at hr
  ·rename_i u hu
   obtain ⟨o1, t1, es, e1, e2, e3, e4⟩ := dY.nth hE hc hu
   simp only [fM, e1] at ho
   split at ho
   ·rename_i o2 t2 e5
    obtain ⟨rfl, rfl⟩ : o1 + o2 = o ∧ t2 = t' := by simpa using ho
    obtain ⟨u', f1, f2, f3, f4⟩ := jH hE e2 e3 e5 hy hd hr
    obtain ⟨g1, g2⟩ := dY.put hE hc e1 f1 f2
    rw [kT f3] at g2
    refine ⟨_, by simp [fL], ?_, by omega, f4⟩
    unfold bc
    rwa [yS g2 f3 e4]
   ·cases ho
  ·simp [aj] at hr
 | _ :: _, .pv (.int _) _, _, _, _, _, _, _, _, _, _, _, _, _, hr => by simp [i7, aj] at hr
 | _ :: _, .pv .bool _, _, _, _, _, _, _, _, _, _, _, _, _, hr => by simp [i7, aj] at hr
 | _ :: _, .pv .str _, _, _, _, _, _, _, _, _, _, _, _, _, hr => by simp [i7, aj] at hr
 | _ :: _, .pv (.slice _) _, _, _, _, _, _, _, _, _, _, _, _, _, hr => by simp [i7, aj] at hr
 | _ :: _, .pv (.arr _ _) _, _, _, _, _, _, _, _, _, _, _, _, _, hr => by simp [i7, aj] at hr
 | _ :: _, .pv (.ptr _) _, _, _, _, _, _, _, _, _, _, _, _, _, hr => by simp [i7, aj] at hr
 | _ :: _, .pv .unit _, _, _, _, _, _, _, _, _, _, _, _, _, hr => by simp [i7, aj] at hr
 | _ :: _, .pv (.pair _ _) _, _, _, _, _, _, _, _, _, _, _, _, _, hr => by simp [i7, aj] at hr
 | _ :: _, .pv (.sum _ _) _, _, _, _, _, _, _, _, _, _, _, _, _, hr => by simp [i7, aj] at hr
 | _ :: _, .pv (.fn _ _) _, _, _, _, _, _, _, _, _, _, _, _, _, hr => by simp [i7, aj] at hr
 | _ :: _, .nils, _, _, _, _, _, _, _, _, _, _, _, _, hr => by simp [i7, aj] at hr
 | _ :: _, .row _, _, _, _, _, _, _, _, _, _, _, _, _, hr => by simp [i7, aj] at hr
 | _ :: _, .sub _ _ _, _, _, _, _, _, _, _, _, _, _, _, _, hr => by simp [i7, aj] at hr
 | _ :: _, .adr _ _ _, _, _, _, _, _, _, _, _, _, _, _, _, hr => by simp [i7, aj] at hr
 | _ :: _, .tup _, _, _, _, _, _, _, _, _, _, _, _, _, hr => by simp [i7, aj] at hr
 | _ :: _, .clo _ _, _, _, _, _, _, _, _, _, _, _, _, _, hr => by simp [i7, aj] at hr
 | _ :: _, .undef, _, _, _, _, _, _, _, _, _, _, _, _, hr => by simp [i7, aj] at hr
end
end Go.Ev
end
section
namespace Go.Ev
def shr (Fr : Nat → Prop) (s k : Nat) (j : Nat) : Prop := Fr j ∧ ¬ (s ≤ j ∧ j < s + k)
theorem jh {Fr : Nat → Prop} {s : Nat} : shr Fr s 0 = Fr := funext fun j => propext ⟨fun h => h.1, fun h => ⟨h, by omega⟩⟩
section
variable {P : Program} {E : dD} {w w' : World} {S S' : Nat → Prop} {H H' : List (Ob E.C)} {ρ ρ' : Nat → Option Pl} {Fr Fr' : Nat → Prop} {F : List (Nat × cw E.C)}
variable {T : List Nat} {r : lF E.C × List Nat}
def bE (H : List (Ob E.C)) (s : Nat) (r : lF E.C) : List (Ob E.C) := co r.ups (co (jM E s r.new) H)
def fQ (P : Program) (E : dD) (w : World) (S : Nat → Prop) (H : List (Ob E.C)) (ρ : Nat → Option Pl) (Fr : Nat → Prop) (s k : Nat) (m : Sem Value) (r : lF E.C) : Prop :=
 ∃ u w' S' ρ', m.run P w = .ok u w' ∧ f7 w w' S S' H (bE H s r) ρ ρ' Fr (shr Fr s k) ∧ dW E w' S' (bE H s r) ρ' (shr Fr s k) ∧ aF P E w' S' (bE H s r) ρ' (shr Fr s k) r.v u
theorem ak.eff {m : Sem Value} {r : lF E.C} (h : ak P E w S H ρ Fr m r) (hp : dW E w S H ρ Fr) (hS : ∀ b, S b → b < w.heap.size) (s : Nat) : fQ P E w S H ρ Fr s 0 m r := by
 obtain ⟨v, u, rfl, h1, h2⟩ := h
 unfold fQ
 rw [jh]
 exact ⟨u, w, S, ρ, h1, f7.refl hS, hp, h2⟩
theorem pb (w : World) (o : Obj) (b : Nat) (h : b < w.heap.size) : (w.heap.push o)[b]? = w.heap[b]? := by rw [Array.getElem?_push, if_neg (by omega)]
theorem uF (hp : dW E w S H ρ Fr) (hS : ∀ b, S b → b < w.heap.size) {s k : Nat} (hs : Fr s) (hk : 0 < k) (hl : s + k ≤ H.length) {t : Ty} {v : AV E.C} {cs : List Value} (ho : fL E v t = true) (hv : bc E w S H ρ Fr v cs) (X : TypeId) :
  ∃ ρ', f7 w (w.alloc (.cells cs.toArray X)) S S H (an H s (.box t v false)) ρ ρ' Fr (shr Fr s k) ∧ dW E (w.alloc (.cells cs.toArray X)) S (an H s (.box t v false)) ρ' (shr Fr s k) ∧
   j0 E (an H s (.box t v false)) ρ' (shr Fr s k) s [] t (.pointer (some (at_ w.heap.size 0))) := by
 obtain ⟨h1, h2⟩ := lw (w' := w.alloc (.cells cs.toArray X)) (o' := .box t v false) (oq := some ⟨w.heap.size, 0, 0⟩) hp hS hs hk hl (by show w.heap.size ≤ (w.heap.push _).size; simp) rfl rfl rfl none (by simp)
  (fun b hb _ => pb w _ b hb) (fun q hq => .inl (by rw [← Option.some.inj hq]; exact Nat.le_refl _)) rfl (an H s (.box t v false)) rfl (fun m => by
   unfold dw
   exact ⟨⟨w.heap.size, 0, 0⟩, X, cs, by simp, heap_alloc_new w _, ho, bc.mono m hv, fun h => by cases h⟩)
 refine ⟨_, h1, h2, fun h => h.2 ⟨Nat.le_refl _, by omega⟩, ⟨_, _, rfl⟩, fun t' x fz hh => ?_, fun t' l fz hh => ?_⟩
 ·rw [bR _ _ (by omega)] at hh
  cases hh
  exact ⟨⟨w.heap.size, 0, 0⟩, 0, by simp, rfl, rfl⟩
 ·rw [bR _ _ (by omega)] at hh
  cases hh
theorem mK (hp : dW E w S H ρ Fr) (hS : ∀ b, S b → b < w.heap.size) {s k : Nat} (hs : Fr s) (hk : 0 < k) (hl : s + k ≤ H.length) {e : Ty} {l : List (ap E.C e)} {c : Array Value} {X : TypeId} {cp : Nat} (css : Nat → List Value)
  (hw : w'.heap = w.heap.push (.cells c X)) (hos : w'.os = w.os) (htp : w'.tape = w.tape) (hou : w'.output = w.output) (hcp : l.length ≤ cp) (hsz : cp * szT E e ≤ c.size)
  (hr : ∀ j x, l[j]? = some x → aE E w S e x (css j)) (hc : ∀ j k cc, j < l.length → (css j)[k]? = some cc → c[j * szT E e + k]? = some cc) (kill : Option Nat) (hki : ∀ i, kill = some i → i ≠ s) :
  ∃ ρ', f7 w w' S S H (fx kill (an H s (.row e l false))) ρ ρ' Fr (shr Fr s k) ∧ dW E w' S (fx kill (an H s (.row e l false))) ρ' (shr Fr s k) ∧
   ia E (fx kill (an H s (.row e l false))) ρ' (shr Fr s k) s (.slice (some (at_ w.heap.size 0)) l.length cp) := by
 have hsz' : w'.heap.size = w.heap.size + 1 := by rw [hw]; simp
 have hnew : w'.heap[w.heap.size]? = some (.cells c X) := by rw [hw]; simp
 obtain ⟨h1, h2⟩ := lw (w' := w') (o' := .row e l false) (oq := some ⟨w.heap.size, 0, cp⟩) hp hS hs hk hl (by omega) hos htp hou kill hki
  (fun b hb _ => by rw [hw]; exact pb w _ b hb) (fun q hq => .inl (by rw [← Option.some.inj hq]; exact Nat.le_refl _)) rfl (fx kill (an H s (.row e l false))) rfl (fun m => by
   unfold dw
   refine .inr ⟨⟨w.heap.size, 0, cp⟩, c, X, css, by simp, hnew, hcp, by simpa using hsz, fun j x hx => (hr j x hx).mono (fun _ h => h) m.st.2.2.1, fun j k cc hj hk => by simpa using hc j k cc hj hk, fun h => by cases h⟩)
 refine ⟨_, h1, h2, ⟨fun h => h.2 ⟨Nat.le_refl _, by omega⟩, _, _, _, rfl⟩, fun t' l' fz hh => ?_⟩
 have : (fx kill (an H s (.row e l false)))[s]? = some (.row e l false) := by
  cases kill with
  | none => exact bR _ _ (by omega)
  | some i => simp only [fx]; rw [cj _ _ (fun e => hki i rfl e.symm)]; exact bR _ _ (by omega)
 rw [this] at hh
 cases hh
 simp only [if_true]
 exact ⟨cp, by simp, hcp, Nat.le_refl _⟩
theorem tI {v : Value} (hv : ik v) (hp : dW E w S H ρ Fr) (hS : ∀ b, S b → b < w.heap.size) {s k : Nat} (hs : Fr s) (hk : 0 < k) (hl : s + k ≤ H.length) {e : Ty} (kill : Option Nat) (hki : ∀ i, kill = some i → i ≠ s) :
  ∃ ρ', f7 w w S S H (fx kill (an H s (.row e ([] : List (ap E.C e)) false))) ρ ρ' Fr (shr Fr s k) ∧ dW E w S (fx kill (an H s (.row e [] false))) ρ' (shr Fr s k) ∧
   ia E (fx kill (an H s (.row e ([] : List (ap E.C e)) false))) ρ' (shr Fr s k) s v := by
 obtain ⟨h1, h2⟩ := lw (w' := w) (o' := .row e ([] : List (ap E.C e)) false) (oq := none) hp hS hs hk hl (Nat.le_refl _) rfl rfl rfl kill hki
  (fun b hb _ => rfl) (fun q hq => by cases hq) rfl (fx kill (an H s (.row e [] false))) rfl (fun m => by
   unfold dw
   exact .inl ⟨rfl, by simp⟩)
 refine ⟨_, h1, h2, ⟨fun h => h.2 ⟨Nat.le_refl _, by omega⟩, (by obtain ⟨a, e⟩ := hv.form; exact ⟨_, _, _, e⟩)⟩, fun t' l' fz hh => ?_⟩
 simpa using hv
theorem mR (hT : eP P E) {X : TypeId} {t : Ty} (hX : E.ty X = some t) {cs : List Value} (hz : zc E 40 t = some cs) (w : World) : (zeroValue X).run P w = .ok (eJ (bm t) cs) w := by
 obtain ⟨i, h1, _, _, h4⟩ := hT.inf X t hX
 simp [zeroValue, typeInfo, h1, h4 cs hz]
theorem qE (hT : eP P E) (hp : dW E w S H ρ Fr) (hS : ∀ b, S b → b < w.heap.size) {s : Nat} (hs : Fr s) (hl : s + 1 ≤ H.length) {X : TypeId}
  (h : aj H (match E.ty X with | some t => (match iH E 40 t with | [z] => cond (ux E 40 t) (.ret ⟨.adr s [] t, [.box t z false], []⟩) .fail | _ => .fail) | none => .fail) T = some r) :
  fQ P E w S H ρ Fr s 1 (Instr.alloc X true (.tuple #[])) r.1 := by
 split at h
 ·rename_i t hX
  split at h
  ·rename_i z hz
   replace h := aT h
   obtain ⟨hzk, h⟩ := h
   obtain ⟨z', cs, a1, a2, a3, a4⟩ := (oI hT 40).1 X t hX hzk
   rw [hz] at a1
   obtain rfl : z = z' := by simpa using a1
   simp only [aj, Option.some.injEq] at h
   subst h
   obtain ⟨ρ', h1, h2, h3⟩ := uF hp hS hs (by omega) hl a3 (a4 w S H ρ Fr) X
   refine ⟨_, _, S, ρ', ?_, h1, h2, gc.2 h3⟩
   have hcl := gN (E := E) (bc.len hT.env a3 (a4 w S H ρ Fr)) (t := t)
   obtain ⟨v0, h0⟩ : ∃ v0, eQ E 40 t = some v0 := fO 40 t hzk
   obtain ⟨cs', b1, b2⟩ := dv 40 t v0 hT.env h0
   rw [a2] at b1; obtain rfl := Option.some.inj b1
   have hc := hcl ((b2 w S).flat)
   simp [Instr.alloc, mR hT hX a2, newVar, newRow, hc, at_]
  ·cases h
 ·cases h
mutual
theorem bc.flat : ∀ {v : AV E.C} {cs : List Value}, bc E w S H ρ Fr v cs → ∀ c, c ∈ cs → c.oneCell' = true
 | .pv t x, cs, h => by unfold bc at h; exact h.flat
 | .nils, cs, h => by unfold bc at h; subst h; intro c hc; simp at hc; subst hc; rfl
 | .row i, cs, h => by
  unfold bc at h; obtain ⟨v, rfl, hv⟩ := h; intro c hc; simp at hc; subst hc
  obtain ⟨a, n, k, rfl⟩ := hv.1.2; rfl
 | .sub i lo hi, cs, h => by
  unfold bc at h; obtain ⟨v, rfl, hv⟩ := h; intro c hc; simp at hc; subst hc
  obtain ⟨a, n, k, rfl⟩ := hv.1.2; rfl
 | .adr i p t, cs, h => by
  unfold bc at h; obtain ⟨v, rfl, hv⟩ := h; intro c hc; simp at hc; subst hc
  obtain ⟨b, o, rfl⟩ := hv.2.1; rfl
 | .agg n fs, cs, h => by unfold bc at h; exact dY.flat h
 | .tup _, _, h => by unfold bc at h; exact h.elim
 | .clo _ _, _, h => by unfold bc at h; exact h.elim
 | .undef, _, h => by unfold bc at h; exact h.elim
theorem dY.flat : ∀ {vs : List (AV E.C)} {t : Ty} {cs : List Value}, dY E w S H ρ Fr vs t cs → ∀ c, c ∈ cs → c.oneCell' = true
 | [], t, cs, h => by unfold dY at h; obtain ⟨_, rfl⟩ := h; intro c hc; simp at hc
 | v :: vs, t, cs, h => by
  unfold dY at h
  obtain ⟨a, b, c, d, _, rfl, _, h1, h2⟩ := h
  intro x hx
  rcases List.mem_append.1 hx with hx | hx
  ·exact bc.flat h1 x hx
  ·exact dY.flat h2 x hx
end
theorem vM (hT : eP P E) (hp : dW E w S H ρ Fr) (hS : ∀ b, S b → b < w.heap.size) {s : Nat} (hs : Fr s) (hl : s + 1 ≤ H.length) {X : TypeId} {v : AV E.C} {u : Value} (hv : aF P E w S H ρ Fr v u)
  (h : aj H (match E.ty X with | some t => cond (fL E v t) (.ret ⟨.adr s [] t, [.box t v false], []⟩) .fail | none => .fail) T = some r) :
  fQ P E w S H ρ Fr s 1 (Instr.box X u) r.1 := by
 split at h
 ·rename_i t hX
  replace h := aT h
  obtain ⟨hok, h⟩ := h
  simp only [aj, Option.some.injEq] at h
  subst h
  obtain ⟨cs, c1, rfl⟩ := aF.toC (hT.plain hX).2.2.1 hok hv
  obtain ⟨ρ', h1, h2, h3⟩ := uF hp hS hs (by omega) hl hok c1 X
  refine ⟨_, _, S, ρ', ?_, h1, h2, gc.2 h3⟩
  have hc := gN (E := E) (bc.len hT.env hok c1) (t := t) (bc.flat c1)
  simp [Instr.box, newVar, newRow, hc, at_]
 ·cases h
theorem ij (w : World) (b : Nat) (c : Array Value) {old : Array Value} {X : TypeId} (h : w.heap[b]? = some (.cells old X (0, 0))) :
  (w.setRow b c).heap[b]? = some (.cells c X (0, 0)) ∧ (∀ b', b' ≠ b → (w.setRow b c).heap[b']? = w.heap[b']?) ∧ (w.setRow b c).heap.size = w.heap.size ∧ (w.setRow b c).os = w.os ∧ (w.setRow b c).tape = w.tape ∧ (w.setRow b c).output = w.output :=
 ⟨setRow_heap w b old c X _ h, fun b' hb => setRow_other w b b' c hb, by simp [World.setRow], rfl, rfl, rfl⟩
theorem mq (hT : eP P E) {X : TypeId} {t : Ty} (hX : E.ty X = some t) {b o : Nat} {cs ds : List Value} {Y : TypeId} (hh : w.heap[b]? = some (.cells cs.toArray Y (0, 0))) (hl : ds.length = szT E t)
  (hf : ∀ c, c ∈ ds → c.oneCell' = true) (hfit : o + ds.length ≤ cs.length) : (Instr.storeAt X (.pointer (some (at_ b o))) (eJ (bm t) ds)).run P w = .ok () (w.setRow b (wr cs o ds).toArray) := by
 have hc := gN (E := E) hl hf
 have := run_storeCells_at P b o Y ds 0 cs.toArray w hh (by simpa using hfit) hf
 simp only [Nat.add_zero] at this
 simp only [Instr.storeAt, Instr.sureAddr, Sem.run_bind, Sem.run_pure, Result.andThen_ok, storeVar, bW hT hX, hc]
 simp only [List.size_toArray, hl, ne_eq, not_true_eq_false, if_false]
 exact this
theorem xI {a b sz k m : Nat} (h : a ≠ b) (hk : k < sz) (hm : m < sz) : a * sz + k ≠ b * sz + m := by
 rcases Nat.lt_or_gt_of_ne h with h | h
 ·have := Nat.mul_le_mul_right sz (show a + 1 ≤ b from h)
  rw [Nat.succ_mul] at this; omega
 ·have := Nat.mul_le_mul_right sz (show b + 1 ≤ a from h)
  rw [Nat.succ_mul] at this; omega
theorem jA {a b sz k : Nat} (h : a < b) (hk : k ≤ sz) : a * sz + k ≤ b * sz := by
 have := Nat.mul_le_mul_right sz (show a + 1 ≤ b from h)
 rw [Nat.succ_mul] at this; omega
theorem yb {T : List Nat} {i : Nat} : T.any (Nat.beq i) = false ↔ i ∉ T := by
 induction T with
 | nil => simp
 | cons x T ih =>
  simp only [List.any_cons, Bool.or_eq_false_iff, ih, List.mem_cons, not_or]
  constructor
  ·rintro ⟨h1, h2⟩; exact ⟨fun e => by subst e; simp at h1, h2⟩
  ·rintro ⟨h1, h2⟩; refine ⟨?_, h2⟩
   cases hb : Nat.beq i x with
   | false => rfl
   | true => exact (h1 (Nat.eq_of_beq_eq_true hb)).elim
theorem uz {T1 : List Nat} {i : Nat} (h : i ∉ T1) (o : Ob E.C) : co (hO H T1) (an H i o) = an (co (hO H T1) H) i o := by
 have key : ∀ (us : List (Nat × Ob E.C)) (G : List (Ob E.C)), (∀ x, x ∈ us → x.1 ≠ i) → co us (an G i o) = an (co us G) i o := by
  intro us
  induction us with
  | nil => intro G _; rfl
  | cons x us ih =>
   intro G hx
   obtain ⟨k, o'⟩ := x
   simp only [co]
   rw [← ih _ fun y hy => hx y (by simp [hy])]
   congr 1
   have hk : k ≠ i := hx (k, o') (by simp)
   refine List.ext_getElem? fun j => ?_
   rw [aQ, aQ, aQ, aQ, aY, aY]
   by_cases h1 : j = k
   ·subst h1; simp [hk]
   ·by_cases h2 : j = i
    ·subst h2; simp [h1]
    ·simp [h1, h2]
 refine key _ _ fun x hx e => h ?_
 clear key
 induction T1 with
 | nil => simp [hO] at hx
 | cons k T1 ih =>
  simp only [hO] at hx
  split at hx
  ·rcases List.mem_cons.1 hx with hx | hx
   ·subst hx; simp at e; simp [e]
   ·exact List.mem_cons_of_mem _ (ih (fun hm => h (List.mem_cons_of_mem _ hm)) hx)
  ·exact List.mem_cons_of_mem _ (ih (fun hm => h (List.mem_cons_of_mem _ hm)) hx)
theorem qf (hT : eP P E) (hp : dW E w S H ρ Fr) (hC : dp P F) (hS : ∀ b, S b → b < w.heap.size) {s : Nat} {X : TypeId} {a v : AV E.C} {u uv : Value} (ha : aF P E w S H ρ Fr a u) (hv : aF P E w S H ρ Fr v uv)
  (h : aj H (gx E F (E.ty X) a v) T = some r) : fQ P E w S H ρ Fr s 0 (do Instr.storeAt X u uv; pure undef) r.1 := by
 unfold gx at h
 split at h
 ·cases h
 ·rename_i t hX
  replace h := aT h
  obtain ⟨hok, h⟩ := h
  obtain ⟨ds, d1, rfl⟩ := aF.toC (hT.plain hX).2.2.1 hok hv
  have dl := bc.len hT.env hok d1
  have df := bc.flat d1
  split at h
  ·rename_i i p ta
   replace h := g8 h
   obtain ⟨rfl, h⟩ := h
   replace h := bw h
   obtain ⟨o, ho, h⟩ := h
   have ha := gc.1 ha
   have hob := hp.obs _ _ ho
   split at h
   ·rename_i bt old
    unfold dw at hob
    obtain ⟨q, Tb, cs, hq, hheap, hbo, hbv, _⟩ := hob
    obtain ⟨q', o', f1, f2, f3⟩ := ha.2.2.1 _ _ _ ho
    rw [hq] at f1; obtain rfl := Option.some.inj f1
    replace h := jH hT.env hbo hbv f2 hok d1 h
    obtain ⟨new, n1, n2, n3, h⟩ := h
    simp only [aj, Option.some.injEq] at h
    subst h
    obtain ⟨g1, g2, g3, g4, g5, g6⟩ := ij w q.b (wr cs o' ds).toArray hheap
    obtain ⟨h1, h2⟩ := kW (o' := .box bt new false) hp hS ho rfl hq g3 g4 g5 g6 g2
     ⟨fun t l fz hh => by rw [bR _ _ (List.getElem?_eq_some_iff.1 ho).1] at hh; exact (nomatch hh), fun t x fz hh => by
      rw [bR _ _ (List.getElem?_eq_some_iff.1 ho).1] at hh
      cases hh; exact ⟨_, _, ho⟩⟩ rfl
     (fun m => by unfold dw; exact ⟨q, Tb, wr cs o' ds, hq, g1, n1, bc.mono m n2, fun h => by cases h⟩)
    unfold fQ
    rw [jh]
    refine ⟨undef, _, S, ρ, ?_, h1, h2, by unfold aF; trivial⟩
    rw [f3, Sem.run_bind, mq hT hX hheap dl df n3]
    rfl
   ·rename_i e l
    cases p with
    | nil => cases h
    | cons j p =>
     replace h := dr h
     obtain ⟨y, hy, h⟩ := h
     have hj : j < l.length := (List.getElem?_eq_some_iff.1 hy).1
     unfold dw at hob
     rcases hob with ⟨rfl, _⟩ | ⟨q, c, Tb, css, hq, hheap, h1, h2, h4, h5, hfz⟩
     ·simp at hj
     obtain ⟨q', j', p', o', f1, f2, f3, f4, f5⟩ := ha.2.2.2 _ _ _ ho
     rw [hq] at f1; obtain rfl := Option.some.inj f1
     obtain ⟨rfl, rfl⟩ : j = j' ∧ p = p' := by simpa using f2
     replace h := jH (v := .pv e y) (t := e) (cs := css j) hT.env (by simp [fL, Ty.beq_refl]) (by unfold bc; exact h4 j y hy) f4 hok d1 h
     obtain ⟨new, n1, n2, n3, h⟩ := h
     replace h := (dZ hT.env hp hC 40).1 _ _ _ _ _ _ h
     obtain ⟨y', T1, T2, h, hrd, hpr⟩ := h
     replace h : aj H (cond (!(T1.any (Nat.beq i))) (gx.frz E T1 fun u => .ret ⟨.undef, [], (i, .row e (l.set j y') false) :: u⟩) .fail) T2 = some r := by
      cases hb : T1.any (Nat.beq i) <;> rw [hb] at h <;> exact h
     replace h := aT h
     obtain ⟨hni, h⟩ := h
     have hni : i ∉ T1 := yb.1 (by simpa using hni)
     replace h := s5 h
     obtain ⟨T3, h, hfr⟩ := h
     simp only [aj, Option.some.injEq] at h
     subst h
     have hrep := hpr.1 _ n2
     obtain ⟨st1, hp1⟩ := mT T1 hp hS hfr
     have ho1 : (co (hO H T1) H)[i]? = some (.row e l false) := by rw [nc, if_neg hni]; exact ho
     have hi1 := (List.getElem?_eq_some_iff.1 ho1).1
     have hcsl : ∀ j' x, l[j']? = some x → (css j').length = szT E e := fun j' x hx => (h4 j' x hx).len hT.env
     have hl0 := hcsl j y hy
     have hjq : j < q.cp := by omega
     have hb1 : (q.p + j) * szT E e + szT E e ≤ (q.p + q.cp) * szT E e := jA (by omega) (Nat.le_refl _)
     have hfit : (q.p + j) * szT E e + o' + ds.length ≤ c.toList.length := by simp; omega
     have hheap' : w.heap[q.b]? = some (.cells c.toList.toArray Tb (0, 0)) := by simpa using hheap
     obtain ⟨g1, g2, g3, g4, g5, g6⟩ := ij w q.b (wr c.toList ((q.p + j) * szT E e + o') ds).toArray hheap
     obtain ⟨k1, k2⟩ := kW (o' := .row e (l.set j y') false) hp1 st1.mon.st.2.2.2 ho1 rfl hq g3 g4 g5 g6 g2
      ⟨fun t l' fz hh => by
       rw [bR _ _ hi1] at hh
       cases hh; exact ⟨_, _, ho1, by simp⟩, fun t x fz hh => by rw [bR _ _ hi1] at hh; exact (nomatch hh)⟩ rfl
      (fun m => by
       unfold dw
       refine .inr ⟨q, _, Tb, fun k => if k = j then wr (css j) o' ds else css k, hq, g1, by simpa using h1, by simp [kT hfit]; simpa using h2, fun j' x hx => ?_, fun j' k cc hj' hk => ?_, fun h => by cases h⟩
       ·rw [List.getElem?_set] at hx
        by_cases e1 : j = j'
        ·subst e1
         rw [if_pos rfl, if_pos hj] at hx
         obtain rfl := Option.some.inj hx
         simp only [if_true]
         exact hrep.mono (fun _ hb => hb) m.st.2.2.1
        ·rw [if_neg e1] at hx
         simp only [if_neg (fun h => e1 (Eq.symm h))]
         exact (h4 j' x hx).mono (fun _ hb => m.st.2.1 _ (st1.mon.st.2.1 _ hb)) (fun b hb => m.st.2.2.1 b (st1.mon.st.2.1 b hb))
       ·have hj'' : j' < l.length := by simpa using hj'
        simp only [List.getElem?_toArray]
        rw [gC hfit]
        have hcl : (css j').length = szT E e := hcsl j' _ (List.getElem?_eq_getElem hj'')
        by_cases e1 : j' = j
        ·subst e1
         simp only [if_true] at hk
         rw [gC n3] at hk
         by_cases e2 : o' ≤ k ∧ k < o' + ds.length
         ·rw [if_pos e2] at hk
          rw [if_pos (by omega), ← hk]; congr 1; omega
         ·rw [if_neg e2] at hk
          rw [if_neg (by omega)]
          simpa using h5 j' k cc hj'' hk
        ·simp only [if_neg e1] at hk
         have hkl : k < szT E e := by have := (List.getElem?_eq_some_iff.1 hk).1; omega
         rw [if_neg (fun hh => ?_)]
         ·simpa using h5 j' k cc hj'' hk
         ·refine xI (a := q.p + j') (b := q.p + j) (by omega) hkl (m := (q.p + j') * szT E e + k - (q.p + j) * szT E e) ?_ ?_ <;> omega)
     unfold fQ
     rw [jh]
     have hH : bE H s ⟨.undef, [], (i, .row e (l.set j y') false) :: hO H T1⟩ = an (co (hO H T1) H) i (.row e (l.set j y') false) := uz hni _
     rw [hH]
     refine ⟨undef, _, _, ρ, ?_, st1.trans k1, k2, by unfold aF; trivial⟩
     rw [f5, Sem.run_bind, mq hT hX hheap' dl df hfit]
     rfl
   ·cases h
  ·cases h
theorem no {zs : List Value} {n sz : Nat} (hz : zs.length = sz) {j k : Nat} {c : Value} (hj : j < n) (hk : zs[k]? = some c) : (madeCells zs.toArray (n * sz))[j * sz + k]? = some c := by
 have hkl : k < sz := by have := (List.getElem?_eq_some_iff.1 hk).1; omega
 have hin := jA hj (k := k + 1) (sz := sz) (by omega)
 have hm : (j * sz + k) % sz = k := by rw [Nat.add_comm, Nat.add_mul_mod_self_right, Nat.mod_eq_of_lt hkl]
 have hlt : j * sz + k < (madeCells zs.toArray (n * sz)).size := by rw [size_madeCells]; omega
 rw [Array.getElem?_eq_getElem hlt]
 have : (madeCells zs.toArray (n * sz))[j * sz + k] = zs.toArray[(j * sz + k) % zs.toArray.size]! := by simp [madeCells]
 rw [this]
 simp only [List.size_toArray, hz, hm]
 rw [getElem!_pos _ _ (by simpa [hz] using hkl)]
 have := (List.getElem?_eq_some_iff.1 hk).2
 simpa using this
theorem nf (hT : eP P E) {e : Ty} {z : ap E.C e} {zs : List Value} (hz : eQ E 40 e = some z) (hc : zc E 40 e = some zs) : (∀ w S, aE E w S e z zs) ∧ zs.length = szT E e ∧ (eJ (bm e) zs).cells = zs.toArray := by
 obtain ⟨cs, b1, b2⟩ := dv 40 e z hT.env hz
 rw [hc] at b1; obtain rfl := Option.some.inj b1
 have hl := (b2 default (fun _ => True)).len hT.env
 exact ⟨b2, hl, gN hl (b2 default (fun _ => True)).flat⟩
theorem m8 (hT : eP P E) (hp : dW E w S H ρ Fr) (hS : ∀ b, S b → b < w.heap.size) {s : Nat} (hs : Fr s) (hl : s + 1 ≤ H.length) {X : TypeId} {n c : AV E.C} {un uc : Value} (hn : aF P E w S H ρ Fr n un) (hc : aF P E w S H ρ Fr c uc)
  (h : aj H (kC E s (E.ty X) n c) T = some r) : fQ P E w S H ρ Fr s 1 (Instr.makeSlice X un uc) r.1 := by
 unfold kC at h
 split at h
 ·rename_i e hX
  split at h
  ·rename_i z hz
   replace h := gD h
   obtain ⟨kl, n, rfl, h⟩ := h
   replace h := gD h
   obtain ⟨kc, c, rfl, h⟩ := h
   replace h := bI h
   obtain ⟨hg, h⟩ := h
   simp only [Bool.and_eq_true, decide_eq_true_eq, bX, zC, Nat.ble_eq] at hg
   obtain ⟨⟨hg1, hg2⟩, hg3⟩ := hg
   obtain rfl := aX.1 hn
   obtain rfl := aX.1 hc
   simp only [aj, Option.some.injEq] at h
   subst h
   obtain ⟨D, u1, u2⟩ := hT.und X _ hX
   cases D <;> first | exact u2.elim | skip
   rename_i Y
   obtain ⟨zs, z1, _⟩ := dv 40 e z hT.env hz
   obtain ⟨zr, zl, zcl⟩ := nf hT hz z1
   obtain ⟨i, i1, i2, i3, i4⟩ := hT.inf Y e u2
   have hrun := run_make (P := P) w X Y i _ u1 i1 (i4 zs z1) kl kc n c hg1 hg2 (by
    have : (i.bytes : Int) ≤ 2048 := by omega
    have h0c : 0 ≤ c := by omega
    have := Int.mul_le_mul_of_nonneg_right this h0c
    omega) (by omega)
   rw [zcl, i2] at hrun
   obtain ⟨ρ', h1, h2, h3⟩ := mK (w' := w.alloc (.cells (madeCells zs.toArray (c.toNat * szT E e)) Y)) (e := e) (l := List.replicate n.toNat z) (cp := c.toNat) hp hS hs (by omega) hl (fun _ => zs) rfl rfl rfl rfl
    (by simp; omega) (by rw [size_madeCells]; exact Nat.le_refl _) (fun j x hx => by
     rw [List.getElem?_replicate] at hx
     split at hx
     ·obtain rfl := Option.some.inj hx; exact zr w S
     ·cases hx) (fun j k cc hj hk => no zl (by simp at hj; omega) hk) none (by simp)
   refine ⟨_, _, S, ρ', hrun, h1, h2, ?_⟩
   rw [List.length_replicate] at h3
   unfold aF
   exact h3
  ·cases h
 ·cases h
theorem qG (off : Nat) : ∀ (ds : List Value) (k : Nat) (cells : Array Value), off + k + ds.length ≤ cells.size →
  ((ds.zipIdx k).foldl (fun cs (x : Value × Nat) => cs.setIfInBounds (off + x.2) x.1) cells) = (wr cells.toList (off + k) ds).toArray
 | [], k, cells, _ => by simp [tx]
 | d :: ds, k, cells, h => by
  simp only [List.zipIdx_cons, List.foldl_cons]
  simp only [List.length_cons] at h
  rw [qG off ds (k + 1) _ (by simp; omega)]
  congr 1
  refine List.ext_getElem? fun i => ?_
  rw [gC (by simp; omega), gC (by simp; omega)]
  simp only [Array.toList_setIfInBounds, List.getElem?_set, List.length_cons]
  by_cases h1 : off + (k + 1) ≤ i ∧ i < off + (k + 1) + ds.length
  ·rw [if_pos h1, if_pos (by omega), show i - (off + k) = (i - (off + (k + 1))) + 1 by omega, List.getElem?_cons_succ]
  ·rw [if_neg h1]
   by_cases h2 : off + k = i
   ·rw [if_pos h2, if_pos (by simp; omega), if_pos (by omega), show i - (off + k) = 0 by omega]; rfl
   ·rw [if_neg h2, if_neg (by omega)]
theorem lO {place : Nat → Option (Nat × Nat)} {cells : List Value} {i o : Nat} {u : Value} {ds : List Value} {rest : List (Nat × Value)} (hu : u.cells = ds.toArray) (hp : place i = some (o, ds.length)) (hf : o + ds.length ≤ cells.length) :
  Instr.fill place cells.toArray ((i, u) :: rest) = Instr.fill place (wr cells o ds).toArray rest := by
 have hsz : u.cells.size = ds.length := by rw [hu]; simp
 have e : u.cells.zipIdx.foldl (fun cs (x : Value × Nat) => cs.setIfInBounds (o + x.2) x.1) cells.toArray = (wr cells o ds).toArray := by
  rw [hu, ← Array.foldl_toList]
  have := qG o ds 0 cells.toArray (by simpa using hf)
  simpa using this
 simp only [Instr.fill, hp, hsz, List.size_toArray]
 rw [if_neg (by simp; omega)]
 exact congrArg (fun x => Instr.fill place x rest) e
theorem ou (hT : eP P E) : ∀ {fs : List Field} {t : Ty} {off : Nat}, dx E fs t off → ∃ pl, fs.mapM (fun f => (P.info? f.type).map fun i => (f.offset, i.size)) = some pl ∧
  ∀ i o t', ie E t i = some (o, t') → pl[i]? = some (off + o, szT E t')
 | [], t, off, h => by
  cases t <;> first | exact h.elim | skip
  exact ⟨[], rfl, fun i o t' h => by cases i <;> cases h⟩
 | f :: fs, t, off, h => by
  cases t <;> first | exact h.elim | skip
  obtain ⟨h1, h2, _, _, h4⟩ := h
  obtain ⟨pl, p1, p2⟩ := ou hT h4
  obtain ⟨i, i1, i2, _⟩ := hT.inf _ _ h2
  refine ⟨(f.offset, i.size) :: pl, by simp [List.mapM_cons, i1, p1], fun j o t' ho => ?_⟩
  cases j with
  | zero =>
   obtain ⟨rfl, rfl⟩ : 0 = o ∧ _ = t' := by simpa [ie] using ho
   simp [h1, i2]
  | succ j =>
   simp only [ie] at ho
   split at ho
   ·rename_i o1 t1 e1
    obtain ⟨rfl, rfl⟩ : _ = o ∧ t1 = t' := by simpa using ho
    simp [p2 j _ _ e1, Nat.add_assoc]
   ·cases ho
def kL (P : Program) (E : dD) (w : World) (S : Nat → Prop) (H : List (Ob E.C)) (ρ : Nat → Option Pl) (Fr : Nat → Prop) : List (Nat × AV E.C) → List (Nat × Value) → Prop
 | [], [] => True
 | (i, v) :: ps, (j, u) :: us => i = j ∧ aF P E w S H ρ Fr v u ∧ kL P E w S H ρ Fr ps us
 | _, _ => False
theorem mg (hT : eP P E) {place : Nat → Option (Nat × Nat)} {t : Ty} (hpl : ∀ i o t', ie E t i = some (o, t') → place i = some (o, szT E t')) (hfn : ∀ i o t', ie E t i = some (o, t') → ∀ a b, t' ≠ .fn a b) :
  ∀ (ps : List (Nat × AV E.C)) (us : List (Nat × Value)) (fs : List (AV E.C)) (cs : List Value), kL P E w S H ρ Fr ps us → ju.fok E t ps = true → dY E w S H ρ Fr fs t cs →
  ∃ cs', Instr.fill place cs.toArray us = some cs'.toArray ∧ dY E w S H ρ Fr (ju.put E fs ps) t cs'
 | [], [], fs, cs, _, _, h => ⟨cs, rfl, h⟩
 | (i, v) :: ps, (j, u) :: us, fs, cs, hv, hk, h => by
  obtain ⟨rfl, hv, hvs⟩ := hv
  simp only [ju.fok, Bool.and_eq_true] at hk
  obtain ⟨hk1, hk2⟩ := hk
  split at hk1
  ·rename_i o t' ho
   obtain ⟨ds, d1, rfl⟩ := aF.toC (hfn _ _ _ ho) hk1 hv
   have dl := bc.len hT.env hk1 d1
   obtain ⟨g1, g2⟩ := dY.put hT.env h ho hk1 d1
   have := mg hT hpl hfn ps us _ _ hvs hk2 g1
   obtain ⟨cs', c1, c2⟩ := this
   refine ⟨cs', ?_, c2⟩
   rw [lO (gN dl (bc.flat d1)) (by rw [hpl _ _ _ ho, dl]) g2]
   exact c1
  ·cases hk1
 | [], _ :: _, _, _, hv, _, _ => hv.elim
 | _ :: _, [], _, _, hv, _, _ => hv.elim
theorem dx.fn (hT : eP P E) {fs : List Field} {t : Ty} {off : Nat} (h : dx E fs t off) : ∀ i o t', ie E t i = some (o, t') → ∀ a b, t' ≠ .fn a b := by
 intro i o t' ho
 obtain ⟨f, _, _, f3, _⟩ := h.nth ho
 exact (hT.plain f3).2.2.1
theorem nw (css : Nat → List Value) (n sz : Nat) (h : ∀ i, i < n → (css i).length = sz) {i : Nat} (hi : i < n) {ds : List Value} (hd : ds.length = sz) :
  ((List.range n).flatMap fun j => if j = i then ds else css j) = wr ((List.range n).flatMap css) (i * sz) ds ∧ i * sz + ds.length ≤ ((List.range n).flatMap css).length := by
 have hlen := cz css n sz h
 have hfit : i * sz + ds.length ≤ ((List.range n).flatMap css).length := by rw [hlen, hd]; exact jA hi (Nat.le_refl _)
 refine ⟨?_, hfit⟩
 obtain ⟨m, hm⟩ : ∃ m, n = (i + 1) + m := ⟨n - (i + 1), by omega⟩
 have hsplit : List.range n = List.range i ++ (i :: (List.range m).map (i + 1 + ·)) := by rw [hm, List.range_add, List.range_succ, List.append_assoc]; rfl
 have hA : ((List.range i).flatMap fun j => if j = i then ds else css j) = (List.range i).flatMap css := by
  simp only [List.flatMap]
  congr 1
  refine List.map_congr_left fun j hj => ?_
  have : j < i := by simpa using hj
  rw [if_neg (by omega)]
 have hB : (((List.range m).map (i + 1 + ·)).flatMap fun j => if j = i then ds else css j) = ((List.range m).map (i + 1 + ·)).flatMap css := by
  simp only [List.flatMap]
  congr 1
  refine List.map_congr_left fun j hj => ?_
  obtain ⟨k, _, rfl⟩ := List.mem_map.1 hj
  rw [if_neg (by omega)]
 have hAl := cz css i sz fun k hk => h k (by omega)
 rw [hsplit, List.flatMap_append, List.flatMap_append, List.flatMap_cons, List.flatMap_cons, hA, hB, if_pos rfl]
 have := rW (a := (List.range i).flatMap css) (b := css i ++ ((List.range m).map (i + 1 + ·)).flatMap css) (ds := ds) (o := 0) (by simp [h i hi, hd])
 rw [hAl] at this
 simp only [Nat.add_zero] at this
 rw [this, uj (by simp [h i hi, hd]), sg (by rw [hd, h i hi])]
theorem p6 (hT : eP P E) (hp : dW E w S H ρ Fr) (hC : dp P F) {n : Nat} {e : Ty} (hfn : ∀ a b, e ≠ .fn a b) : ∀ (ps : List (Nat × AV E.C)) (us : List (Nat × Value)) (l : List (ap E.C e)) (cs : List Value) (T : List Nat), kL P E w S H ρ Fr ps us →
  aE E w S (.arr n e) l cs → aj H (ju.arr E F n e l ps) T = some r → ∃ l' cs', r.1 = ⟨.pv (.arr n e) l', [], []⟩ ∧ Instr.fill (fun i => some (i * szT E e, szT E e)) cs.toArray us = some cs'.toArray ∧ aE E w S (.arr n e) l' cs'
 | [], [], l, cs, T, _, hr, h => by
  unfold ju.arr at h
  exact ⟨l, cs, zG h, rfl, hr⟩
 | (i, v) :: ps, (j, u) :: us, l, cs, T, hv, hr, h => by
  obtain ⟨rfl, hv, hvs⟩ := hv
  unfold ju.arr at h
  replace h := aT h
  obtain ⟨hi, h⟩ := h
  have hi : i < n := by simpa using hi
  replace h := (dZ hT.env hp hC 40).1 _ _ _ _ _ _ h
  obtain ⟨x, T1, T2, h, _, hpr⟩ := h
  split at h
  ·rw [show PR P E w S H ρ Fr e x v [] = PR P E w S H ρ Fr e x v [] from rfl] at hpr
   obtain ⟨ds, d1, rfl⟩ := (hpr.2 u hv).inv hfn
   rw [lW] at d1
   have dl := d1.len hT.env
   obtain ⟨css, rfl, hl, hrr⟩ := hr.inv_arr
   have hl : List.length l = n := hl
   have hcl : ∀ k, k < n → (css k).length = szT E e := fun k hk => (hrr k _ (List.getElem?_eq_getElem (show k < List.length l by omega))).len hT.env
   obtain ⟨f1, f2⟩ := nw css n (szT E e) hcl hi dl
   have hr' : aE E w S (.arr n e) (an l i x) (wr ((List.range n).flatMap css) (i * szT E e) ds) := by
    rw [← f1]
    refine .arr n e _ _ (by rw [aY]; exact hl) fun k y hy => ?_
    rw [aQ] at hy
    by_cases hk : k = i
    ·subst hk
     rw [if_pos rfl, if_pos (by omega)] at hy
     obtain rfl := Option.some.inj hy
     simp only [if_true]; exact d1
    ·rw [if_neg hk] at hy
     simp only [if_neg hk]; exact hrr k y hy
   obtain ⟨l', cs', g1, g2, g3⟩ := p6 hT hp hC hfn ps us _ _ _ hvs hr' h
   refine ⟨l', cs', g1, ?_, g3⟩
   rw [lO (gN dl d1.flat) (by rw [dl]) f2]
   exact g2
  ·cases h
 | [], _ :: _, _, _, _, hv, _, _ => hv.elim
 | _ :: _, [], _, _, _, hv, _, _ => hv.elim
theorem qq (hT : eP P E) (hp : dW E w S H ρ Fr) (hC : dp P F) {X : TypeId} {ps : List (Nat × AV E.C)} {us : List (Nat × Value)} (hv : kL P E w S H ρ Fr ps us) (h : aj H (ju E F (E.ty X) ps) T = some r) :
  ak P E w S H ρ Fr (Instr.build X us.toArray) r.1 := by
 unfold ju at h
 split at h
 ·rename_i n hX
  replace h := aT h
  obtain ⟨hg, h⟩ := h
  simp only [Bool.and_eq_true] at hg
  obtain ⟨z, cs, a1, a2, a3, a4⟩ := (oI hT 40).1 X _ hX hg.1
  split at h
  ·rename_i m fs hz
   rw [hz] at a1
   obtain rfl : _ = z := by simpa using a1
   have hmn : m = n := by simpa [fL] using a3
   subst hmn
   have hF := a4 w S H ρ Fr
   unfold bc at hF
   obtain ⟨D, u1, u2⟩ := hT.und X _ hX
   cases D <;> first | exact u2.elim | skip
   rename_i flds
   obtain ⟨pl, p1, p2⟩ := ou hT u2
   obtain ⟨cs', c1, c2⟩ := mg hT (place := fun i => pl[i]?) (fun i o t' ho => by simpa using p2 i o t' ho) (dx.fn hT u2) ps us _ _ hv hg.2 hF
   obtain ⟨i, i1, _, _, i4⟩ := hT.inf X _ hX
   refine ak.rv h (run_build w X us.toArray cs'.toArray ?_) (by unfold aF; exact ⟨cs', c2, rfl⟩)
   unfold Program.built
   simp only [i1, u1, i4 cs a2, p1]
   simpa [eJ, bm, Value.cells] using c1
  ·cases h
 ·rename_i n e hX
  split at h
  ·rename_i z hz
   obtain ⟨D, u1, u2⟩ := hT.und X _ hX
   cases D <;> first | exact u2.elim | skip
   rename_i n' Y
   obtain ⟨rfl, u2⟩ := u2
   obtain ⟨i, i1, _, _, i4⟩ := hT.inf X _ hX
   obtain ⟨iY, y1, y2, _, _⟩ := hT.inf Y _ u2
   obtain ⟨cs, z1, z2⟩ := dv 40 _ z hT.env hz
   obtain ⟨l', cs', g1, g2, g3⟩ := p6 hT hp hC (hT.plain u2).2.2.1 ps us z cs _ hv (z2 w S) h
   refine ⟨.pv (.arr n' e) l', _, g1, run_build w X us.toArray cs'.toArray ?_, (cF (by intro _ _ h; cases h)).2 ⟨cs', g3, rfl⟩⟩
   unfold Program.built
   simp only [i1, u1, i4 cs z1, y1, y2]
   simpa [eJ, bm, Value.cells] using g2
  ·cases h
 ·cases h
theorem oU {zs : List Value} {n sz : Nat} (hz : zs.length = sz) : madeCells zs.toArray (n * sz) = ((List.replicate n zs).flatten).toArray := by
 apply Array.ext'
 have hl : ((List.replicate n zs).flatten).length = n * sz := by rw [← fG, cz _ n sz fun _ _ => hz]
 refine List.ext_getElem? fun i => ?_
 by_cases hi : i < n * sz
 ·have hs : 0 < sz := by rcases Nat.eq_zero_or_pos sz with h | h; (rw [h] at hi; simp at hi); exact h
  have hk : zs[i % sz]? = some (zs[i % sz]'(by rw [hz]; exact Nat.mod_lt _ hs)) := List.getElem?_eq_getElem _
  have hj : i / sz < n := Nat.div_lt_of_lt_mul (by rwa [Nat.mul_comm])
  have e : i / sz * sz + i % sz = i := by rw [Nat.mul_comm]; exact Nat.div_add_mod i sz
  have h1 := no (n := n) hz hj hk
  have h2 := jb.arr (fun _ => zs) n sz (fun _ _ => hz) hj _ _ hk
  rw [e] at h1 h2
  rw [fG] at h2
  show (madeCells zs.toArray (n * sz)).toList[i]? = ((List.replicate n zs).flatten)[i]?
  rw [h2]
  simpa using h1
 ·rw [List.getElem?_eq_none (by simp [size_madeCells]; omega), List.getElem?_eq_none (by simp [hl]; omega)]
theorem qM (hT : eP P E) (hp : dW E w S H ρ Fr) (hC : dp P F) {s n : Nat} {e : Ty} (hfn : ∀ a b, e ≠ .fn a b) : ∀ (ps : List (Nat × AV E.C)) (us : List (Nat × Value)) (l : List (ap E.C e)) (cs : List Value) (T T0 : List Nat), kL P E w S H ρ Fr ps us →
  aE E w (ST S ρ T) (.arr n e) l cs → aj H (fV.go E F s n e l ps T) T0 = some r → ∃ l' cs' T' T1, aj H (gx.frz E T' fun u => .ret ⟨.row s, [.row e l' false], u⟩) T1 = some r ∧
   Instr.fill (fun i => some (i * szT E e, szT E e)) cs.toArray us = some cs'.toArray ∧ aE E w (ST S ρ T') (.arr n e) l' cs'
 | [], [], l, cs, T, T0, _, hr, h => by
  unfold fV.go at h
  exact ⟨l, cs, T, T0, h, rfl, hr⟩
 | (i, v) :: ps, (j, u) :: us, l, cs, T, T0, hv, hr, h => by
  obtain ⟨rfl, hv, hvs⟩ := hv
  unfold fV.go at h
  replace h := aT h
  obtain ⟨hi, h⟩ := h
  have hi : i < n := by simpa using hi
  replace h := (dZ hT.env hp hC 40).1 _ _ _ _ _ _ h
  obtain ⟨x, T1, T2, h, hrd, hpr⟩ := h
  obtain ⟨ds, d1, rfl⟩ := (hpr.2 u hv).inv hfn
  have dl := d1.len hT.env
  replace hr := hr.st (T' := T1) hrd.1
  obtain ⟨css, rfl, hl, hrr⟩ := hr.inv_arr
  have hl : List.length l = n := hl
  have hcl : ∀ k, k < n → (css k).length = szT E e := fun k hk => (hrr k _ (List.getElem?_eq_getElem (show k < List.length l by omega))).len hT.env
  obtain ⟨f1, f2⟩ := nw css n (szT E e) hcl hi dl
  have hr' : aE E w (ST S ρ T1) (.arr n e) (an l i x) (wr ((List.range n).flatMap css) (i * szT E e) ds) := by
   rw [← f1]
   refine .arr n e _ _ (by rw [aY]; exact hl) fun k y hy => ?_
   rw [aQ] at hy
   by_cases hk : k = i
   ·subst hk
    rw [if_pos rfl, if_pos (by omega)] at hy
    obtain rfl := Option.some.inj hy
    simp only [if_true]; exact d1
   ·rw [if_neg hk] at hy
    simp only [if_neg hk]; exact hrr k y hy
  obtain ⟨l', cs', T', T3, g1, g2, g3⟩ := qM hT hp hC hfn ps us _ _ _ _ hvs hr' h
  refine ⟨l', cs', T', T3, g1, ?_, g3⟩
  rw [lO (gN dl d1.flat) (by rw [dl]) f2]
  exact g2
 | [], _ :: _, _, _, _, _, hv, _, _ => hv.elim
 | _ :: _, [], _, _, _, _, hv, _, _ => hv.elim
theorem lz (hT : eP P E) (hp : dW E w S H ρ Fr) (hC : dp P F) (hS : ∀ b, S b → b < w.heap.size) {s : Nat} (hs : Fr s) (hl : s + 1 ≤ H.length) {X : TypeId} {n : Nat} {ps : List (Nat × AV E.C)} {us : List (Nat × Value)}
  (hv : kL P E w S H ρ Fr ps us) (h : aj H (fV E F s (E.ty X) n ps) T = some r) : fQ P E w S H ρ Fr s 1 (Instr.buildSlice X n us.toArray) r.1 := by
 unfold fV at h
 split at h
 ·rename_i e hX
  split at h
  ·rename_i z hz
   replace h := aT h
   obtain ⟨hg, h⟩ := h
   have hg : n * szT E e ≤ 16777216 := by simpa using hg
   obtain ⟨D, u1, u2⟩ := hT.und X _ hX
   cases D <;> first | exact u2.elim | skip
   rename_i Y
   obtain ⟨zs, z1, _⟩ := dv 40 e z hT.env hz
   obtain ⟨zr, zl, zcl⟩ := nf hT hz z1
   have hr0 : aE E w (ST S ρ []) (.arr n e) (List.replicate n z) ((List.replicate n zs).flatten) := by
    rw [← fG]
    refine .arr n e _ (fun _ => zs) (by simp) fun j y hy => ?_
    rw [List.getElem?_replicate] at hy
    split at hy
    ·obtain rfl := Option.some.inj hy; exact zr _ _
    ·cases hy
   obtain ⟨l', cs', T', T1, h, f1, f2⟩ := qM hT hp hC (hT.plain u2).2.2.1 ps us _ _ _ _ hv hr0 h
   replace h := s5 h
   obtain ⟨T3, h, hfr⟩ := h
   simp only [aj, Option.some.injEq] at h
   subst h
   obtain ⟨st1, hp1⟩ := mT T' hp hS hfr
   have hsn : s ∉ T' := fun hm => by
    obtain ⟨o, ho, hd⟩ := hfr s hm
    exact hd (hp.fre s o hs ho)
   obtain ⟨css, hcs, hl', hrr⟩ := f2.inv_arr
   have hl' : List.length l' = n := hl'
   have hcl : ∀ k, k < n → (css k).length = szT E e := fun k hk => (hrr k _ (List.getElem?_eq_getElem (show k < List.length l' by omega))).len hT.env
   have hcsl : cs'.length = n * szT E e := by rw [hcs]; exact cz css n _ hcl
   obtain ⟨ρ', h1, h2, h3⟩ := mK (k := 1) (w' := w.alloc (.cells cs'.toArray Y)) (e := e) (l := l') (cp := n) hp1 st1.mon.st.2.2.2 hs (by omega) (by rw [cx]; exact hl) css rfl rfl rfl rfl
    (by omega) (by simp [hcsl]) (fun j x hx => hrr j x hx) (fun j k cc hj hk => by
     have := jb.arr css n (szT E e) hcl (show j < n by omega) k cc hk
     rw [← hcs] at this
     simpa using this) none (by simp)
   have hH : bE H s ⟨.row s, [.row e l' false], hO H T'⟩ = an (co (hO H T') H) s (.row e l' false) := uz hsn _
   unfold fQ
   rw [hH]
   refine ⟨_, _, _, ρ', ?_, st1.trans h1, h2, by unfold aF; rw [hl'] at h3; exact h3⟩
   have hfill : Instr.fill (fun i => some (i * szT E e, szT E e)) (madeCells zs.toArray (n * szT E e)) us = some cs'.toArray := by rw [oU zl]; exact f1
   have hbig : ¬ (16777216 < n * szT E e) := by omega
   have hzr := mR hT u2 z1 w
   by_cases hn : n * szT E e = 0
   ·rw [hn] at hfill
    have : madeCells zs.toArray 0 = #[] := by simp [madeCells]
    rw [this] at hfill
    simp [Instr.buildSlice, run_underlying u1, bW hT u2, hn, newRow, at_]
    rw [show (Array.map (fun _ => (default : Value)) (Array.range 0)) = #[] by simp, hfill]
    simp
   ·simp [Instr.buildSlice, run_underlying u1, bW hT u2, hn, hbig, hzr, zcl, newRow, at_]
    rw [show (Array.map (fun x => zs[x % zs.length]?.getD default) (Array.range (n * szT E e))) = madeCells zs.toArray (n * szT E e) by simp [madeCells], hfill]
    simp
  ·cases h
 ·cases h
end
end Go.Ev
end
section
namespace Go.Ev
section
variable {P : Program} {E : dD} {w w' : World} {S S' : Nat → Prop} {H H' : List (Ob E.C)} {ρ ρ' : Nat → Option Pl} {Fr Fr' : Nat → Prop} {F : List (Nat × cw E.C)}
variable {T : List Nat} {r : lF E.C × List Nat}
def wX (E : dD) (w : World) (S : Nat → Prop) (e : Ty) (ys : List (ap E.C e)) (u : Value) : Prop :=
 (ik u ∧ ys = []) ∨ ∃ (b off cap : Nat) (css : Nat → List Value), u = .slice (some (at_ b off)) ys.length cap ∧ ys.length ≤ cap ∧ (∀ i x, ys[i]? = some x → aE E w S e x (css i)) ∧
  ∀ i j c, i < ys.length → (css i)[j]? = some c → w.cell? (at_ b (off + i * szT E e + j)) = some c
theorem wX.ofC {e : Ty} {ys : List (ap E.C e)} {cs : List Value} (h : aE E w S (.slice e) ys cs) : wX E w S e ys (eJ (bm (.slice e)) cs) := by
 rcases h.inv_slice with ⟨v, hv, rfl, h2⟩ | ⟨b, off, cap, css, rfl, hS, hc, hr, hm⟩
 ·exact .inl ⟨hv, h2⟩
 ·exact .inr ⟨b, off, cap, css, rfl, hc, hr, hm⟩
theorem pz (hp : dW E w S H ρ Fr) {i : Nat} {e : Ty} {l : List (ap E.C e)} {fz : Bool} (ho : H[i]? = some (.row e l fz)) {lo hi : Nat} (hlo : lo ≤ hi) (hhi : hi ≤ l.length) {v : Value}
  (hv : match ρ i with
   | none => ik v
   | some q => ∃ cap off, v = .slice (some (at_ q.b off)) (hi - lo) cap ∧ hi - lo ≤ cap ∧ lo + cap ≤ q.cp ∧ (cap = 0 ∨ off = (q.p + lo) * szT E e)) : wX E w S e (slc l lo hi) v := by
 have hob := hp.obs _ _ ho
 unfold dw at hob
 have hlen : (slc l lo hi).length = hi - lo := by simp [slc]; omega
 rcases hob with ⟨rfl, hρ⟩ | ⟨q, c, Ty', css, hρ, hheap, h1, h2, h4, h5, h6⟩
 ·rw [hρ] at hv
  refine .inl ⟨hv, ?_⟩
  simp [slc]
 ·rw [hρ] at hv
  obtain ⟨cap, off, rfl, hc1, hc2, hc3⟩ := hv
  refine .inr ⟨q.b, off, cap, fun j => css (lo + j), by rw [hlen], by rw [hlen]; exact hc1, fun j x hx => h4 _ x (pK hx).1, fun j k cc hj hk => ?_⟩
  rw [hlen] at hj
  rcases hc3 with hc3 | hc3
  ·omega
  ·rw [World.cell_of_heap hheap, hc3]
   have := h5 (lo + j) k cc (by omega) hk
   have e1 : (q.p + lo) * szT E e + j * szT E e + k = (q.p + (lo + j)) * szT E e + k := by rw [← Nat.add_mul, Nat.add_assoc q.p]
   rw [e1]; exact this
theorem ia.as {i : Nat} {e : Ty} {l : List (ap E.C e)} {fz : Bool} {v : Value} (hv : ia E H ρ Fr i v) (ho : H[i]? = some (.row e l fz)) : match ρ i with
      | none => ik v
      | some q => ∃ cap off, v = .slice (some (at_ q.b off)) (l.length - 0) cap ∧ l.length - 0 ≤ cap ∧ 0 + cap ≤ q.cp ∧ (cap = 0 ∨ off = (q.p + 0) * szT E e) := by
  have h := hv.2 _ _ _ ho
  cases hρ : ρ i with
  | none => rw [hρ] at h; exact h
  | some q =>
    rw [hρ] at h
    obtain ⟨cap, e1, e2, e3⟩ := h
    exact ⟨cap, _, by simpa using e1, by simpa using e2, by simpa using e3, .inr rfl⟩
theorem kV.as {i lo hi : Nat} {e : Ty} {l : List (ap E.C e)} {fz : Bool} {v : Value} (hv : kV E H ρ Fr i lo hi v) (ho : H[i]? = some (.row e l fz)) : match ρ i with
      | none => ik v
      | some q => ∃ cap off, v = .slice (some (at_ q.b off)) (hi - lo) cap ∧ hi - lo ≤ cap ∧ lo + cap ≤ q.cp ∧ (cap = 0 ∨ off = (q.p + lo) * szT E e) := by
  have h := (hv.2 _ _ _ ho).2
  cases hρ : ρ i with
  | none => rw [hρ] at h; exact h.1
  | some q =>
    rw [hρ] at h
    obtain ⟨cap, p, e1, e2, e3, e4, e5⟩ := h
    exact ⟨cap, _, e1, e2, e3, e5.imp id fun e => by rw [e]⟩
theorem kN (hE : iC E) (hp : dW E w S H ρ Fr) (hC : dp P F) {α : Type} {d : Nat} {e : Ty} {b : AV E.C} {u : Value} {T T0 : List Nat} {k : ap E.C (.slice e) → List Nat → HM E.C α} {r : α × List Nat} (hb : aF P E w S H ρ Fr b u)
  (h : aj H (jP E F d (.slice e) b T k) T0 = some r) : ∃ (ys : List (ap E.C e)) (T1 T0' : List Nat), aj H (k ys T1) T0' = some r ∧ wX E w S e ys u := by
 cases d with
 | zero => unfold jP at h; cases h
 | succ d =>
  cases b with
  | pv t' x =>
   unfold jP at h
   obtain ⟨rfl, h⟩ := ui h
   obtain ⟨cs, c1, rfl⟩ := (cF (by intro _ _ h; cases h)).1 hb
   exact ⟨x, _, _, h, wX.ofC c1⟩
  | nils =>
   unfold jP at h
   unfold aF at hb
   exact ⟨[], _, _, h, .inl ⟨⟨_, hb⟩, rfl⟩⟩
  | row i =>
   unfold jP at h
   replace h := bw h
   obtain ⟨o, ho, h⟩ := h
   cases o with
   | dead => cases h
   | box => cases h
   | row e' l fz =>
    replace h := k0 h
    obtain ⟨rfl, h⟩ := h
    unfold aF at hb
    have := pz hp ho (Nat.zero_le _) (Nat.le_refl _) (hb.as ho)
    rw [pX] at this
    exact ⟨l, _, _, h, this⟩
  | sub i lo hi =>
   unfold jP at h
   replace h := bw h
   obtain ⟨o, ho, h⟩ := h
   cases o with
   | dead => cases h
   | box => cases h
   | row e' l fz =>
    replace h := k0 h
    obtain ⟨rfl, h⟩ := h
    replace h := bI h
    obtain ⟨hg, h⟩ := h
    simp only [Bool.and_eq_true, decide_eq_true_eq] at hg
    unfold aF at hb
    exact ⟨_, _, _, h, pz hp ho hg.1 hg.2 (hb.as ho)⟩
  | adr => unfold jP at h; cases h
  | agg => unfold jP at h; cases h
  | tup => unfold jP at h; cases h
  | undef => unfold jP at h; cases h
  | clo f cs =>
   unfold jP at h
   dsimp only at h
   split at h
   ·replace h := (dZ hE hp hC d).2 _ _ _ _ _ _ h
    obtain ⟨y, T1, T2, h, _⟩ := h
    obtain ⟨e1, _⟩ := ui h
    cases e1
   ·cases h
theorem wJ (css : Nat → List Value) (n sz : Nat) (h : ∀ i, i < n → (css i).length = sz) {j : Nat} {c : Value} (hc : ((List.range n).flatMap css)[j]? = some c) : ∃ i k, i < n ∧ j = i * sz + k ∧ (css i)[k]? = some c := by
 have hj : j < n * sz := by rw [← cz css n sz h]; exact (List.getElem?_eq_some_iff.1 hc).1
 have hs : 0 < sz := by rcases Nat.eq_zero_or_pos sz with h | h; (rw [h] at hj; simp at hj); exact h
 have hi : j / sz < n := Nat.div_lt_of_lt_mul (by rwa [Nat.mul_comm])
 have e : j / sz * sz + j % sz = j := by rw [Nat.mul_comm]; exact Nat.div_add_mod j sz
 have hl := h _ hi
 have hk : (css (j / sz))[j % sz]? = some ((css (j / sz))[j % sz]'(by rw [hl]; exact Nat.mod_lt _ hs)) := List.getElem?_eq_getElem _
 have := jb.arr css n sz h hi _ _ hk
 rw [e, hc] at this
 exact ⟨j / sz, j % sz, hi, e.symm, by rw [hk, this]⟩
theorem wX.cells (hE : iC E) {e : Ty} {ys : List (ap E.C e)} {u : Value} (h : wX E w S e ys u) : ∃ (a : Option Addr) (cap : Nat) (css : Nat → List Value), u = .slice a ys.length cap ∧ ys.length ≤ cap ∧
  (∀ i x, ys[i]? = some x → aE E w S e x (css i)) ∧ (∀ i, i < ys.length → (css i).length = szT E e) ∧ (a = none → ys = []) ∧
  (∀ w2 : World, w2.heap = w.heap → ∀ n, n ≤ ys.length → ∀ P : Program, (Builtin.firstCells (szT E e) n u).run P w2 = .ok ((List.range n).flatMap css).toArray w2) := by
 rcases h with ⟨hu, rfl⟩ | ⟨b, off, cap, css, rfl, hc, hr, hm⟩
 ·obtain ⟨a, rfl⟩ := hu.form
  exact ⟨a, 0, fun _ => [], rfl, Nat.le_refl _, by simp, by simp, fun _ => rfl, fun w2 _ n hn P => by
   have : n = 0 := by simpa using hn
   subst this
   cases a <;> simp [Builtin.firstCells, loadCells, loadCellsFrom]⟩
 ·have hl : ∀ i, i < ys.length → (css i).length = szT E e := fun i hi => (hr i _ (List.getElem?_eq_getElem hi)).len hE
  refine ⟨some (at_ b off), cap, css, rfl, hc, hr, hl, by simp, fun w2 hw n hn P => ?_⟩
  refine run_firstCells_some w2 (szT E e) n (at_ b off) _ _ _ (cz css n _ fun i hi => hl i (by omega)) fun j v hv => ?_
  obtain ⟨i, k, hi, rfl, hk⟩ := wJ css n _ (fun i hi => hl i (by omega)) hv
  have := hm i k v (by omega) hk
  rw [jJ, ← Nat.add_assoc]
  simpa [World.cell?, hw] using this
def ld (P : Program) (w w' : World) (base : Option Addr) (n : Nat) (news : List Value) : Prop :=
 match base with
 | none => w' = w
 | some b => (storeCells (b.add n) news).run P w = .ok () w'
theorem qZ (hT : eP P E) {X U ty Y : TypeId} {e f : Ty} (hX : P.underlying X = some (.slice Y)) (hY : E.ty Y = some e) (hU : E.ty U = some (.slice f)) {base a : Option Addr} {sLen sCap n c : Nat} {news : List Value}
  (hnew : (Builtin.firstCells (szT E e) n (.slice a n c)).run P w = .ok news.toArray w) (hroom : sLen + n ≤ sCap) (w' : World)
  (hst : ld P w w' base (sLen * szT E e) news) :
  (Builtin.append_ #[X, U] ty #[.slice base sLen sCap, .slice a n c]).run P w = .ok (.slice base (sLen + n) sCap) w' := by
 obtain ⟨D, u1, u2⟩ := hT.und U _ hU
 cases D <;> first | exact u2.elim | skip
 cases base with
 | none =>
  unfold ld at hst; simp only at hst; subst hst
  simp [Builtin.append_, run_underlying hX, run_underlying u1, bW hT hY, Builtin.lenOf, hroom, hnew]
 | some b =>
  unfold ld at hst
  simp [Builtin.append_, run_underlying hX, run_underlying u1, bW hT hY, Builtin.lenOf, hroom, hnew, hst]
theorem rG (hT : eP P E) {X U ty Y : TypeId} {e f : Ty} (hX : P.underlying X = some (.slice Y)) (hY : E.ty Y = some e) (hU : E.ty U = some (.slice f)) {base a : Option Addr} {sLen sCap n c : Nat} {olds news zs : List Value}
  (hz : zc E 40 e = some zs) (hzc : (eJ (bm e) zs).cells = zs.toArray) (hold : (Builtin.firstCells (szT E e) sLen (.slice base sLen sCap)).run P w.drew = .ok olds.toArray w.drew) (hnew : (Builtin.firstCells (szT E e) n (.slice a n c)).run P w.drew = .ok news.toArray w.drew)
  (hroom : sCap < sLen + n) (hlim : sLen + n ≤ 68719476736) :
  (Builtin.append_ #[X, U] ty #[.slice base sLen sCap, .slice a n c]).run P w = .ok (.slice (some (at_ w.heap.size 0)) (sLen + n) (grownCap w (sLen + n) sCap Y))
   (w.drew.alloc (.cells (olds ++ news ++ (Builtin.zeroCells zs.toArray (grownCap w (sLen + n) sCap Y - (sLen + n))).toList).toArray Y)) := by
 obtain ⟨D, u1, u2⟩ := hT.und U _ hU
 cases D <;> first | exact u2.elim | skip
 obtain ⟨i, i1, i2, i3, i4⟩ := hT.inf Y e hY
 have hfit : Builtin.nextslicecap (sLen + n) sCap * i.bytes ≤ 281474976710656 := growslice_fits hroom (by
  have := Nat.mul_le_mul hlim i3
  omega)
 have hn : ¬ (sLen + n ≤ sCap) := by omega
 have h63' : ¬ (9223372036854775807 < ((sLen : Int) + (n : Int))) := by omega
 have h48' : ¬ (281474976710656 < Builtin.nextslicecap (sLen + n) sCap * i.bytes) := by omega
 simp [Builtin.append_, run_underlying hX, run_underlying u1, sizeOf, typeInfo, zeroValue, i1, i2, i4 zs hz, hzc, Builtin.lenOf, hn, h63', h48', Question.forced, hold, hnew, newRow, grownCap, at_]
 congr 2
 apply Array.ext'
 simp
theorem qo (hT : eP P E) {X U ty Y : TypeId} {e : Ty} {k k' : IntKind} (hX : P.underlying X = some (.slice Y)) (hY : E.ty Y = some e) (hU : E.ty U = some (.int k)) {zs : List Value}
  (hz : zc E 40 e = some zs) (hzc : (eJ (bm e) zs).cells = zs.toArray) (hsz : szT E e ≠ 0) {n : Nat} (h0 : 0 < n) (hlim : n ≤ 68719476736) :
  (Builtin.append_ #[X, U] ty #[.slice none 0 0, .int k' n]).run P w = .ok (.slice (some (at_ w.heap.size 0)) n (grownCap w n 0 Y))
   (w.drew.alloc (.cells (Builtin.zeroCells zs.toArray n ++ Builtin.zeroCells zs.toArray (grownCap w n 0 Y - n)) Y)) := by
 obtain ⟨D, u1, u2⟩ := hT.und U _ hU
 cases D <;> first | exact u2.elim | skip
 obtain ⟨i, i1, i2, i3, i4⟩ := hT.inf Y e hY
 have hfit : Builtin.nextslicecap n 0 * i.bytes ≤ 281474976710656 := growslice_fits (by omega) (by
  have := Nat.mul_le_mul hlim i3
  omega)
 have hw : IntKind.i64.wrap (n : Int) = n := by
  have h1 : (n : Int) ≤ 68719476736 := by omega
  unfold IntKind.wrap
  simp [IntKind.bits, IntKind.signed]
  omega
 have hb : ¬ ((281474976710656 : Int) < (n : Int) * (i.bytes : Int)) := by
  have := Nat.mul_le_mul hlim i3
  have h2 : n * i.bytes ≤ 140737488355328 := by omega
  have h3 : ((n * i.bytes : Nat) : Int) ≤ 140737488355328 := by omega
  rw [Int.natCast_mul] at h3
  omega
 have hns : ¬ (n * szT E e = 0) := by
  intro h
  rcases Nat.mul_eq_zero.1 h with h | h
  ·omega
  ·exact hsz h
 have h63' : ¬ (9223372036854775807 < (n : Int)) := by omega
 have h48' : ¬ (281474976710656 < Builtin.nextslicecap n 0 * i.bytes) := by omega
 have hneg : ¬ ((n : Int) < 0) := by omega
 have hn0 : ¬ (n = 0) := by omega
 have hle : ¬ ((n : Int) ≤ 0) := by omega
 have hmax : max (n : Int) 0 = n := by omega
 simp [Builtin.append_, run_underlying hX, run_underlying u1, sizeOf, typeInfo, zeroValue, asInt, asIntOf, hle, hmax, i1, i2, i4 zs hz, hzc, hw, hb, hns, hneg, hn0, h63', h48', Question.forced, newRow, grownCap, at_, Builtin.firstCells]
theorem zh (hp : dW E w S H ρ Fr) {e : Ty} {a : AV E.C} {u : Value} {k : List (ap E.C e) → Option Nat → M E} (ha : aF P E w S H ρ Fr a u) (h : aj H (zx E e a k) T = some r) :
  (u = .slice none 0 0 ∧ ∃ T', aj H (k [] none) T' = some r) ∨ ∃ i L lo hi T', H[i]? = some (.row e L false) ∧ lo ≤ hi ∧ hi ≤ L.length ∧ aj H (k (slc L lo hi) (some i)) T' = some r ∧
   match ρ i with
   | none => ik u
   | some q => ∃ cap p, u = .slice (some (at_ q.b (p * szT E e))) (hi - lo) cap ∧ hi - lo ≤ cap ∧ lo + cap ≤ q.cp ∧ p ≤ q.p + lo ∧ (cap = 0 ∨ p = q.p + lo) := by
 unfold zx at h
 split at h
 ·unfold aF at ha
  exact .inl ⟨ha, _, h⟩
 ·rename_i i
  replace h := bw h
  obtain ⟨o, ho, h⟩ := h
  split at h
  ·rename_i e' l
   replace h := k0 h
   obtain ⟨rfl, h⟩ := h
   unfold aF at ha
   have hv := ha.2 _ _ _ ho
   refine .inr ⟨i, l, 0, l.length, _, ho, Nat.zero_le _, Nat.le_refl _, by rw [pX]; exact h, ?_⟩
   cases hρ : ρ i with
   | none => rw [hρ] at hv; exact hv
   | some q =>
    rw [hρ] at hv
    obtain ⟨cap, e1, e2, e3⟩ := hv
    exact ⟨cap, q.p, by simpa using e1, by simpa using e2, by simpa using e3, by omega, .inr rfl⟩
  ·cases h
 ·rename_i i lo hi
  replace h := bw h
  obtain ⟨o, ho, h⟩ := h
  split at h
  ·rename_i e' l
   replace h := k0 h
   obtain ⟨rfl, h⟩ := h
   replace h := bI h
   obtain ⟨hg, h⟩ := h
   simp only [Bool.and_eq_true, decide_eq_true_eq] at hg
   unfold aF at ha
   have hv := (ha.2 _ _ _ ho).2
   refine .inr ⟨i, l, lo, hi, _, ho, hg.1, hg.2, h, ?_⟩
   cases hρ : ρ i with
   | none => rw [hρ] at hv; exact hv.1
   | some q => rw [hρ] at hv; exact hv
  ·cases h
 ·cases h
theorem om (hT : eP P E) (hp : dW E w S H ρ Fr) (hC : dp P F) (hS : ∀ b, S b → b < w.heap.size) {s : Nat} (hs : Fr s) (hl : s + 1 ≤ H.length) {X U ty : TypeId} {a b : AV E.C} {u v : Value}
  (ha : aF P E w S H ρ Fr a u) (hb : aF P E w S H ρ Fr b v) (h : aj H (pk E F s (E.ty X) (E.ty U) a b) T = some r) : fQ P E w S H ρ Fr s 1 (Builtin.append_ #[X, U] ty #[u, v]) r.1 := by
 unfold pk at h
 split at h
 ·rename_i e f hX hU
  replace h := aT h
  obtain ⟨hzk, h⟩ := h
  obtain ⟨D, u1, u2⟩ := hT.und X _ hX
  cases D <;> first | exact u2.elim | skip
  rename_i Y
  obtain ⟨z, hz⟩ := fO 40 e hzk
  obtain ⟨zs, z1, _⟩ := dv 40 e z hT.env hz
  obtain ⟨zr, zl, zcl⟩ := nf hT hz z1
  have fin : ∀ (kill : Option Nat), (∀ i, kill = some i → ∃ o, H[i]? = some o ∧ o ≠ .dead) → ∀ (L : List (ap E.C e)) (T' : List Nat),
    aj H (jP E F 40 (.slice e) b [] fun (ys : List (ap E.C e)) _ => .gd (bX (L.length + ys.length)) (.ret ⟨.row s, [.row e (L ++ ys) false], wH E kill⟩)) T' = some r →
    wX E w S e L u → (∀ a c, u = .slice a L.length c → ∀ (ys : List (ap E.C e)) cssy, wX E w S e ys v → (∀ i x, ys[i]? = some x → aE E w S e x (cssy i)) → (∀ i, i < ys.length → (cssy i).length = szT E e) → L.length + ys.length ≤ c →
     ∃ w' ρ', ld P w w' a (L.length * szT E e) ((List.range ys.length).flatMap cssy) ∧
      f7 w w' S S H (fx kill (an H s (.row e (L ++ ys) false))) ρ ρ' Fr (shr Fr s 1) ∧ dW E w' S (fx kill (an H s (.row e (L ++ ys) false))) ρ' (shr Fr s 1) ∧
      ia E (fx kill (an H s (.row e (L ++ ys) false))) ρ' (shr Fr s 1) s (.slice a (L.length + ys.length) c)) →
    fQ P E w S H ρ Fr s 1 (Builtin.append_ #[X, U] ty #[u, v]) r.1 := by
   intro kill hkill L T' h hsl room
   replace h := kN hT.env hp hC hb h
   obtain ⟨ys, T1, T2, h, hys⟩ := h
   replace h := bI h
   obtain ⟨hg, h⟩ := h
   have hg : L.length + ys.length ≤ 68719476736 := by simpa [bX, zC] using hg
   simp only [aj, Option.some.injEq] at h
   subst h
   have hH : bE H s ⟨.row s, [.row e (L ++ ys) false], wH E kill⟩ = fx kill (an H s (.row e (L ++ ys) false)) := by
    cases kill <;> rfl
   have hki : ∀ i, kill = some i → i ≠ s := fun i hi e => by
    obtain ⟨o, ho, hd⟩ := hkill i hi
    exact hd (hp.fre i o (e ▸ hs) ho)
   obtain ⟨au, cu, cssl, rfl, hcu, rl, ll, nl, fl⟩ := hsl.cells hT.env
   obtain ⟨av, cv, cssy, rfl, hcv, ry, ly, ny, fy⟩ := hys.cells hT.env
   unfold fQ
   simp only [hH]
   by_cases hroom : L.length + ys.length ≤ cu
   ·obtain ⟨w', ρ', k1, k2, k3, k4⟩ := room au cu rfl ys cssy hys ry ly hroom
    exact ⟨_, w', S, ρ', qZ hT u1 u2 hU (fy w rfl _ (Nat.le_refl _) P) hroom w' k1, k2, k3, by unfold aF; exact k4⟩
   ·have hgr := rG (ty := ty) hT u1 u2 hU (c := cv) z1 zcl (fl w.drew rfl _ (Nat.le_refl _) P) (fy w.drew rfl _ (Nat.le_refl _) P) (by omega) hg
    have hge := grownCap_ge w (L.length + ys.length) cu Y
    have hL := cz cssl L.length _ ll
    have hY := cz cssy ys.length _ ly
    obtain ⟨ρ', k1, k2, k3⟩ := mK (k := 1) (e := e) (l := L ++ ys) (cp := grownCap w (L.length + ys.length) cu Y) hp hS hs (by omega) hl (fun j => if j < L.length then cssl j else cssy (j - L.length))
     (w' := w.drew.alloc (.cells ((List.range L.length).flatMap cssl ++ (List.range ys.length).flatMap cssy ++ (Builtin.zeroCells zs.toArray (grownCap w (L.length + ys.length) cu Y - (L.length + ys.length))).toList).toArray Y))
     rfl rfl rfl rfl (by simpa using hge) (by
      simp only [List.size_toArray, List.length_append, hL, hY, Array.length_toList, size_zeroCells, zl]
      rw [← Nat.add_mul, ← Nat.add_mul]
      exact Nat.mul_le_mul_right _ (by omega))
     (fun j x hx => by
      by_cases hj : j < L.length
      ·rw [List.getElem?_append_left hj] at hx
       simp only [if_pos hj]; exact rl j x hx
      ·rw [List.getElem?_append_right (by omega)] at hx
       simp only [if_neg hj]; exact ry _ x hx)
     (fun j k cc hj hk => by
      simp only [List.length_append] at hj
      simp only [List.getElem?_toArray]
      by_cases hj' : j < L.length
      ·simp only [if_pos hj'] at hk
       have := jb.arr cssl L.length _ ll hj' k cc hk
       rw [List.append_assoc, List.getElem?_append_left (List.getElem?_eq_some_iff.1 this).1]; exact this
      ·simp only [if_neg hj'] at hk
       have := jb.arr cssy ys.length _ ly (show j - L.length < ys.length by omega) k cc hk
       have hlt := (List.getElem?_eq_some_iff.1 this).1
       have e1 : j * szT E e + k = ((List.range L.length).flatMap cssl).length + ((j - L.length) * szT E e + k) := by
        rw [hL, ← Nat.add_assoc, ← Nat.add_mul]; congr 2; omega
       rw [e1, List.append_assoc, List.getElem?_append_right (by omega), Nat.add_sub_cancel_left, List.getElem?_append_left hlt]; exact this) kill hki
    refine ⟨_, _, S, ρ', hgr, k1, k2, ?_⟩
    unfold aF
    rw [List.length_append] at k3
    exact k3
  rcases zh hp ha h with ⟨rfl, T', h⟩ | ⟨i, L, lo, hi, T', ho, h1, h2, h, hm⟩
  ·refine fin none (by simp) [] T' h (.inl ⟨⟨_, rfl⟩, rfl⟩) fun a c hac ys cssy hys ry ly hroom => ?_
   have e1 : none = a ∧ (0 : Nat) = c := by simpa using hac
   obtain ⟨rfl, rfl⟩ := e1
   have : ys = [] := by cases ys with | nil => rfl | cons => simp at hroom
   subst this
   obtain ⟨ρ', k1, k2, k3⟩ := tI (k := 1) (e := e) ⟨_, rfl⟩ hp hS hs (by omega) hl none (by simp)
   exact ⟨w, ρ', rfl, k1, k2, k3⟩
  ·have hin : i ≠ s := fun e => hp.nfr ho (by simp) (e ▸ hs)
   have hlen : (slc L lo hi).length = hi - lo := by simp [slc]; omega
   have hsl : wX E w S e (slc L lo hi) u := pz hp ho h1 h2 (by
    cases hρ : ρ i with
    | none => rw [hρ] at hm; exact hm
    | some q =>
     rw [hρ] at hm
     obtain ⟨cap, p, e1, e2, e3, e4, e5⟩ := hm
     exact ⟨cap, _, e1, e2, e3, e5.imp id fun e => by rw [e]⟩)
   refine fin (some i) (fun j hj => ⟨_, (Option.some.inj hj) ▸ ho, by simp⟩) (slc L lo hi) T' h hsl fun a c hac ys cssy hys ry ly hroom => ?_
   have hob := hp.obs _ _ ho
   unfold dw at hob
   cases hρ : ρ i with
   | none =>
    rw [hρ] at hm; simp only at hm
    obtain ⟨a0, e0⟩ := ik.form hm
    have e1 : (a0 = a ∧ 0 = (slc L lo hi).length) ∧ (0 : Nat) = c := by rw [e0] at hac; simpa [and_assoc] using hac
    obtain ⟨⟨rfl, e2⟩, rfl⟩ := e1
    have : ys = [] := by cases ys with | nil => rfl | cons => simp at hroom
    subst this
    have : slc L lo hi = [] := List.length_eq_zero_iff.1 e2.symm
    rw [this]
    obtain ⟨ρ', k1, k2, k3⟩ := tI (k := 1) (e := e) (v := .slice a0 0 0) (e0 ▸ hm) hp hS hs (by omega) hl (some i) (fun j hj => by rw [← Option.some.inj hj]; exact hin)
    refine ⟨w, ρ', ?_, k1, k2, k3⟩
    unfold ld
    cases a0 with
    | none => rfl
    | some a0 => simp [storeCells]
   | some q =>
    rw [hρ] at hm
    obtain ⟨cap, p, rfl, k1, k2, k3, k4⟩ := hm
    have e1 : a = some (at_ q.b (p * szT E e)) ∧ cap = c := by
     have := hac
     simp only [Value.slice.injEq] at this
     exact ⟨this.1.symm, this.2.2⟩
    obtain ⟨rfl, rfl⟩ := e1
    rcases hob with ⟨_, h0⟩ | ⟨q', c, Tb, css, hq, hheap, o1, o2, o3, o4, _⟩
    ·rw [hρ] at h0; cases h0
    rw [hρ] at hq; obtain rfl := Option.some.inj hq
    rw [hlen] at hroom
    have hY := cz cssy ys.length _ ly
    have hcl : ∀ j, j < L.length → (css j).length = szT E e := fun j hj => (o3 j _ (List.getElem?_eq_getElem hj)).len hT.env
    have hbig : (p + (hi - lo) + ys.length) * szT E e ≤ (q.p + q.cp) * szT E e := Nat.mul_le_mul_right _ (by omega)
    have hfit : p * szT E e + (hi - lo) * szT E e + ((List.range ys.length).flatMap cssy).length ≤ c.toList.length := by
     rw [hY, ← Nat.add_mul, ← Nat.add_mul]; simp; omega
    have hst := run_storeCells_at P q.b (p * szT E e + (hi - lo) * szT E e) Tb ((List.range ys.length).flatMap cssy) 0 c w hheap (by simpa using hfit) (fun v hv => by
     obtain ⟨j, hj, hv⟩ := List.mem_flatMap.1 hv
     have hj : j < ys.length := by simpa using hj
     exact (ry j _ (List.getElem?_eq_getElem hj)).flat v hv)
    simp only [Nat.add_zero] at hst
    obtain ⟨g1, g2, g3, g4, g5, g6⟩ := ij w q.b (wr c.toList (p * szT E e + (hi - lo) * szT E e) ((List.range ys.length).flatMap cssy)).toArray hheap
    have hgetl : ∀ j x, (slc L lo hi ++ ys)[j]? = some x → (j < hi - lo ∧ L[lo + j]? = some x) ∨ (¬ j < hi - lo ∧ ys[j - (hi - lo)]? = some x) := fun j x hx => by
     by_cases hj : j < hi - lo
     ·rw [List.getElem?_append_left (by omega)] at hx
      exact .inl ⟨hj, (pK hx).1⟩
     ·rw [List.getElem?_append_right (by omega), hlen] at hx
      exact .inr ⟨hj, hx⟩
    obtain ⟨m1, m2⟩ := lw (k := 1) (o' := .row e (slc L lo hi ++ ys) false) (oq := some ⟨q.b, p, cap⟩) hp hS hs (by omega) hl (by rw [g3]; exact Nat.le_refl _) g4 g5 g6 (some i) (fun j hj => by rw [← Option.some.inj hj]; exact hin)
     (fun b hb hk => g2 b (hk i _ q rfl ho rfl hρ)) (fun q' hq' => .inr ⟨i, _, q, rfl, ho, rfl, hρ, by rw [← Option.some.inj hq']⟩) rfl (fx (some i) (an H s (.row e (slc L lo hi ++ ys) false))) rfl (fun m => by
      unfold dw
      refine .inr ⟨⟨q.b, p, cap⟩, _, Tb, fun j => if j < hi - lo then css (lo + j) else cssy (j - (hi - lo)), by simp, g1, by simp only [List.length_append, hlen]; exact hroom, ?_, fun j x hx => ?_, fun j k cc hj hk => ?_, fun h => by cases h⟩
      ·have : (p + cap) * szT E e ≤ (q.p + q.cp) * szT E e := Nat.mul_le_mul_right _ (by omega)
       simp only [List.size_toArray, kT hfit, Array.length_toList]; omega
      ·rcases hgetl j x hx with ⟨hj, hx⟩ | ⟨hj, hx⟩
       ·simp only [if_pos hj]; exact (o3 _ x hx).mono (fun _ h => h) m.st.2.2.1
       ·simp only [if_neg hj]; exact (ry _ x hx).mono (fun _ h => h) m.st.2.2.1
      ·simp only [List.length_append, hlen] at hj
       simp only [List.getElem?_toArray]
       rw [gC hfit, hY]
       by_cases hj' : j < hi - lo
       ·simp only [if_pos hj'] at hk
        have hkl : k < szT E e := by have := (List.getElem?_eq_some_iff.1 hk).1; rw [hcl _ (by omega)] at this; exact this
        have hin := jA (a := j) (b := hi - lo) (sz := szT E e) (k := k + 1) hj' (by omega)
        rw [if_neg (by rw [Nat.add_mul]; omega)]
        have hp' := k4.resolve_left (by omega)
        have := o4 (lo + j) k cc (by omega) hk
        rw [hp', Nat.add_assoc q.p]
        simpa using this
       ·simp only [if_neg hj'] at hk
        have hjn : j - (hi - lo) < ys.length := by omega
        have hkl : k < szT E e := by have := (List.getElem?_eq_some_iff.1 hk).1; rw [ly _ hjn] at this; exact this
        have hin := jA (a := j - (hi - lo)) (b := ys.length) (sz := szT E e) (k := k + 1) hjn (by omega)
        have e2 : (p + j) * szT E e = p * szT E e + (hi - lo) * szT E e + (j - (hi - lo)) * szT E e := by rw [← Nat.add_mul, ← Nat.add_mul]; congr 1; omega
        rw [e2, if_pos (by omega)]
        have := jb.arr cssy ys.length _ ly hjn k cc hk
        rw [← this]; congr 1; omega)
    refine ⟨_, _, ?_, m1, m2, ⟨⟨fun h => h.2 ⟨Nat.le_refl _, by omega⟩, _, _, _, rfl⟩, fun t' l' fz hh => ?_⟩⟩
    ·show (storeCells ((at_ q.b (p * szT E e)).add ((slc L lo hi).length * szT E e)) _).run P w = _
     rw [jJ, hlen]
     exact hst
    ·simp only [fx] at hh
     rw [cj _ _ (fun e => hin e.symm), bR _ _ (by omega)] at hh
     cases hh
     simp only [if_true]
     exact ⟨cap, by simp, by simp only [List.length_append, hlen]; exact hroom, Nat.le_refl _⟩
 ·rename_i e kk hX hU
  split at h
  ·rename_i hz
   rename_i z
   replace h := gD h
   obtain ⟨k3, n, rfl, h⟩ := h
   replace h := bI h
   obtain ⟨hg, h⟩ := h
   simp only [Bool.and_eq_true, decide_eq_true_eq, bX, zC, Nat.ble_eq] at hg
   cases hsz0 : Nat.beq (szT E e) 0 with
   | true => rw [hsz0] at h; cases h
   | false =>
    rw [hsz0] at h
    simp only [cond_false, aj, Option.some.injEq] at h
    subst h
    have hsz : szT E e ≠ 0 := fun e => by rw [e] at hsz0; cases hsz0
    unfold aF at ha
    subst ha
    obtain rfl := aX.1 hb
    obtain ⟨D, u1, u2⟩ := hT.und X _ hX
    cases D <;> first | exact u2.elim | skip
    rename_i Y
    obtain ⟨zs, z1, _⟩ := dv 40 e z hT.env hz
    obtain ⟨zr, zl, zcl⟩ := nf hT hz z1
    obtain ⟨m, rfl⟩ : ∃ m : Nat, n = (m : Int) := ⟨n.toNat, by omega⟩
    simp only [Int.toNat_natCast] at hg ⊢
    have hrun := qo (ty := ty) (k' := k3) (w := w) hT u1 u2 hU z1 zcl hsz (show 0 < m by omega) (by omega)
    have hge := grownCap_ge w m 0 Y
    have hzc : ∀ q, Builtin.zeroCells zs.toArray q = madeCells zs.toArray (q * szT E e) := fun q => by simp [Builtin.zeroCells, madeCells, zl]
    obtain ⟨ρ', h1, h2, h3⟩ := mK (k := 1) (w' := w.drew.alloc (.cells (Builtin.zeroCells zs.toArray m ++ Builtin.zeroCells zs.toArray (grownCap w m 0 Y - m)) Y)) (e := e) (l := List.replicate m z) (cp := grownCap w m 0 Y) hp hS hs (by omega) hl (fun _ => zs) rfl rfl rfl rfl
     (by simpa using hge) (by
      rw [Array.size_append, hzc, hzc, size_madeCells, size_madeCells, ← Nat.add_mul]
      exact Nat.mul_le_mul_right _ (by omega)) (fun j x hx => by
      rw [List.getElem?_replicate] at hx
      split at hx
      ·obtain rfl := Option.some.inj hx; exact zr w S
      ·cases hx) (fun j k cc hj hk => by
       have := no (n := m) zl (by simpa using hj) hk
       rw [Array.getElem?_append_left (by rw [hzc]; exact (Array.getElem?_eq_some_iff.1 this).1), hzc]
       exact this) none (by simp)
    refine ⟨_, _, S, ρ', hrun, h1, h2, ?_⟩
    rw [List.length_replicate] at h3
    unfold aF
    exact h3
  ·cases h
 ·cases h
theorem kE {α : Type} {L xs : List α} {lo : Nat} (h : lo + xs.length ≤ L.length) : (nu L lo xs).length = L.length := by simp [nu]; omega
theorem ym {α : Type} {L xs : List α} {lo : Nat} (h : lo + xs.length ≤ L.length) (i : Nat) : (nu L lo xs)[i]? = if lo ≤ i ∧ i < lo + xs.length then xs[i - lo]? else L[i]? := by
 unfold nu
 have h1 : (List.take lo L).length = lo := by simp; omega
 rw [List.append_assoc]
 by_cases hi : i < lo
 ·rw [List.getElem?_append_left (by omega), List.getElem?_take, if_pos hi, if_neg (by omega)]
 ·rw [List.getElem?_append_right (by omega), h1]
  by_cases hj : i < lo + xs.length
  ·rw [List.getElem?_append_left (by omega), if_pos ⟨by omega, hj⟩]
  ·rw [List.getElem?_append_right (by omega), List.getElem?_drop, if_neg (by omega)]
   congr 1; omega
theorem me (hE : iC E) (hp : dW E w S H ρ Fr) (hS : ∀ b, S b → b < w.heap.size) {i : Nat} {e : Ty} {L xs : List (ap E.C e)} (ho : H[i]? = some (.row e L false)) {lo : Nat} (hx : lo + xs.length ≤ L.length) {q : Pl} (hq : ρ i = some q)
  {cssx : Nat → List Value} (rx : ∀ j x, xs[j]? = some x → aE E w S e x (cssx j)) : ∃ c Tb, w.heap[q.b]? = some (.cells c Tb (0, 0)) ∧ (q.p + lo) * szT E e + xs.length * szT E e ≤ c.size ∧ (q.p + q.cp) * szT E e ≤ c.size ∧
   f7 w (w.setRow q.b (wr c.toList ((q.p + lo) * szT E e) ((List.range xs.length).flatMap cssx)).toArray) S S H (an H i (.row e (nu L lo xs) false)) ρ ρ Fr Fr ∧
   dW E (w.setRow q.b (wr c.toList ((q.p + lo) * szT E e) ((List.range xs.length).flatMap cssx)).toArray) S (an H i (.row e (nu L lo xs) false)) ρ Fr := by
 have hob := hp.obs _ _ ho
 unfold dw at hob
 rcases hob with ⟨_, h0⟩ | ⟨q', c, Tb, css, hq', hheap, o1, o2, o3, o4, _⟩
 ·rw [hq] at h0; cases h0
 rw [hq] at hq'; obtain rfl := Option.some.inj hq'
 have lx : ∀ j, j < xs.length → (cssx j).length = szT E e := fun j hj => (rx j _ (List.getElem?_eq_getElem hj)).len hE
 have hX := cz cssx xs.length _ lx
 have hcl : ∀ j, j < L.length → (css j).length = szT E e := fun j hj => (o3 j _ (List.getElem?_eq_getElem hj)).len hE
 have hbig : (q.p + lo + xs.length) * szT E e ≤ (q.p + q.cp) * szT E e := Nat.mul_le_mul_right _ (by omega)
 have hfit0 : (q.p + lo) * szT E e + xs.length * szT E e ≤ c.size := by rw [← Nat.add_mul]; omega
 have hfit : (q.p + lo) * szT E e + ((List.range xs.length).flatMap cssx).length ≤ c.toList.length := by rw [hX]; simpa using hfit0
 obtain ⟨g1, g2, g3, g4, g5, g6⟩ := ij w q.b (wr c.toList ((q.p + lo) * szT E e) ((List.range xs.length).flatMap cssx)).toArray hheap
 have hi := (List.getElem?_eq_some_iff.1 ho).1
 refine ⟨c, Tb, hheap, hfit0, o2, kW (o' := .row e (nu L lo xs) false) hp hS ho rfl hq g3 g4 g5 g6 g2 ⟨fun t l fz hh => ?_, fun t x fz hh => ?_⟩ rfl fun m => ?_⟩
 ·rw [bR _ _ hi] at hh
  cases hh
  exact ⟨_, _, ho, (kE hx).symm⟩
 ·rw [bR _ _ hi] at hh; exact (nomatch hh)
 ·unfold dw
  refine .inr ⟨q, _, Tb, fun j => if lo ≤ j ∧ j < lo + xs.length then cssx (j - lo) else css j, hq, g1, by rw [kE hx]; exact o1, by simp only [List.size_toArray, kT hfit, Array.length_toList]; exact o2, fun j x hxx => ?_, fun j k cc hj hk => ?_, fun h => by cases h⟩
  ·rw [ym hx] at hxx
   by_cases hj : lo ≤ j ∧ j < lo + xs.length
   ·rw [if_pos hj] at hxx; simp only [if_pos hj]; exact (rx _ x hxx).mono (fun _ h => h) m.st.2.2.1
   ·rw [if_neg hj] at hxx; simp only [if_neg hj]; exact (o3 _ x hxx).mono (fun _ h => h) m.st.2.2.1
  ·rw [kE hx] at hj
   simp only [List.getElem?_toArray]
   rw [gC hfit, hX]
   by_cases hj' : lo ≤ j ∧ j < lo + xs.length
   ·simp only [if_pos hj'] at hk
    have hjn : j - lo < xs.length := by omega
    have hkl : k < szT E e := by have := (List.getElem?_eq_some_iff.1 hk).1; rw [lx _ hjn] at this; exact this
    have hin := jA (a := j - lo) (b := xs.length) (sz := szT E e) (k := k + 1) hjn (by omega)
    have e2 : (q.p + j) * szT E e = (q.p + lo) * szT E e + (j - lo) * szT E e := by rw [← Nat.add_mul]; congr 1; omega
    rw [e2, if_pos (by omega)]
    have := jb.arr cssx xs.length _ lx hjn k cc hk
    rw [← this]; congr 1; omega
   ·simp only [if_neg hj'] at hk
    have hkl : k < szT E e := by have := (List.getElem?_eq_some_iff.1 hk).1; rw [hcl _ hj] at this; exact this
    rw [if_neg]
    ·simpa using o4 j k cc hj hk
    ·intro hh
     rw [← Nat.add_mul] at hh
     rcases Nat.lt_or_ge j lo with h1 | h1
     ·have := jA (a := q.p + j) (b := q.p + lo) (sz := szT E e) (k := k + 1) (by omega) (by omega)
      omega
     ·have := Nat.mul_le_mul_right (szT E e) (show q.p + lo + xs.length ≤ q.p + j by omega)
      omega
theorem mu {α : Type} {l : List α} {i : Nat} {x : α} (h : l[i]? = some x) : an l i x = l := by
 refine List.ext_getElem? fun j => ?_
 rw [aQ]
 split
 ·rename_i e; subst e; rw [if_pos (List.getElem?_eq_some_iff.1 h).1, h]
 ·rfl
theorem oF (hT : eP P E) (hp : dW E w S H ρ Fr) (hS : ∀ b, S b → b < w.heap.size) {s : Nat} {X U ty Y : TypeId} {e : Ty} (u1 : P.underlying X = some (.slice Y)) (u2 : E.ty Y = some e) {i lo hi : Nat} {L ys : List (ap E.C e)} {u v : Value}
  (ho : H[i]? = some (.row e L false)) (h1 : lo ≤ hi) (h2 : hi ≤ L.length) (hm : match ρ i with
   | none => ik u
   | some q => ∃ cap off, u = .slice (some (at_ q.b off)) (hi - lo) cap ∧ hi - lo ≤ cap ∧ lo + cap ≤ q.cp ∧ (cap = 0 ∨ off = (q.p + lo) * szT E e) ∧ off ≤ (q.p + lo) * szT E e) (hys : wX E w S e ys v) :
  fQ P E w S H ρ Fr s 0 (Builtin.copy_ #[X, U] ty #[u, v]) ⟨.pv (.int .i64) ((min ys.length (hi - lo) : Nat) : Int), [], [(i, .row e (nu L lo (ys.take (hi - lo))) false)]⟩ := by
 obtain ⟨av, cv, cssy, rfl, hcv, ry, ly, ny, fy⟩ := hys.cells hT.env
 have hob := hp.obs _ _ ho
 unfold fQ
 rw [jh]
 have htl : (ys.take (hi - lo)).length = min ys.length (hi - lo) := by rw [List.length_take, Nat.min_comm]
 cases hρ : ρ i with
 | none =>
  rw [hρ] at hm; simp only at hm
  obtain ⟨a0, rfl⟩ := ik.form hm
  unfold dw at hob
  rcases hob with ⟨rfl, _⟩ | ⟨q, _, _, _, hq, _⟩
  ·have hhi : hi - lo = 0 := by simp at h2; omega
   rw [hhi]
   have hH : bE H s ⟨.pv (.int .i64) ((min ys.length 0 : Nat) : Int), [], [(i, .row e (nu ([] : List (ap E.C e)) lo (ys.take 0)) false)]⟩ = H := by
    show an H i _ = H
    simp only [nu]
    simpa using mu ho
   rw [hH]
   refine ⟨_, w, S, ρ, ?_, f7.refl hS, hp, aX.2 rfl⟩
   have := fy w rfl 0 (Nat.zero_le _) P
   cases a0 <;> simp [Builtin.copy_, run_underlying u1, bW hT u2, Builtin.lenOf, this, goInt, storeCells]
  ·rw [hρ] at hq; cases hq
 | some q =>
  rw [hρ] at hm
  obtain ⟨cap, off, rfl, k1, k2, k3, k4⟩ := hm
  obtain ⟨c, Tb, hheap, f1, f2, m1, m2⟩ := me (xs := ys.take (hi - lo)) (lo := lo) (cssx := cssy) hT.env hp hS ho (by rw [htl]; omega) hρ (fun j x hx => by
   rw [List.getElem?_take] at hx
   split at hx
   ·exact ry j x hx
   ·cases hx)
  rw [htl] at f1 m1 m2
  refine ⟨_, _, S, ρ, ?_, m1, m2, aX.2 rfl⟩
  have hn : Nat.min ys.length (hi - lo) = min ys.length (hi - lo) := rfl
  have hf := fy w rfl (min ys.length (hi - lo)) (Nat.min_le_left _ _) P
  have hflat := cz cssy (min ys.length (hi - lo)) _ fun j hj => ly j (by omega)
  have hst : (storeCells (at_ q.b off) ((List.range (min ys.length (hi - lo))).flatMap cssy)).run P w = .ok () (w.setRow q.b (wr c.toList ((q.p + lo) * szT E e) ((List.range (min ys.length (hi - lo))).flatMap cssy)).toArray) := by
   have hst := run_storeCells_at P q.b off Tb ((List.range (min ys.length (hi - lo))).flatMap cssy) 0 c w hheap (by rw [hflat]; simp; omega) (fun v hv => by
    obtain ⟨j, hj, hv⟩ := List.mem_flatMap.1 hv
    have hj2 : j < min ys.length (hi - lo) := by simpa using hj
    have hj : j < ys.length := by omega
    exact (ry j _ (List.getElem?_eq_getElem hj)).flat v hv)
   simp only [Nat.add_zero] at hst
   rcases Nat.eq_zero_or_pos (min ys.length (hi - lo)) with h0 | h0
   ·rw [h0] at hst ⊢
    simp only [List.range_zero, List.flatMap_nil, tx] at hst ⊢
    simpa [at_] using hst
   ·rcases k3 with k3 | k3
    ·omega
    ·subst k3; exact hst
  simp [Builtin.copy_, run_underlying u1, bW hT u2, Builtin.lenOf, hn, hf, hst, goInt]
theorem rF (hT : eP P E) (hp : dW E w S H ρ Fr) (hC : dp P F) (hS : ∀ b, S b → b < w.heap.size) {s : Nat} {X U ty : TypeId} {a b : AV E.C} {u v : Value} (ha : aF P E w S H ρ Fr a u) (hb : aF P E w S H ρ Fr b v)
  (h : aj H (wY E F (E.ty X) a b) T = some r) : fQ P E w S H ρ Fr s 0 (Builtin.copy_ #[X, U] ty #[u, v]) r.1 := by
 unfold wY at h
 split at h
 ·rename_i e hX
  obtain ⟨D, u1, u2⟩ := hT.und X _ hX
  cases D <;> first | exact u2.elim | skip
  rename_i Y
  split at h
  ·rename_i i
   replace h := bw h
   obtain ⟨o, ho, h⟩ := h
   split at h
   ·rename_i e' l
    replace h := k0 h
    obtain ⟨rfl, h⟩ := h
    replace h := kN hT.env hp hC hb h
    obtain ⟨ys, T1, T2, h, hys⟩ := h
    simp only [aj, Option.some.injEq] at h
    subst h
    unfold aF at ha
    have hv := ha.2 _ _ _ ho
    exact oF hT hp hS u1 u2 ho (Nat.zero_le _) (Nat.le_refl _) (by
     cases hρ : ρ i with
     | none => rw [hρ] at hv; exact hv
     | some q =>
      rw [hρ] at hv
      obtain ⟨cap, e1, e2, e3⟩ := hv
      exact ⟨cap, _, by simpa using e1, by simpa using e2, by simpa using e3, .inr rfl, Nat.le_refl _⟩) hys
   ·cases h
  ·rename_i i lo hi
   replace h := bw h
   obtain ⟨o, ho, h⟩ := h
   split at h
   ·rename_i e' l
    replace h := k0 h
    obtain ⟨rfl, h⟩ := h
    replace h := kN hT.env hp hC hb h
    obtain ⟨ys, T1, T2, h, hys⟩ := h
    replace h := bI h
    obtain ⟨hg, h⟩ := h
    simp only [Bool.and_eq_true, decide_eq_true_eq] at hg
    simp only [aj, Option.some.injEq] at h
    subst h
    unfold aF at ha
    have hv := (ha.2 _ _ _ ho).2
    exact oF hT hp hS u1 u2 ho hg.1 hg.2 (by
     cases hρ : ρ i with
     | none => rw [hρ] at hv; exact hv.1
     | some q =>
      rw [hρ] at hv
      obtain ⟨cap, p, e1, e2, e3, e4, e5⟩ := hv
      exact ⟨cap, _, e1, e2, e3, e5.imp id fun e => by rw [e], Nat.mul_le_mul_right _ e4⟩) hys
   ·cases h
  ·cases h
 ·cases h
theorem n9 {zs : List Value} {n sz : Nat} (hz : zs.length = sz) : (Builtin.zeroCells zs.toArray n).toList = (List.range n).flatMap fun _ => zs := by
 have : Builtin.zeroCells zs.toArray n = madeCells zs.toArray (n * sz) := by simp [Builtin.zeroCells, madeCells, hz]
 rw [this, oU hz, fG]
theorem pA (hT : eP P E) (hp : dW E w S H ρ Fr) (hS : ∀ b, S b → b < w.heap.size) {s : Nat} {X ty : TypeId} {a : AV E.C} {u : Value} (ha : aF P E w S H ρ Fr a u)
  (h : aj H (tq E (E.ty X) a) T = some r) : fQ P E w S H ρ Fr s 0 (Builtin.clear_ #[X] ty #[u]) r.1 := by
 unfold tq at h
 split at h
 ·rename_i e hX
  obtain ⟨D, u1, u2⟩ := hT.und X _ hX
  cases D <;> first | exact u2.elim | skip
  rename_i Y
  split at h
  ·rename_i z hz
   obtain ⟨zs, z1, _⟩ := dv 40 e z hT.env hz
   obtain ⟨zr, zl, zcl⟩ := nf hT hz z1
   split at h
   ·rename_i i lo hi
    replace h := bw h
    obtain ⟨o, ho, h⟩ := h
    split at h
    ·rename_i e' L
     replace h := k0 h
     obtain ⟨rfl, h⟩ := h
     replace h := bI h
     obtain ⟨hg, h⟩ := h
     simp only [Bool.and_eq_true, decide_eq_true_eq] at hg
     simp only [aj, Option.some.injEq] at h
     subst h
     unfold aF at ha
     have hv := (ha.2 _ _ _ ho).2
     have hob := hp.obs _ _ ho
     unfold fQ
     rw [jh]
     cases hρ : ρ i with
     | none =>
      rw [hρ] at hv
      obtain ⟨hnv, hi0⟩ := hv
      obtain ⟨a0, rfl⟩ := ik.form hnv
      unfold dw at hob
      rcases hob with ⟨rfl, _⟩ | ⟨q, _, _, _, hq, _⟩
      ·subst hi0
       have hH : bE H s ⟨.tup [], [], [(i, .row e' (nu ([] : List (ap E.C e')) lo (List.replicate (0 - lo) z)) false)]⟩ = H := by
        show an H i _ = H
        simp only [nu]
        simpa using mu ho
       rw [hH]
       refine ⟨_, w, S, ρ, ?_, f7.refl hS, hp, by unfold aF; exact ⟨[], rfl, by unfold az; rfl⟩⟩
       cases a0 <;> simp [Builtin.clear_, run_underlying u1, storeCells]
      ·rw [hρ] at hq; cases hq
     | some q =>
      rw [hρ] at hv
      obtain ⟨cap, p, rfl, k1, k2, k3, k4⟩ := hv
      obtain ⟨c, Tb, hheap, f1, f2, m1, m2⟩ := me (xs := List.replicate (hi - lo) z) (lo := lo) (cssx := fun _ => zs) hT.env hp hS ho (by simp; omega) hρ (fun j x hx => by
       rw [List.getElem?_replicate] at hx
       split at hx
       ·obtain rfl := Option.some.inj hx; exact zr w S
       ·cases hx)
      rw [List.length_replicate] at f1 m1 m2
      refine ⟨_, _, S, ρ, ?_, m1, m2, by unfold aF; exact ⟨[], rfl, by unfold az; rfl⟩⟩
      rcases Nat.eq_zero_or_pos (hi - lo) with h0 | h0
      ·rw [h0]
       have : (wr c.toList ((q.p + lo) * szT E e') ((List.range 0).flatMap fun _ => zs)).toArray = c := by simp [tx]
       rw [this, setRow_self w q.b c Tb _ hheap]
       simp [Builtin.clear_, run_underlying u1]
      ·have hp' := k4.resolve_left (by omega)
       subst hp'
       have hflat := cz (fun _ => zs) (hi - lo) (szT E e') fun _ _ => zl
       have hst := run_storeCells_at P q.b ((q.p + lo) * szT E e') Tb ((List.range (hi - lo)).flatMap fun _ => zs) 0 c w hheap (by rw [hflat]; simpa using f1) (fun v hv => by
        obtain ⟨j, hj, hv⟩ := List.mem_flatMap.1 hv
        exact (zr w S).flat v hv)
       simp only [Nat.add_zero] at hst
       obtain ⟨n, hn⟩ : ∃ n, hi - lo = n + 1 := ⟨hi - lo - 1, by omega⟩
       rw [hn] at hst ⊢
       have hzr := mR hT u2 z1 w
       have hzf := n9 (n := n + 1) zl
       simp [Builtin.clear_, run_underlying u1, hzr, zcl, hzf]
       rw [show (storeCells (at_ q.b ((q.p + lo) * szT E e')) ((List.range (n + 1)).flatMap fun _ => zs)).run P w = _ from hst]
       rfl
    ·cases h
   ·cases h
  ·cases h
 ·cases h
end
end Go.Ev
end
section
namespace Go.Ev
section
variable {P : Program} {E : dD} {w w' : World} {S S' : Nat → Prop} {H H' : List (Ob E.C)} {ρ ρ' : Nat → Option Pl} {Fr Fr' : Nat → Prop} {F : List (Nat × cw E.C)}
variable {T : List Nat} {r : lF E.C × List Nat}
structure tP (P : Program) (E : dD) (a : Act) (w : World) (S : Nat → Prop) (H : List (Ob E.C)) (ρ : Nat → Option Pl) (Fr : Nat → Prop) (tm : List (AV E.C)) : Prop where
 tmp : ∀ i v, tm[i]? = some v → aF P E w S H ρ Fr v (a.tmps.getD i undef)
 len : a.tmps.size = tm.length
 hp : dW E w S H ρ Fr
 sb : ∀ b, S b → b < w.heap.size
theorem fp {a : Act} {tm : List (AV E.C)} (st : tP P E a w S H ρ Fr tm) (x : Operand) : aF P E w S H ρ Fr (cX E tm x) (a.eval x) := by
 cases x with
 | tmp t =>
  unfold cX Act.eval
  dsimp only
  split
  ·rename_i v hv; exact st.tmp t v hv
  ·unfold aF; trivial
 | const v =>
  unfold cX Act.eval
  dsimp only
  unfold uf
  split
  ·exact fI.2 rfl
  ·exact aX.2 rfl
  ·exact iv.2 rfl
  ·unfold aF; rfl
  ·unfold aF; trivial
 | global g => unfold cX aF; trivial
 | func f => unfold cX Act.eval aF; exact ⟨[], rfl, by unfold az; rfl⟩
theorem gI {a : Act} {tm : List (AV E.C)} (st : tP P E a w S H ρ Fr tm) : ∀ xs : List Operand, az P E w S H ρ Fr (xs.map (cX E tm)) (xs.map a.eval)
 | [] => by unfold az; rfl
 | x :: xs => by
  simp only [List.map_cons]
  unfold az
  exact ⟨_, _, rfl, fp st x, gI st xs⟩
theorem kb {a : Act} {tm : List (AV E.C)} (st : tP P E a w S H ρ Fr tm) : ∀ ps : List (Nat × Operand), kL P E w S H ρ Fr (ps.map fun p => (p.1, cX E tm p.2)) (ps.map fun p => (p.1, a.eval p.2))
 | [] => by trivial
 | (i, x) :: ps => ⟨rfl, fp st x, kb st ps⟩
theorem kI {a : Act} {tm : List (AV E.C)} (st : tP P E a w S H ρ Fr tm) (x : Option Operand) : qO P E w S H ρ Fr (x.map (cX E tm)) (x.map a.eval) := by
 cases x with
 | none => trivial
 | some x => exact fp st x
def qJ (P : Program) (E : dD) (o : Oper) (a : Act) (w : World) (S : Nat → Prop) (H : List (Ob E.C)) (ρ : Nat → Option Pl) (Fr : Nat → Prop) (s k : Nat) (r : lF E.C) : Prop :=
 ∀ (next : Act → World → Prop) (Q : Exit → Act → World → Prop), (∀ u w' S' ρ', f7 w w' S S' H (bE H s r) ρ ρ' Fr (shr Fr s k) → dW E w' S' (bE H s r) ρ' (shr Fr s k) → aF P E w' S' (bE H s r) ρ' (shr Fr s k) r.v u → next (a.put o.dst u) w') →
  o.upon P a next Q ((execOp a.eval o).run P w)
theorem fQ.op {o : Oper} {a : Act} {s k : Nat} {m : Sem Value} {r : lF E.C} (h : fQ P E w S H ρ Fr s k m r) (hm : (execOp a.eval o).run P w = (m.run P w).andThen fun u w' => .ok (.value u) w') : qJ P E o a w S H ρ Fr s k r := by
 intro next Q hn
 obtain ⟨u, w', S', ρ', h1, h2, h3, h4⟩ := h
 rw [hm, h1]
 exact hn u w' S' ρ' h2 h3 h4
theorem ak.op {o : Oper} {a : Act} {s : Nat} {m : Sem Value} {r : lF E.C} (h : ak P E w S H ρ Fr m r) (hp : dW E w S H ρ Fr) (hS : ∀ b, S b → b < w.heap.size) (hm : (execOp a.eval o).run P w = (m.run P w).andThen fun u w' => .ok (.value u) w') :
  qJ P E o a w S H ρ Fr s 0 r := (h.eff hp hS s).op hm
theorem az.nth : ∀ {vs : List (AV E.C)} {us : List Value} {i : Nat} {v : AV E.C}, az P E w S H ρ Fr vs us → vs[i]? = some v → ∃ u, us[i]? = some u ∧ aF P E w S H ρ Fr v u
 | [], _, _, _, _, hv => by simp at hv
 | x :: vs, us, 0, v, h, hv => by
  unfold az at h
  obtain ⟨u, us', rfl, h1, h2⟩ := h
  obtain rfl : x = v := by simpa using hv
  exact ⟨u, rfl, h1⟩
 | x :: vs, us, i + 1, v, h, hv => by
  unfold az at h
  obtain ⟨u, us', rfl, h1, h2⟩ := h
  obtain ⟨u', h3, h4⟩ := az.nth h2 (by simpa using hv)
  exact ⟨u', by simpa using h3, h4⟩
def tD : Op → Bool
 | .call c => match c.callee with | .builtin _ => true | _ => false
 | _ => true
theorem wi (hT : eP P E) (hC : dp P F) {o : Oper} {a : Act} {tm : List (AV E.C)} (st : tP P E a w S H ρ Fr tm) {s : Nat} (hs : ∀ j, s ≤ j → j < s + bg E F o.op → Fr j) (hl : s + bg E F o.op ≤ H.length)
  (hpl : tD o.op = true) (h : aj H (mI E F s tm o.op) [] = some r) : qJ P E o a w S H ρ Fr s (bg E F o.op) r.1 := by
 have ok : ∀ x, aF P E w S H ρ Fr (cX E tm x) (a.eval x) := fp st
 obtain ⟨dst, op, ty, pos, after, guard⟩ := o
 dsimp only at hs hl hpl h ⊢
 cases op <;> first | (cases h; done) | skip
 case move x => exact (ak.rv (m := pure (a.eval x)) h rfl (ok x)).op st.hp st.sb (by simp [execOp])
 case assign x => exact (ak.rv (m := pure (a.eval x)) h rfl (ok x)).op st.hp st.sb (by simp [execOp])
 case alloc X =>
  exact (qE hT st.hp st.sb (hs s (Nat.le_refl _) (by simp [bg])) (by simpa [bg] using hl) h).op (by simp [execOp])
 case box X x =>
  exact (vM hT st.hp st.sb (hs s (Nat.le_refl _) (by simp [bg])) (by simpa [bg] using hl) (ok x) h).op (by simp [execOp])
 case build X ps =>
  have := qq hT st.hp hC (kb st ps.toList) h
  refine this.op st.hp st.sb ?_
  have e : (ps.toList.map fun p => (p.1, a.eval p.2)).toArray = ps.map fun p => (p.1, a.eval p.2) := by apply Array.ext'; simp
  rw [e]
  simp [execOp]
 case buildSlice X n ps =>
  have := lz hT st.hp hC st.sb (hs s (Nat.le_refl _) (by simp [bg])) (by simpa [bg] using hl) (kb st ps.toList) h
  refine this.op ?_
  have e : (ps.toList.map fun p => (p.1, a.eval p.2)).toArray = ps.map fun p => (p.1, a.eval p.2) := by apply Array.ext'; simp
  rw [e]
  simp [execOp]
 case load X x => exact (qx hT st.hp (ok x) h).op st.hp st.sb (by simp [execOp])
 case binOp op X x y Y =>
  refine (sZ (xo := x) (yo := y) hT st.hp hC (ok x) (ok y) h).op st.hp st.sb ?_
  simp only [execOp, Sem.run_bind, Sem.run_pure]
 case unOp op X x => exact (ve (ok x) h).op st.hp st.sb (by simp [execOp])
 case convert X Y x => exact (qy hT (ok x) h).op st.hp st.sb (by simp [execOp])
 case makeSlice X n c => exact (m8 hT st.hp st.sb (hs s (Nat.le_refl _) (by simp [bg])) (by simpa [bg] using hl) (ok n) (ok c) h).op (by simp [execOp])
 case fieldAddr X x f => exact (lS hT (ok x) h).op st.hp st.sb (by simp [execOp])
 case field X x f => exact (pV hT (ok x) h).op st.hp st.sb (by simp [execOp])
 case store X x y =>
  obtain ⟨u, w', S', ρ', h1, h2, h3, h4⟩ := qf hT st.hp hC st.sb (s := s) (ok x) (ok y) h
  intro next Q hn
  simp only [Sem.run_bind] at h1
  simp only [execOp, Sem.run_bind]
  cases hr : (Instr.storeAt X (a.eval x) (a.eval y)).run P w with
  | halt x w => rw [hr] at h1; cases h1
  | ok v w1 =>
   rw [hr] at h1
   obtain ⟨rfl, rfl⟩ : undef = u ∧ w1 = w' := by simpa using h1
   exact hn undef w1 S' ρ' h2 h3 h4
 case pick c x y =>
  simp only [mI] at h
  split at h
  ·split at h
   ·rename_i p hc
    have hcv : aF P E w S H ρ Fr (.pv .bool p) (a.eval c) := hc ▸ ok c
    have hce := fI.1 hcv
    replace h : aj H (rv E (cond p (cX E tm x) (cX E tm y))) [] = some r := h
    refine (ak.rv (m := pure (cond p (a.eval x) (a.eval y))) h rfl (by cases p; exact ok y; exact ok x)).op st.hp st.sb ?_
    simp only [execOp, hce]
    cases p <;> simp [asBool]
   ·cases h
  ·cases h
 case nilCheck x =>
  simp only [mI] at h
  split at h
  ·rename_i i p t hx
   have hv : aF P E w S H ρ Fr (.adr i p t) (a.eval x) := hx ▸ ok x
   obtain ⟨b, off, hb⟩ := (gc.1 hv).2.1
   exact (ak.rv (m := pure (a.eval x)) h rfl hv).op st.hp st.sb (by simp [execOp, hb])
  ·split at h
   ·rename_i t y hx
    have hv : aF P E w S H ρ Fr (.pv (.ptr t) y) (a.eval x) := hx ▸ ok x
    obtain ⟨cs, c1, c2⟩ := (cF (by intro _ _ h; cases h)).1 hv
    obtain ⟨b, off, ds, rfl, _⟩ := c1.inv_ptr
    exact (ak.rv (m := pure (a.eval x)) h rfl hv).op st.hp st.sb (by simp [execOp, c2, eJ, bm])
   ·cases h
  ·cases h
 case extract x i =>
  simp only [mI] at h
  split at h
  ·rename_i vs hx
   split at h
   ·rename_i v hv
    have hxv : aF P E w S H ρ Fr (.tup vs) (a.eval x) := hx ▸ ok x
    unfold aF at hxv
    obtain ⟨us, hu, hus⟩ := hxv
    obtain ⟨u, h1, h2⟩ := az.nth hus hv
    exact (ak.rv (m := pure u) h rfl h2).op st.hp st.sb (by simp [execOp, Instr.extract, hu, h1])
   ·cases h
  ·cases h
 case makeFunc fn fst cs =>
  cases fn <;> first | (cases h; done) | skip
  rename_i f
  simp only [mI] at h
  split at h
  ·rename_i hf
   have hf : fst = #[] := by apply Array.ext'; simpa using hf
   subst hf
   refine (ak.rv (m := pure (.func (.func f) #[] (cs.map a.eval))) h rfl ?_).op st.hp st.sb (by simp [execOp, Instr.makeFunc])
   unfold aF
   exact ⟨cs.toList.map a.eval, by congr 1; apply Array.ext'; simp, gI st cs.toList⟩
  ·cases h
 case slice X x lo hi mx =>
  simp only [mI] at h
  replace h := aT h
  obtain ⟨hc, h⟩ := h
  refine (pP hT st.hp (ok x) (kI st lo) (kI st hi) (kI st mx) (fun hm => ?_) h).op st.hp st.sb (by simp [execOp])
  cases mx <;> cases hi <;> simp_all
 case indexAddr X x i =>
  simp only [mI] at h
  replace h := gD h
  obtain ⟨k, n, hi, h⟩ := h
  have hv : aF P E w S H ρ Fr (.pv (.int k) n) (a.eval i) := hi ▸ ok i
  have he := aX.1 hv
  exact (lH (k := k) hT st.hp (ok x) h).op st.hp st.sb (by simp [execOp, he])
 case index X x i =>
  simp only [mI] at h
  replace h := gD h
  obtain ⟨k, n, hi, h⟩ := h
  have hv : aF P E w S H ρ Fr (.pv (.int k) n) (a.eval i) := hi ▸ ok i
  have he := aX.1 hv
  exact (qb (k := k) hT (ok x) h).op st.hp st.sb (by simp [execOp, he])
 case call c =>
  obtain ⟨callee, args, ats⟩ := c
  cases callee <;> first | (cases hpl; done) | skip
  rename_i b
  have hb : ∀ (m : Sem Value), (∀ cs, builtin b ats ty cs (args.map a.eval) = (do pure (.value (← m)))) →
    (execOp a.eval ⟨dst, .call ⟨.builtin b, args, ats⟩, ty, pos, after, guard⟩).run P w = (m.run P w).andThen fun u w' => .ok (.value u) w' := by
   intro m hm
   simp [execOp, resolve, invoke, hm]
  have one : ∀ {x : AV E.C}, args.toList.map (cX E tm) = [x] → ∃ y, args = #[y] ∧ cX E tm y = x := by
   intro x e1
   cases hq : args.toList with
   | nil => rw [hq] at e1; simp at e1
   | cons y ys =>
    rw [hq] at e1
    cases ys <;> simp at e1
    exact ⟨y, by apply Array.ext'; simpa using hq, e1⟩
  have two : ∀ {x z : AV E.C}, args.toList.map (cX E tm) = [x, z] → ∃ y y', args = #[y, y'] ∧ cX E tm y = x ∧ cX E tm y' = z := by
   intro x z e1
   cases hq : args.toList with
   | nil => rw [hq] at e1; simp at e1
   | cons y ys =>
    rw [hq] at e1
    match ys, hq, e1 with
    | [], _, e1 => simp at e1
    | [y'], hq, e1 => simp at e1; exact ⟨y, y', by apply Array.ext'; simpa using hq, e1.1, e1.2⟩
    | _ :: _ :: _, _, e1 => simp at e1
  simp only [mI] at h
  split at h
  ·rename_i x T' e1 e2
   obtain ⟨y, rfl, rfl⟩ := one e1
   have ht : ats = #[T'] := by apply Array.ext'; simpa using e2
   subst ht
   exact (t6 (ty := ty) hT st.hp (ok y) h).op st.hp st.sb (hb _ (fun cs => by simp [builtin]))
  ·rename_i x T' e1 e2
   obtain ⟨y, rfl, rfl⟩ := one e1
   have ht : ats = #[T'] := by apply Array.ext'; simpa using e2
   subst ht
   unfold AL at h
   split at h
   ·rename_i e3 hty hnil
    have hy := ok y
    rw [hnil] at hy
    unfold aF at hy
    obtain ⟨D, u1, u2⟩ := hT.und T' _ hty
    cases D <;> first | exact u2.elim | skip
    refine (ak.rv (m := Builtin.cap_ #[T'] ty #[a.eval y]) h ?_ (aX.2 rfl)).op st.hp st.sb (hb _ (fun cs => by simp [builtin]))
    simp [Builtin.cap_, hy, run_underlying u1, goInt]
   ·cases h
  ·rename_i x z T' U' e1 e2
   obtain ⟨y, y', rfl, rfl, rfl⟩ := two e1
   have ht : ats = #[T', U'] := by apply Array.ext'; simpa using e2
   subst ht
   exact (om (ty := ty) hT st.hp hC st.sb (hs s (Nat.le_refl _) (by simp [bg])) (by simpa [bg] using hl) (ok y) (ok y') h).op (hb _ (fun cs => by simp [builtin]))
  ·rename_i x z T' U' e1 e2
   obtain ⟨y, y', rfl, rfl, rfl⟩ := two e1
   have ht : ats = #[T', U'] := by apply Array.ext'; simpa using e2
   subst ht
   exact (rF (U := U') (ty := ty) hT st.hp hC st.sb (ok y) (ok y') h).op (hb _ (fun cs => by simp [builtin]))
  ·rename_i x T' e1 e2
   obtain ⟨y, rfl, rfl⟩ := one e1
   have ht : ats = #[T'] := by apply Array.ext'; simpa using e2
   subst ht
   exact (pA (ty := ty) hT st.hp st.sb (ok y) h).op (hb _ (fun cs => by simp [builtin]))
  ·rename_i x z e1
   obtain ⟨y, y', rfl, rfl, rfl⟩ := two e1
   replace h := gD h
   obtain ⟨k, n, h1, h⟩ := h
   replace h := gD h
   obtain ⟨k', m, h2, h⟩ := h
   replace h := aT h
   obtain ⟨hk, h⟩ := h
   have v1 : aF P E w S H ρ Fr (.pv (.int k) n) (a.eval y) := h1 ▸ ok y
   have v2 : aF P E w S H ρ Fr (.pv (.int k') m) (a.eval y') := h2 ▸ ok y'
   have w1 := aX.1 v1
   have w2 := aX.1 v2
   refine (ak.rv (m := Builtin.max_ ats ty #[a.eval y, a.eval y']) h ?_ (aX.2 rfl)).op st.hp st.sb (hb _ (fun cs => by simp [builtin]))
   simp [Builtin.max_, w1, w2, Builtin.max2, fF]
  ·rename_i x z e1
   obtain ⟨y, y', rfl, rfl, rfl⟩ := two e1
   replace h := gD h
   obtain ⟨k, n, h1, h⟩ := h
   replace h := gD h
   obtain ⟨k', m, h2, h⟩ := h
   replace h := aT h
   obtain ⟨hk, h⟩ := h
   have v1 : aF P E w S H ρ Fr (.pv (.int k) n) (a.eval y) := h1 ▸ ok y
   have v2 : aF P E w S H ρ Fr (.pv (.int k') m) (a.eval y') := h2 ▸ ok y'
   have w1 := aX.1 v1
   have w2 := aX.1 v2
   refine (ak.rv (m := Builtin.min_ ats ty #[a.eval y, a.eval y']) h ?_ (aX.2 rfl)).op st.hp st.sb (hb _ (fun cs => by simp [builtin]))
   simp [Builtin.min_, w1, w2, Builtin.min2, AN]
  ·cases h
end
end Go.Ev
end
section
namespace Go.Ev
section
variable {P : Program} {E : dD} {w w' : World} {S S' : Nat → Prop} {H H' : List (Ob E.C)} {ρ ρ' : Nat → Option Pl} {Fr Fr' : Nat → Prop} {F : List (Nat × cw E.C)}
variable {T : List Nat} {r : lF E.C × List Nat}
theorem pe {f : FuncId} (h : A9 P f) (args : Array Value) (w : World) : (callFunc f args).run P w = .ok (.enter f args) w := by
 obtain ⟨fn, c, h1, h2, h3⟩ := h
 have h3 : ¬ (fn.name = "runtime.NumGoroutine") := by simpa using h3
 simp [callFunc, h1, h2, h3]
theorem nN {o : Oper} {a : Act} {fo : Operand} {args : Array Operand} {ats : Array TypeId} (ho : o.op = .call ⟨.value fo, args, ats⟩) {f : FuncId} {caps : Array Value} (hf : a.eval fo = .func (.func f) #[] caps) (he : A9 P f) :
  (execOp a.eval o).run P w = .ok (.enter f (args.map a.eval ++ caps)) w := by
 simp [execOp, ho, resolve, Deferred.ofValue, hf, invoke, pe he]
theorem ni (hp : dW E w S H ρ Fr) (hS : ∀ b, S b → b < w.heap.size) (hb : Go.RowKit.Below w.heap.size w w') (h1 : ∀ b, S b → S' b) (h2 : ∀ b, S' b → S b ∨ (w.heap.size ≤ b ∧ b < w'.heap.size)) :
  f7 w w' S S' H H ρ ρ Fr Fr ∧ dW E w' S' H ρ Fr := by
 have m : lG w w' S S' H H ρ ρ Fr Fr := ⟨⟨hb.size, h1, fun b h => hb.block b (hS b h), fun b h => by
  rcases h2 b h with h | h
  ·exact Nat.lt_of_lt_of_le (hS b h) hb.size
  ·exact h.2⟩, fun i _ => vQ.refl H i, fun _ _ => rfl, fun _ h => h⟩
 refine ⟨⟨m, hb.os, hb.tape, hb.output, fun b h _ => hb.block b h, fun b h => ?_, fun b h => .inl h⟩, ?_⟩
 ·rcases h2 b h with h | h
  ·exact .inl h
  ·exact .inr (.inl h.1)
 ·refine hp.upd m (fun _ => False) (fun _ _ => rfl) (fun j o q _ ho hl hq => ?_) (fun _ _ h => h.elim) (fun _ _ _ h => h.elim) hp.fre hp.far
  have hlt := (hp.obs j o ho).lt (cd hl) hq
  refine ⟨hb.block _ hlt, fun h => ?_⟩
  rcases h2 _ h with h | h
  ·exact hp.out j o q ho hl hq h
  ·omega
theorem aE.scal {w2 : World} {S2 : Nat → Prop} {t : Ty} {x : ap E.C t} {cs : List Value} (h : aE E w S t x cs) : ∀ d, scal E d t = true → aE E w2 S2 t x cs := by
 induction h with
 | int k n => exact fun _ _ => .int k n
 | bool b => exact fun _ _ => .bool b
 | str s => exact fun _ _ => .str s
 | nils e => intro d h; cases d <;> cases h
 | slice e => intro d h; cases d <;> cases h
 | arr n e l css hn hr ih => intro d h; cases d with
  | zero => cases h
  | succ d => exact .arr n e l css hn fun i x hx => ih i x hx d h
 | nm n x cs h ih => intro d hd; cases d with
  | zero => cases hd
  | succ d => exact .nm n x cs (ih d hd)
 | unit x => exact fun _ _ => .unit x
 | pair a b p cs ds h k ih1 ih2 => intro d hd; cases d with
  | zero => cases hd
  | succ d =>
   simp only [Ev.scal, Bool.and_eq_true] at hd
   exact .pair a b p cs ds (ih1 d hd.1) (ih2 d hd.2)
 | ptr => intro d h; cases d <;> cases h
theorem uq {o : Oper} {a : Act} {tm : List (AV E.C)} (st : tP P E a w S H ρ Fr tm) {s : Nat} {fo : Operand} {args : Array Operand} {ats : Array TypeId} (ho : o.op = .call ⟨.value fo, args, ats⟩) {f : FuncId} {caps : Array Value}
  (hf : a.eval fo = .func (.func f) #[] caps) (he : A9 P f) {c : Ty} (hnc : gv c = true) {z : ap E.C c} {T T0 : List Nat} (hT : ∀ i, i ∈ T → ∃ o, H[i]? = some o ∧ o ≠ .dead)
  (hc : Calls P f (args.map a.eval ++ caps) w (vX E w (ST S ρ T) c z))
  (h : aj H (cond (scal E 40 c) (rv E (.pv c z)) (gx.frz E T fun u => .ret ⟨.pv c z, [], u⟩)) T0 = some r) : qJ P E o a w S H ρ Fr s 0 r.1 := by
 intro next Q hn
 rw [nN ho hf he, Oper.upon_enter]
 refine hc.mono fun e w' hp => ?_
 obtain ⟨cs, rfl, hr, hb⟩ := hp
 have hfn : ∀ d b, c ≠ .fn d b := by rintro d b rfl; cases hnc
 show next _ _
 rw [jh] at hn
 cases hs : scal E 40 c with
 | true =>
  rw [hs] at h
  have := zG h
  rw [this] at hn
  obtain ⟨h1, h2⟩ := ni (S' := S) st.hp st.sb hb (fun _ h => h) (fun _ h => .inl h)
  exact hn _ w' S ρ h1 h2 ((cF hfn).2 ⟨cs, hr.scal 40 hs, rfl⟩)
 | false =>
  rw [hs] at h
  replace h := s5 h
  obtain ⟨T3, h, _⟩ := h
  simp only [aj, Option.some.injEq] at h
  subst h
  obtain ⟨h1, h2⟩ := mT T st.hp st.sb hT
  obtain ⟨h3, h4⟩ := ni (S' := fun b => ST S ρ T b ∨ (w.heap.size ≤ b ∧ b < w'.heap.size)) h2 h1.mon.st.2.2.2 hb (fun _ h => .inl h) (fun _ h => h)
  exact hn _ w' _ ρ (h1.trans h3) h4 ((cF hfn).2 ⟨cs, hr, rfl⟩)
theorem jT (hT : eP P E) (hC : dp P F) {o : Oper} {a : Act} {tm : List (AV E.C)} (st : tP P E a w S H ρ Fr tm) {s : Nat} {fo : Operand} {args : Array Operand} {ats : Array TypeId} (ho : o.op = .call ⟨.value fo, args, ats⟩)
  (h : aj H (w7 E F (cX E tm fo) (args.toList.map (cX E tm))) T = some r) : qJ P E o a w S H ρ Fr s 0 r.1 := by
 have hargs := gI st args.toList
 have hf0 := fp st fo
 have live : ∀ {T1 : List Nat}, de H [] T1 → ∀ i, i ∈ T1 → ∃ o, H[i]? = some o ∧ o ≠ .dead := fun hr i hi => by
  rcases hr.2 i hi with h | ⟨o, h1, h2⟩
  ·simp at h
  ·exact ⟨o, h1, cd h2⟩
 have eargs : (args.toList.map a.eval).toArray = args.map a.eval := by apply Array.ext'; simp
 unfold w7 at h
 split at h
 ·rename_i f cs hfo
  split at h
  ·rename_i sp hl
   obtain ⟨hen, n1, n2, n3, hg⟩ := hC f sp hl
   replace h := (dZ hT.env st.hp hC 40).2 _ _ _ _ _ _ h
   obtain ⟨y, T1, T1', h, r1, p1⟩ := h
   replace h := (dZ hT.env st.hp hC 40).2 _ _ _ _ _ _ h
   obtain ⟨x, T2, T2', h, r2, p2⟩ := h
   replace h := dr h
   obtain ⟨z, hz, h⟩ := h
   rw [hfo] at hf0
   unfold aF at hf0
   obtain ⟨vs, hv, hvs⟩ := hf0
   have L1 := (hJ n1 (p1.2 vs hvs)).mono (S' := ST S ρ T2) (fun _ hb => ST.mono r2.1 hb) (eo.refl _ _)
   have L2 := hJ n2 (p2.2 _ hargs)
   have hT2 := live (r1.trans r2)
   have hc := hg w (ST S ρ T2) (st.hp.sbound st.sb hT2) y vs L1 x _ L2 z hz
   refine uq st ho hv hen n3 hT2 ?_ h
   rw [← eargs]
   simpa using hc
  ·cases h
 ·split at h
  ·rename_i d c g hfo
   replace h := (dZ hT.env st.hp hC 40).2 _ _ _ _ _ _ h
   obtain ⟨x, T2, T2', h, r2, p2⟩ := h
   replace h := dr h
   obtain ⟨z, hz, h⟩ := h
   rw [hfo] at hf0
   unfold aF at hf0
   obtain ⟨f, caps, hv, ⟨hen, n2, n3⟩, hk⟩ := (show sI P E w S d c g _ from hf0)
   have L2 := hJ n2 (p2.2 _ hargs)
   have hT2 := live r2
   have hc := hk w (ST S ρ T2) ⟨Nat.le_refl _, fun _ hb => .inl hb, eo.refl _ _, st.hp.sbound st.sb hT2⟩ x _ L2 z hz
   refine uq st ho hv hen n3 hT2 ?_ h
   rw [← eargs]
   exact hc
  ·cases h
 ·cases h
end
end Go.Ev
end
section
namespace Go.Ev
section
variable {P : Program} {E : dD} {w w' : World} {S S' : Nat → Prop} {H H' : List (Ob E.C)} {ρ ρ' : Nat → Option Pl} {Fr Fr' : Nat → Prop} {F : List (Nat × cw E.C)}
mutual
def pS (E : dD) : (s : Sh) → ap E.C (jL s) → Nat → AV E.C × List (Ob E.C)
 | .hole t, x, _ => (.pv t x, [])
 | .rowh t, x, n => (.row n, [.row t x false])
 | .boxh t s, x, n => (.adr n [] t, .box t (pS E s x (n + 1)).1 false :: (pS E s x (n + 1)).2)
 | .aggh m ss, x, n => (.agg m (pL E ss x n).1, (pL E ss x n).2)
 | .same j, _, _ => (.row j, [])
 | .part j, x, _ => (.sub j (Int.toNat x.1) (Int.toNat x.2), [])
 | .nilh, _, _ => (.nils, [])
def pL (E : dD) : (ss : List Sh) → ap E.C (bh ss) → Nat → List (AV E.C) × List (Ob E.C)
 | [], _, _ => ([], [])
 | s :: ss, x, n => ((pS E s x.1 n).1 :: (pL E ss x.2 (n + (pS E s x.1 n).2.length)).1, (pS E s x.1 n).2 ++ (pL E ss x.2 (n + (pS E s x.1 n).2.length)).2)
end
theorem nq {α : Type} : ∀ (l : List α) (x y : α) (r : List α), an (l ++ x :: r) l.length y = l ++ y :: r
 | [], _, _, _ => rfl
 | a :: l, x, y, r => by simp [an, nq l]
mutual
theorem xg {R : Type} : ∀ (s : Sh) (x : ap E.C (jL s)) (H : List (Ob E.C)) (k : AV E.C → List (Ob E.C) → Option R), plS E s x H k = k (pS E s x H.length).1 (H ++ (pS E s x H.length).2)
 | .hole t, x, H, k => by unfold plS pS; simp
 | .rowh t, x, H, k => by unfold plS pS; rw [ic]
 | .boxh t s, x, H, k => by
  unfold plS pS
  rw [ic]
  refine (xg s x (H ++ [.dead]) _).trans ?_
  rw [iZ]
  simp only [List.length_append, List.length_singleton, List.append_assoc, List.singleton_append]
  rw [nq]
 | .aggh m ss, x, H, k => by unfold plS pS; exact pW ss x H _
 | .same j, x, H, k => by unfold plS pS; simp
 | .part j, x, H, k => by unfold plS pS; simp
 | .nilh, x, H, k => by unfold plS pS; simp
theorem pW {R : Type} : ∀ (ss : List Sh) (x : ap E.C (bh ss)) (H : List (Ob E.C)) (k : List (AV E.C) → List (Ob E.C) → Option R), zq E ss x H k = k (pL E ss x H.length).1 (H ++ (pL E ss x H.length).2)
 | [], x, H, k => by unfold zq pL; simp
 | s :: ss, x, H, k => by
  unfold zq pL
  refine (xg s x.1 H _).trans ((pW ss x.2 _ _).trans ?_)
  simp [List.append_assoc]
end
mutual
theorem gL : ∀ (s : Sh) (x : ap E.C (jL s)) (n : Nat), (pS E s x n).2.length = cN s
 | .hole t, x, n => by unfold pS cN; rfl
 | .rowh t, x, n => by unfold pS cN; rfl
 | .boxh t s, x, n => by unfold pS cN; simp only [List.length_cons]; exact congrArg (· + 1) (gL s x (n + 1))
 | .aggh m ss, x, n => by unfold pS cN; exact k9 ss x n
 | .same j, x, n => by unfold pS cN; rfl
 | .part j, x, n => by unfold pS cN; rfl
 | .nilh, x, n => by unfold pS cN; rfl
theorem k9 : ∀ (ss : List Sh) (x : ap E.C (bh ss)) (n : Nat), (pL E ss x n).2.length = f6 ss
 | [], x, n => by unfold pL f6; rfl
 | s :: ss, x, n => by
  unfold pL f6
  simp only [List.length_append]
  rw [gL s, k9 ss]
end
theorem w9 {s : Sh} {x : ap E.C (jL s)} {n : Nat} {t : Ty} (h : B7 s t = true) : fL E (pS E s x n).1 t = true := by
 cases s <;> cases t <;> first | (cases h; done) | (unfold pS; exact h)
def Ak (E : dD) (H : List (Ob E.C)) (ρ : Nat → Option Pl) (H1 : List (Ob E.C)) (ρ1 : Nat → Option Pl) (k : Nat) : Option (Nat × Bool) → Prop
 | none => ρ1 k = none ∧ ∃ t, H1[k]? = some (.row t [] false)
 | some (i, true) => ρ1 k = ρ i ∧ ∃ t l, H1[k]? = some (.row t l false) ∧ H[i]? = some (.row t l false)
 | some (i, false) => (∃ o, H[i]? = some o ∧ o.live = true ∧ ∀ (t : Ty) (x : AV E.C) (fz : Bool), H1[k]? = some (.box t x fz) → ∃ x', o = .box t x' false) ∧ ∀ p, ρ1 k = some p → ∃ q, ρ i = some q ∧ p.b = q.b
def pT (E : dD) (H : List (Ob E.C)) (ρ : Nat → Option Pl) (acc : List (Option (Nat × Bool))) (H1 : List (Ob E.C)) (ρ1 : Nat → Option Pl) : Prop :=
 ∀ k e, acc[k]? = some e → Ak E H ρ H1 ρ1 k e
variable {H1 : List (Ob E.C)} {ρ1 : Nat → Option Pl} {S1 : Nat → Prop} {Fr1 : Nat → Prop}
theorem pT.snoc {acc : List (Option (Nat × Bool))} {e : Option (Nat × Bool)} (h : pT E H ρ acc H1 ρ1) (he : Ak E H ρ H1 ρ1 acc.length e) : pT E H ρ (acc ++ [e]) H1 ρ1 := by
 intro k e' hk
 by_cases hlt : k < acc.length
 ·rw [List.getElem?_append_left hlt] at hk; exact h k e' hk
 ·rw [List.getElem?_append_right (by omega)] at hk
  have : k = acc.length := by
   by_cases e0 : k - acc.length = 0
   ·omega
   ·rw [List.getElem?_eq_none (by simp; omega)] at hk; cases hk
  subst this
  simp at hk; subst hk; exact he
structure sk (E : dD) (S : Nat → Prop) (H : List (Ob E.C)) (ρ : Nat → Option Pl) (acc : List (Option (Nat × Bool))) (os : List (Ob E.C)) (pls : List (Option Pl)) (T : List Nat)
  (S1 : Nat → Prop) (H1 : List (Ob E.C)) (ρ1 : Nat → Option Pl) (Fr1 : Nat → Prop) : Prop where
 st : ∀ b, ST S ρ T b → S1 b
 fr : ∀ i, Fr1 i → H1.length ≤ i
 ac : pT E H ρ acc H1 ρ1
 os : ∀ k o, os[k]? = some o → H1[acc.length + k]? = some o
 pl : ∀ k p, pls[k]? = some p → ρ1 (acc.length + k) = p
structure zu (E : dD) (w : World) (H : List (Ob E.C)) (ρ : Nat → Option Pl) (acc accn : List (Option (Nat × Bool))) (os : List (Ob E.C))
  (S1 : Nat → Prop) (H1 : List (Ob E.C)) (ρ1 : Nat → Option Pl) (Fr1 : Nat → Prop) : Prop where
 ac : pT E H ρ (acc ++ accn) H1 ρ1
 obs : ∀ k o, os[k]? = some o → dw E w S1 H1 ρ1 Fr1 (acc.length + k) o
section
variable (P : Program) (E : dD) (w : World) (S : Nat → Prop) (H : List (Ob E.C)) (ρ : Nat → Option Pl) (Fr : Nat → Prop) (acc accn : List (Option (Nat × Bool))) (T : List Nat)
def vz (s : Sh) (v : AV E.C) (x : ap E.C (jL s)) : Prop := ∀ cs, bc E w S H ρ Fr v cs → ∃ pls : List (Option Pl), pls.length = cN s ∧
 ∀ S1 H1 ρ1 Fr1, sk E S H ρ acc (pS E s x acc.length).2 pls T S1 H1 ρ1 Fr1 → zu E w H ρ acc accn (pS E s x acc.length).2 S1 H1 ρ1 Fr1 ∧ bc E w S1 H1 ρ1 Fr1 (pS E s x acc.length).1 cs
def AZ (s : Sh) (v : AV E.C) (x : ap E.C (jL s)) : Prop := ∀ u, aF P E w S H ρ Fr v u → ∃ pls : List (Option Pl), pls.length = cN s ∧
 ∀ S1 H1 ρ1 Fr1, sk E S H ρ acc (pS E s x acc.length).2 pls T S1 H1 ρ1 Fr1 → zu E w H ρ acc accn (pS E s x acc.length).2 S1 H1 ρ1 Fr1 ∧ aF P E w S1 H1 ρ1 Fr1 (pS E s x acc.length).1 u
def Bh (ss : List Sh) (vs : List (AV E.C)) (x : ap E.C (bh ss)) : Prop := ∀ t cs, vm ss t = true → dY E w S H ρ Fr vs t cs → ∃ pls : List (Option Pl), pls.length = f6 ss ∧
 ∀ S1 H1 ρ1 Fr1, sk E S H ρ acc (pL E ss x acc.length).2 pls T S1 H1 ρ1 Fr1 → zu E w H ρ acc accn (pL E ss x acc.length).2 S1 H1 ρ1 Fr1 ∧ dY E w S1 H1 ρ1 Fr1 (pL E ss x acc.length).1 t cs
def B0 (ss : List Sh) (vs : List (AV E.C)) (x : ap E.C (bh ss)) : Prop := ∀ us, az P E w S H ρ Fr vs us → ∃ pls : List (Option Pl), pls.length = f6 ss ∧
 ∀ S1 H1 ρ1 Fr1, sk E S H ρ acc (pL E ss x acc.length).2 pls T S1 H1 ρ1 Fr1 → zu E w H ρ acc accn (pL E ss x acc.length).2 S1 H1 ρ1 Fr1 ∧ az P E w S1 H1 ρ1 Fr1 (pL E ss x acc.length).1 us
end
def AY : AV E.C → Bool
 | .nils => true
 | .row _ => true
 | .sub _ _ _ => true
 | .adr _ _ _ => true
 | _ => false
theorem uJ {v : AV E.C} {u : Value} (h : AY v = true) : aF P E w S H ρ Fr v u ↔ bc E w S H ρ Fr v [u] := by
 cases v <;> first | (cases h; done) | (unfold aF bc; simp)
theorem vz.toV {acc accn : List (Option (Nat × Bool))} {T : List Nat} {s : Sh} {v : AV E.C} {x : ap E.C (jL s)} (hv : AY v = true) (hp : AY (pS E s x acc.length).1 = true) (h : vz E w S H ρ Fr acc accn T s v x) :
  AZ P E w S H ρ Fr acc accn T s v x := by
 intro u hu
 obtain ⟨pls, hl, h⟩ := h [u] ((uJ hv).1 hu)
 exact ⟨pls, hl, fun S1 H1 ρ1 Fr1 hf => ⟨(h S1 H1 ρ1 Fr1 hf).1, (uJ hp).2 (h S1 H1 ρ1 Fr1 hf).2⟩⟩
theorem sI.sub {d c : Ty} {g : ap E.C d → Option (ap E.C c)} {v : Value} (hs : ∀ b, S b → S' b) (k : sI P E w S d c g v) : sI P E w S' d c g v := by
 obtain ⟨f, caps, e, n, k⟩ := k
 exact ⟨f, caps, e, n, fun w2 S2 hst => k w2 S2 ⟨hst.1, fun b hb => hst.2.1 b (hs b hb), fun b hb => hst.2.2.1 b (hs b hb), hst.2.2.2⟩⟩
theorem jB.sub {t : Ty} {x : ap E.C t} {v : Value} (hs : ∀ b, S b → S' b) (k : jB P E w S t x v) : jB P E w S' t x v := by
 unfold jB at k ⊢
 split at k
 ·exact sI.sub hs k
 ·obtain ⟨cs, hr, e⟩ := k
  exact ⟨cs, hr.mono hs (eo.refl _ _), e⟩
theorem dw.rowc {i k : Nat} {t : Ty} {l : List (ap E.C t)} (h : dw E w S H ρ Fr i (.row t l false)) (hs : ∀ b, S b → S1 b) (hr : ρ1 k = ρ i) : dw E w S1 H1 ρ1 Fr1 k (.row t l false) := by
 unfold dw at h ⊢
 rcases h with ⟨h1, h2⟩ | ⟨q, c, T, css, h1, h2, h3, h4, h5, h6, h7⟩
 ·exact .inl ⟨h1, hr.trans h2⟩
 ·exact .inr ⟨q, c, T, css, hr.trans h1, h2, h3, h4, fun j x hx => (h5 j x hx).mono hs (eo.refl _ _), h6, fun hh => (nomatch hh)⟩
theorem ia.ren {i k : Nat} {v : Value} (h : ia E H ρ Fr i v) (hf : ¬ Fr1 k) (hr : ρ1 k = ρ i) (hH : ∀ t l fz, H1[k]? = some (.row t l fz) → ∃ l' fz', H[i]? = some (.row t l' fz') ∧ l'.length = l.length) : ia E H1 ρ1 Fr1 k v := by
 refine ⟨⟨hf, h.1.2⟩, fun t l fz e => ?_⟩
 obtain ⟨l', fz', e', hl⟩ := hH t l fz e
 have := h.2 t l' fz' e'
 rw [hr]
 split <;> rename_i hq <;> rw [hq] at this <;> simp only [hl] at this <;> exact this
theorem kV.ren {i k lo hi : Nat} {v : Value} (h : kV E H ρ Fr i lo hi v) (hf : ¬ Fr1 k) (hr : ρ1 k = ρ i) (hH : ∀ t l fz, H1[k]? = some (.row t l fz) → ∃ l' fz', H[i]? = some (.row t l' fz')) : kV E H1 ρ1 Fr1 k lo hi v := by
 refine ⟨⟨hf, h.1.2⟩, fun t l fz e => ?_⟩
 obtain ⟨l', fz', e'⟩ := hH t l fz e
 have := h.2 t l' fz' e'
 rw [hr]
 exact this
theorem aH {α : Type} {l : List α} {i : Nat} {x : α} (h : l[i]? = some x) : i < l.length := (List.getElem?_eq_some_iff.1 h).1
theorem xh {i lo hi : Nat} {t : Ty} {l : List (ap E.C t)} {v : Value} (hob : dw E w S H ρ Fr i (.row t l false)) (hi0 : H[i]? = some (.row t l false)) (hv : kV E H ρ Fr i lo hi v) (hlo : lo ≤ hi) (hhi : hi ≤ l.length) :
  ∃ p : Option Pl, (∀ p', p = some p' → ∃ q, ρ i = some q ∧ p'.b = q.b) ∧ ∀ {S1 : Nat → Prop} {H1 : List (Ob E.C)} {ρ1 : Nat → Option Pl} {Fr1 : Nat → Prop} {k : Nat}, (∀ b, S b → S1 b) → ¬ Fr1 k → ρ1 k = p → H1[k]? = some (.row t (slc l lo hi) false) →
   dw E w S1 H1 ρ1 Fr1 k (.row t (slc l lo hi) false) ∧ ia E H1 ρ1 Fr1 k v := by
 have hlen : (slc l lo hi).length = hi - lo := by simp [slc]; omega
 have h2 := (hv.2 t l false hi0).2
 cases hq : ρ i with
 | none =>
  rw [hq] at h2
  obtain ⟨hn, rfl⟩ := h2
  have e0 : slc l lo 0 = [] := by simp [slc]
  refine ⟨none, fun p' h => (nomatch h), fun hs hf hr hk => ⟨?_, ⟨hf, hv.1.2⟩, fun t' l' fz' e => ?_⟩⟩
  ·unfold dw; exact .inl ⟨e0, hr⟩
  ·rw [hr]; exact hn
 | some q =>
  rw [hq] at h2
  obtain ⟨cap, p, rfl, c1, c2, c3, c4⟩ := h2
  refine ⟨some ⟨q.b, p, cap⟩, fun p' h => ⟨q, rfl, by cases h; rfl⟩, fun {S1 H1 ρ1 Fr1 k} hs hf hr hk => ⟨?_, ⟨hf, _, _, _, rfl⟩, fun t' l' fz' e => ?_⟩⟩
  ·unfold dw at hob ⊢
   rcases hob with ⟨h1, h3⟩ | ⟨q', c, T, css, h1, h3, h4, h5, h6, h7, h8⟩
   ·rw [hq] at h3; cases h3
   ·rw [hq] at h1; obtain rfl := Option.some.inj h1
    refine .inr ⟨⟨q.b, p, cap⟩, c, T, fun j => css (lo + j), hr, h3, by rw [hlen]; exact c1, ?_, fun j x hx => ?_, fun j kk cc hj hk' => ?_, fun hh => (nomatch hh)⟩
    ·refine Nat.le_trans (Nat.mul_le_mul_right _ ?_) h5
     show p + cap ≤ q.p + q.cp
     omega
    ·have hx' : l[lo + j]? = some x := by
      simp only [slc, List.getElem?_drop] at hx
      rw [List.getElem?_take] at hx
      split at hx
      ·exact hx
      ·cases hx
     exact (h6 _ x hx').mono hs (eo.refl _ _)
    ·rw [hlen] at hj
     have := h7 (lo + j) kk cc (by omega) hk'
     have e1 : p = q.p + lo := c4.resolve_left (by omega)
     show c[(p + j) * szT E t + kk]? = some cc
     rw [e1, Nat.add_assoc q.p lo j]
     exact this
  ·rw [hk] at e
   cases e
   rw [hr]
   exact ⟨cap, by rw [hlen], by rw [hlen]; exact c1, Nat.le_refl _⟩
def vi : Sh → Bool
 | .rowh _ => true
 | .boxh _ _ => true
 | _ => false
def mY : AV E.C → Option (Option (Nat × Bool))
 | .nils => some none
 | .row i => some (some (i, true))
 | .sub i _ _ => some (some (i, false))
 | .adr i _ _ => some (some (i, false))
 | _ => none
def Ad : List Sh → List (AV E.C) → List (Option (Nat × Bool)) → Prop
 | s :: ss, v :: vs, accn => (vi s = true → accn.head? = mY v) ∧ Ad ss vs (accn.drop (cN s))
 | _, _, _ => True
def yC (v : AV E.C) (n' : Nat) (acc : List (Option (Nat × Bool))) : Prop := v = .nils ∨ (∃ i lo hi, v = .sub i lo hi) ∨ ∃ i, v = .row i ∧ acc[n']? = some (some (i, true))
section
variable (hE : iC E) (hp : dW E w S H ρ Fr) (hC : dp P F)
include hE hp hC
mutual
theorem oB {α : Type} : ∀ (s : Sh) (v : AV E.C) (acc : List (Option (Nat × Bool))) (T : List Nat) (k : ap E.C (jL s) → List (Option (Nat × Bool)) → List Nat → HM E.C α) (T0 : List Nat) (r : α × List Nat),
  aj H (xF E F s v acc T k) T0 = some r → ∃ x accn T1 T0', aj H (k x (acc ++ accn) T1) T0' = some r ∧ de H T T1 ∧ accn.length = cN s ∧
   vz E w S H ρ Fr acc accn T1 s v x ∧ AZ P E w S H ρ Fr acc accn T1 s v x ∧ (vi s = true → accn.head? = mY v) ∧ (∀ n', (pS E s x acc.length).1 = .row n' → yC v n' (acc ++ accn))
 | .hole t, v, acc, T, k, T0, r, h => by
  unfold xF at h
  replace h := (dZ hE hp hC 40).1 _ _ _ _ _ _ h
  obtain ⟨x, T1, T0', h, r1, p1⟩ := h
  have e1 : pS E (.hole t) x acc.length = (.pv t x, []) := rfl
  refine ⟨x, [], T1, T0', by simpa using h, r1, by unfold cN; rfl, fun cs hcs => ⟨[], by unfold cN; rfl, fun S1 H1 ρ1 Fr1 hf => ?_⟩, fun u hu => ⟨[], by unfold cN; rfl, fun S1 H1 ρ1 Fr1 hf => ?_⟩, fun hh => (nomatch hh), fun n' hh => (nomatch hh)⟩
  ·rw [e1]
   refine ⟨⟨by simpa using hf.ac, fun k o hk => by simp at hk⟩, ?_⟩
   unfold bc
   exact (p1.1 cs hcs).mono hf.st (eo.refl _ _)
  ·rw [e1]
   refine ⟨⟨by simpa using hf.ac, fun k o hk => by simp at hk⟩, ?_⟩
   unfold aF
   exact (p1.2 u hu).sub hf.st
 | .rowh t, v, acc, T, k, T0, r, h => by
  have e1 : ∀ x, pS E (.rowh t) x acc.length = (.row acc.length, [.row t x false]) := fun x => rfl
  have e2 : cN (.rowh t) = 1 := by unfold cN; rfl
  unfold xF at h
  cases v with
  | nils =>
   have key : vz E w S H ρ Fr acc [none] T (.rowh t) .nils ([] : List (ap E.C t)) := by
    intro cs hcs
    unfold bc at hcs
    refine ⟨[none], e2.symm, fun S1 H1 ρ1 Fr1 hf => ?_⟩
    rw [e1 ([] : List (ap E.C t))] at hf ⊢
    have h1 := hf.os 0 _ rfl
    have h2 := hf.pl 0 _ rfl
    rw [Nat.add_zero] at h1 h2
    refine ⟨⟨hf.ac.snoc ⟨h2, t, h1⟩, fun k o hk => ?_⟩, ?_⟩
    ·cases k with
     | zero => simp at hk; subst hk; unfold dw; exact .inl ⟨rfl, h2⟩
     | succ k => simp at hk
    ·unfold bc
     refine ⟨_, hcs, ⟨fun hh => ?_, _, _, _, rfl⟩, fun t' l fz e => by rw [h2]; exact ⟨_, rfl⟩⟩
     have := hf.fr _ hh
     have := aH h1
     omega
   exact ⟨[], [none], T, T0, h, de.refl H T, e2.symm, key, key.toV rfl (by rw [e1 ([] : List (ap E.C t))]; rfl), fun _ => rfl, fun n' hh => .inl rfl⟩
  | row i =>
   replace h := bw h
   obtain ⟨o, ho, h⟩ := h
   cases o with
   | row e l fz =>
    cases fz with
    | true => cases h
    | false =>
     replace h := k0 h
     obtain ⟨rfl, h⟩ := h
     have key : vz E w S H ρ Fr acc [some (i, true)] T (.rowh e) (.row i) l := by
      intro cs hcs
      unfold bc at hcs
      obtain ⟨v, rfl, hv⟩ := hcs
      refine ⟨[ρ i], e2.symm, fun S1 H1 ρ1 Fr1 hf => ?_⟩
      rw [e1 l] at hf ⊢
      have h1 := hf.os 0 _ rfl
      have h2 := hf.pl 0 _ rfl
      rw [Nat.add_zero] at h1 h2
      have hnf : ¬ Fr1 acc.length := fun hh => by
       have := hf.fr _ hh
       have := aH h1
       omega
      refine ⟨⟨hf.ac.snoc ⟨h2, e, l, h1, ho⟩, fun k o hk => ?_⟩, ?_⟩
      ·cases k with
       | zero => simp at hk; subst hk; exact (hp.obs i _ ho).rowc (fun b hb => hf.st b (.inl hb)) h2
       | succ k => simp at hk
      ·unfold bc
       exact ⟨v, rfl, hv.ren hnf h2 fun t' l' fz' e' => by rw [h1] at e'; cases e'; exact ⟨l, false, ho, rfl⟩⟩
     exact ⟨l, [some (i, true)], T, _, h, de.refl H T, e2.symm, key, key.toV rfl (by rw [e1 l]; rfl), fun _ => rfl, fun n' hh => .inr (.inr ⟨i, rfl, by cases hh; simp⟩)⟩
   | _ => cases h
  | sub i lo hi =>
   replace h := bw h
   obtain ⟨o, ho, h⟩ := h
   cases o with
   | row e l fz =>
    cases fz with
    | true => cases h
    | false =>
     replace h := k0 h
     obtain ⟨rfl, h⟩ := h
     replace h := bI h
     obtain ⟨hg, h⟩ := h
     simp only [Bool.and_eq_true, decide_eq_true_eq] at hg
     have key : vz E w S H ρ Fr acc [some (i, false)] T (.rowh e) (.sub i lo hi) (slc l lo hi) := by
      intro cs hcs
      unfold bc at hcs
      obtain ⟨v, rfl, hv⟩ := hcs
      obtain ⟨p, hpl, hsp⟩ := xh (hp.obs i _ ho) ho hv hg.1 hg.2
      refine ⟨[p], e2.symm, fun S1 H1 ρ1 Fr1 hf => ?_⟩
      rw [e1 (slc l lo hi)] at hf ⊢
      have h1 := hf.os 0 _ rfl
      have h2 := hf.pl 0 _ rfl
      rw [Nat.add_zero] at h1 h2
      have hnf : ¬ Fr1 acc.length := fun hh => by
       have := hf.fr _ hh
       have := aH h1
       omega
      obtain ⟨g1, g2⟩ := hsp (fun b hb => hf.st b (.inl hb)) hnf h2 h1
      refine ⟨⟨hf.ac.snoc ⟨⟨_, ho, rfl, fun t2 x2 fz2 e => by rw [h1] at e; cases e⟩, fun p' hp' => hpl p' (h2 ▸ hp')⟩, fun k o hk => ?_⟩, ?_⟩
      ·cases k with
       | zero => simp at hk; subst hk; exact g1
       | succ k => simp at hk
      ·unfold bc
       exact ⟨v, rfl, g2⟩
     exact ⟨slc l lo hi, [some (i, false)], T, _, h, de.refl H T, e2.symm, key, key.toV rfl (by rw [e1 (slc l lo hi)]; rfl), fun _ => rfl, fun n' hh => .inr (.inl ⟨_, _, _, rfl⟩)⟩
   | _ => cases h
  | _ => cases h
 | .boxh t s, v, acc, T, k, T0, r, h => by
  have e1 : ∀ x, pS E (.boxh t s) x acc.length = (.adr acc.length [] t, .box t (pS E s x (acc.length + 1)).1 false :: (pS E s x (acc.length + 1)).2) := fun x => rfl
  have e2 : cN (.boxh t s) = cN s + 1 := by conv => lhs; unfold cN
  unfold xF at h
  split at h
  ·rename_i i ta
   replace h := bw h
   obtain ⟨o, ho, h⟩ := h
   split at h
   ·rename_i t' v'
    replace h := aT h
    obtain ⟨hc, h⟩ := h
    simp only [Bool.and_eq_true] at hc
    obtain rfl := Ty.eq_of_beq hc.1
    obtain ⟨x, accn, T1, T0', h, hr, hl, hxC, _⟩ := oB s v' (acc ++ [some (i, false)]) T k _ r h
    have ea : (acc ++ [some (i, false)]).length = acc.length + 1 := by simp
    have key : vz E w S H ρ Fr acc (some (i, false) :: accn) T1 (.boxh t' s) (.adr i [] ta) x := by
     intro cs hcs
     unfold bc at hcs
     obtain ⟨v, rfl, hv⟩ := hcs
     have hob := hp.obs i _ ho
     unfold dw at hob
     obtain ⟨q, TT, cs', o1, o2, o3, o4, o5⟩ := hob
     obtain ⟨pls, hpl, hin⟩ := hxC cs' o4
     refine ⟨some q :: pls, by simp [hpl, e2], fun S1 H1 ρ1 Fr1 hf => ?_⟩
     rw [e1 x] at hf ⊢
     have h1 := hf.os 0 _ rfl
     have h2 := hf.pl 0 _ rfl
     rw [Nat.add_zero] at h1 h2
     have hnf : ¬ Fr1 acc.length := fun hh => by
      have := hf.fr _ hh
      have := aH h1
      omega
     obtain ⟨hout, hav⟩ := hin S1 H1 ρ1 Fr1 ⟨hf.st, hf.fr, hf.ac.snoc ⟨⟨_, ho, rfl, fun t2 x2 fz2 e => by rw [h1] at e; cases e; exact ⟨_, rfl⟩⟩, fun p hp' => ⟨q, o1, by rw [h2] at hp'; cases hp'; rfl⟩⟩,
      fun k o hk => by rw [ea] at hk ⊢; have := hf.os (k + 1) o (by simpa using hk); rw [← this]; congr 1; omega,
      fun k p hk => by rw [ea]; have := hf.pl (k + 1) p (by simpa using hk); rw [← this]; congr 1; omega⟩
     rw [ea] at hout hav
     refine ⟨⟨by simpa using hout.ac, fun k o hk => ?_⟩, ?_⟩
     ·cases k with
      | zero =>
       simp at hk; subst hk
       unfold dw
       exact ⟨q, TT, cs', h2, o2, w9 hc.2, hav, fun hh => (nomatch hh)⟩
      | succ k =>
       have := hout.obs k o (by simpa using hk)
       rw [ea] at this
       have e4 : acc.length + (k + 1) = acc.length + 1 + k := by omega
       rw [e4]; exact this
     ·unfold bc
      refine ⟨v, rfl, hnf, hv.2.1, fun t2 x2 fz2 e => ?_, fun t2 l2 fz2 e => by rw [h1] at e; cases e⟩
      rw [h1] at e; cases e
      obtain ⟨q', o', a1, a2, a3⟩ := hv.2.2.1 _ _ _ ho
      rw [o1] at a1; cases a1
      simp only [fM, Option.some.injEq, Prod.mk.injEq] at a2
      exact ⟨q, o', h2, by simp [fM, a2.1], a3⟩
    exact ⟨x, some (i, false) :: accn, T1, T0', by simpa using h, hr, by simp [hl, e2], key, key.toV rfl (by rw [e1 x]; rfl), fun _ => rfl, fun n' hh => (nomatch hh)⟩
   ·cases h
  ·cases h
 | .aggh n ss, v, acc, T, k, T0, r, h => by
  have e1 : ∀ x, pS E (.aggh n ss) x acc.length = (.agg n (pL E ss x acc.length).1, (pL E ss x acc.length).2) := fun x => rfl
  have e2 : cN (.aggh n ss) = f6 ss := by conv => lhs; unfold cN
  unfold xF at h
  have fin : ∀ (v : AV E.C) (fs : List (AV E.C)), (∀ cs, bc E w S H ρ Fr v cs → dY E w S H ρ Fr fs (E.fld n) cs) → (∀ u, aF P E w S H ρ Fr v u → ∃ cs, dY E w S H ρ Fr fs (E.fld n) cs ∧ u = .agg (List.toArray cs)) → vm ss (E.fld n) = true →
    aj H (vD E F ss fs acc T k) T0 = some r → ∃ x accn T1 T0', aj H (k x (acc ++ accn) T1) T0' = some r ∧ de H T T1 ∧ accn.length = cN (.aggh n ss) ∧
     vz E w S H ρ Fr acc accn T1 (.aggh n ss) v x ∧ AZ P E w S H ρ Fr acc accn T1 (.aggh n ss) v x ∧ (vi (.aggh n ss) = true → accn.head? = mY v) ∧ (∀ n', (pS E (.aggh n ss) x acc.length).1 = .row n' → yC v n' (acc ++ accn)) := by
   intro v fs hc hv hok h
   obtain ⟨x, accn, T1, T0', h, hr, hl, hxF, _⟩ := lY ss fs acc T k T0 r h
   refine ⟨x, accn, T1, T0', h, hr, hl.trans e2.symm, fun cs hcs => ?_, fun u hu => ?_, fun hh => (nomatch hh), fun n' hh => (nomatch hh)⟩
   ·obtain ⟨pls, hpl, hin⟩ := hxF _ cs hok (hc cs hcs)
    refine ⟨pls, hpl.trans e2.symm, fun S1 H1 ρ1 Fr1 hf => ?_⟩
    rw [e1 x] at hf ⊢
    refine ⟨(hin S1 H1 ρ1 Fr1 hf).1, ?_⟩
    unfold bc
    exact (hin S1 H1 ρ1 Fr1 hf).2
   ·obtain ⟨cs, h1, rfl⟩ := hv u hu
    obtain ⟨pls, hpl, hin⟩ := hxF _ cs hok h1
    refine ⟨pls, hpl.trans e2.symm, fun S1 H1 ρ1 Fr1 hf => ?_⟩
    rw [e1 x] at hf ⊢
    refine ⟨(hin S1 H1 ρ1 Fr1 hf).1, ?_⟩
    unfold aF
    exact ⟨cs, (hin S1 H1 ρ1 Fr1 hf).2, rfl⟩
  split at h
  ·rename_i n' fs
   replace h := aT h
   obtain ⟨hc, h⟩ := h
   simp only [Bool.and_eq_true] at hc
   obtain rfl := Nat.eq_of_beq_eq_true hc.1
   refine fin _ fs (fun cs hcs => ?_) (fun u hu => ?_) hc.2 h
   ·unfold bc at hcs; exact hcs
   ·unfold aF at hu; exact hu
  ·rename_i n' x0
   replace h := aT h
   obtain ⟨hc, h⟩ := h
   simp only [Bool.and_eq_true] at hc
   obtain rfl := Nat.eq_of_beq_eq_true hc.1
   refine fin _ _ (fun cs hcs => ?_) (fun u hu => ?_) hc.2 h
   ·unfold bc at hcs; exact kh (hE.chn n) hcs.inv_nm
   ·obtain ⟨cs, c1, rfl⟩ := (cF (by intro _ _ h; cases h)).1 hu
    exact ⟨cs, kh (hE.chn n) c1.inv_nm, rfl⟩
  ·cases h
 | .same j, v, acc, T, k, T0, r, h => by
  have e1 : ∀ x, pS E (.same j) x acc.length = (.row j, []) := fun x => rfl
  have e2 : cN (.same j) = 0 := by unfold cN; rfl
  unfold xF at h
  split at h
  ·rename_i i i' hj
   replace h := aT h
   obtain ⟨hc, h⟩ := h
   obtain rfl := Nat.eq_of_beq_eq_true hc
   have key : vz E w S H ρ Fr acc [] T (.same j) (.row i) () := by
    intro cs hcs
    unfold bc at hcs
    obtain ⟨v, rfl, hv⟩ := hcs
    refine ⟨[], e2.symm, fun S1 H1 ρ1 Fr1 hf => ?_⟩
    rw [e1 ()] at hf ⊢
    obtain ⟨g1, t, l, g2, g3⟩ := hf.ac j _ hj
    have hnf : ¬ Fr1 j := fun hh => by
     have := hf.fr _ hh
     have := aH g2
     omega
    refine ⟨⟨by simpa using hf.ac, fun k o hk => by simp at hk⟩, ?_⟩
    unfold bc
    exact ⟨v, rfl, hv.ren hnf g1 fun t' l' fz' e' => by rw [g2] at e'; cases e'; exact ⟨l, false, g3, rfl⟩⟩
   exact ⟨(), [], T, T0, by simpa using h, de.refl H T, e2.symm, key, key.toV rfl (by rw [e1 ()]; rfl), fun hh => (nomatch hh), fun n' hh => .inr (.inr ⟨i, rfl, by cases hh; simpa using hj⟩)⟩
  ·rename_i hj
   have key : vz E w S H ρ Fr acc [] T (.same j) .nils () := by
    intro cs hcs
    unfold bc at hcs
    refine ⟨[], e2.symm, fun S1 H1 ρ1 Fr1 hf => ?_⟩
    rw [e1 ()] at hf ⊢
    obtain ⟨g1, t, g2⟩ := hf.ac j _ hj
    have hnf : ¬ Fr1 j := fun hh => by
     have := hf.fr _ hh
     have := aH g2
     omega
    refine ⟨⟨by simpa using hf.ac, fun k o hk => by simp at hk⟩, ?_⟩
    unfold bc
    exact ⟨_, hcs, ⟨hnf, _, _, _, rfl⟩, fun t' l fz e => by rw [g1]; exact ⟨_, rfl⟩⟩
   exact ⟨(), [], T, T0, by simpa using h, de.refl H T, e2.symm, key, key.toV rfl (by rw [e1 ()]; rfl), fun hh => (nomatch hh), fun n' hh => .inl rfl⟩
  ·cases h
 | .part j, v, acc, T, k, T0, r, h => by
  have e1 : ∀ x : Int × Int, pS E (.part j) x acc.length = (.sub j (Int.toNat x.1) (Int.toNat x.2), []) := fun x => rfl
  have e2 : cN (.part j) = 0 := by unfold cN; rfl
  unfold xF at h
  split at h
  ·rename_i i lo hi i' hj
   replace h := aT h
   obtain ⟨hc, h⟩ := h
   obtain rfl := Nat.eq_of_beq_eq_true hc
   have key : vz E w S H ρ Fr acc [] T (.part j) (.sub i lo hi) (((lo : Int), (hi : Int)) : Int × Int) := by
    intro cs hcs
    unfold bc at hcs
    obtain ⟨v, rfl, hv⟩ := hcs
    refine ⟨[], e2.symm, fun S1 H1 ρ1 Fr1 hf => ?_⟩
    rw [e1 (((lo : Int), (hi : Int)) : Int × Int)] at hf ⊢
    obtain ⟨g1, t, l, g2, g3⟩ := hf.ac j _ hj
    have hnf : ¬ Fr1 j := fun hh => by
     have := hf.fr _ hh
     have := aH g2
     omega
    refine ⟨⟨by simpa using hf.ac, fun k o hk => by simp at hk⟩, ?_⟩
    unfold bc
    exact ⟨v, rfl, hv.ren hnf g1 fun t' l' fz' e' => by rw [g2] at e'; cases e'; exact ⟨l, false, g3⟩⟩
   exact ⟨(((lo : Int), (hi : Int)) : Int × Int), [], T, T0, by simpa using h, de.refl H T, e2.symm, key, key.toV rfl (by rw [e1 (((lo : Int), (hi : Int)) : Int × Int)]; rfl), fun hh => (nomatch hh), fun n' hh => (nomatch hh)⟩
  ·rename_i i i' hj
   replace h := aT h
   obtain ⟨hc, h⟩ := h
   obtain rfl := Nat.eq_of_beq_eq_true hc
   replace h := bw h
   obtain ⟨o, ho, h⟩ := h
   cases o with
   | row e l fz =>
    have key : vz E w S H ρ Fr acc [] T (.part j) (.row i) (((0 : Int), (l.length : Int)) : Int × Int) := by
     intro cs hcs
     unfold bc at hcs
     obtain ⟨v, rfl, hv⟩ := hcs
     refine ⟨[], e2.symm, fun S1 H1 ρ1 Fr1 hf => ?_⟩
     rw [e1 (((0 : Int), (l.length : Int)) : Int × Int)] at hf ⊢
     obtain ⟨g1, t, l', g2, g3⟩ := hf.ac j _ hj
     rw [ho] at g3
     cases g3
     have hnf : ¬ Fr1 j := fun hh => by
      have := hf.fr _ hh
      have := aH g2
      omega
     refine ⟨⟨by simpa using hf.ac, fun k o hk => by simp at hk⟩, ?_⟩
     unfold bc
     refine ⟨v, rfl, ⟨hnf, hv.1.2⟩, fun t' l'' fz' e' => ?_⟩
     rw [g2] at e'; cases e'
     have hv2 := hv.2 _ _ _ ho
     have hob := hp.obs i _ ho
     refine ⟨by simp, ?_⟩
     rw [g1]
     cases hq : ρ i with
     | none =>
      rw [hq] at hv2
      unfold dw at hob
      rcases hob with ⟨h1, _⟩ | ⟨q, _, _, _, h1, _⟩
      ·exact ⟨hv2, by simp [h1]⟩
      ·rw [hq] at h1; cases h1
     | some q =>
      rw [hq] at hv2
      obtain ⟨cap, hv3, c1, c2⟩ := hv2
      exact ⟨cap, q.p, by simpa using hv3, by simpa using c1, by simpa using c2, by simp, .inr (by simp)⟩
    exact ⟨(((0 : Int), (l.length : Int)) : Int × Int), [], T, _, by simpa using h, de.refl H T, e2.symm, key, key.toV rfl (by rw [e1 (((0 : Int), (l.length : Int)) : Int × Int)]; rfl), fun hh => (nomatch hh), fun n' hh => (nomatch hh)⟩
   | _ => cases h
  ·cases h
 | .nilh, v, acc, T, k, T0, r, h => by
  have e1 : pS E .nilh () acc.length = (.nils, []) := rfl
  have e2 : cN .nilh = 0 := by unfold cN; rfl
  unfold xF at h
  split at h
  ·have key : vz E w S H ρ Fr acc [] T .nilh .nils () := by
    intro cs hcs
    refine ⟨[], e2.symm, fun S1 H1 ρ1 Fr1 hf => ?_⟩
    rw [e1]
    refine ⟨⟨by simpa using hf.ac, fun k o hk => by simp at hk⟩, ?_⟩
    unfold bc at hcs ⊢
    exact hcs
   exact ⟨(), [], T, T0, by simpa using h, de.refl H T, e2.symm, key, key.toV rfl (by rw [e1]; rfl), fun hh => (nomatch hh), fun n' hh => (nomatch hh)⟩
  ·cases h
theorem lY {α : Type} : ∀ (ss : List Sh) (vs : List (AV E.C)) (acc : List (Option (Nat × Bool))) (T : List Nat) (k : ap E.C (bh ss) → List (Option (Nat × Bool)) → List Nat → HM E.C α) (T0 : List Nat) (r : α × List Nat),
  aj H (vD E F ss vs acc T k) T0 = some r → ∃ x accn T1 T0', aj H (k x (acc ++ accn) T1) T0' = some r ∧ de H T T1 ∧ accn.length = f6 ss ∧
   Bh E w S H ρ Fr acc accn T1 ss vs x ∧ B0 P E w S H ρ Fr acc accn T1 ss vs x ∧ Ad ss vs accn ∧
    (∀ (m : Nat) (v : AV E.C) (n' : Nat), vs[m]? = some v → (pL E ss x acc.length).1[m]? = some (.row n') → yC v n' (acc ++ accn))
 | [], [], acc, T, k, T0, r, h => by
  unfold vD at h
  have e1 : pL E [] () acc.length = ([], []) := rfl
  have e2 : f6 [] = 0 := by unfold f6; rfl
  refine ⟨(), [], T, T0, by simpa using h, de.refl H T, e2.symm, fun t cs hok hcs => ⟨[], e2.symm, fun S1 H1 ρ1 Fr1 hf => ?_⟩, fun us hu => ⟨[], e2.symm, fun S1 H1 ρ1 Fr1 hf => ?_⟩, trivial, fun m v n' hm => by simp at hm⟩
  ·rw [e1]
   refine ⟨⟨by simpa using hf.ac, fun k o hk => by simp at hk⟩, ?_⟩
   unfold dY at hcs ⊢; exact hcs
  ·rw [e1]
   refine ⟨⟨by simpa using hf.ac, fun k o hk => by simp at hk⟩, ?_⟩
   unfold az at hu ⊢; exact hu
 | s :: ss, v :: vs, acc, T, k, T0, r, h => by
  unfold vD at h
  obtain ⟨x, accn, T1, T1', h, r1, l1, c1, v1, i1, o1'⟩ := oB s v acc T _ T0 r h
  obtain ⟨y, accm, T2, T2', h, r2, l2, c2, v2, i2, o2'⟩ := lY ss vs (acc ++ accn) T1 _ T1' r h
  have e2 : f6 (s :: ss) = cN s + f6 ss := by conv => lhs; unfold f6
  have ea : (acc ++ accn).length = acc.length + (pS E s x acc.length).2.length := by rw [gL]; simp [l1]
  have e1 : pL E (s :: ss) (x, y) acc.length = ((pS E s x acc.length).1 :: (pL E ss y (acc ++ accn).length).1, (pS E s x acc.length).2 ++ (pL E ss y (acc ++ accn).length).2) := by
   rw [ea]; rfl
  have join : ∀ {pls plm : List (Option Pl)}, pls.length = cN s → ∀ S1 H1 ρ1 Fr1, sk E S H ρ acc (pL E (s :: ss) (x, y) acc.length).2 (pls ++ plm) T2 S1 H1 ρ1 Fr1 →
    sk E S H ρ acc (pS E s x acc.length).2 pls T1 S1 H1 ρ1 Fr1 ∧ (pT E H ρ (acc ++ accn) H1 ρ1 → sk E S H ρ (acc ++ accn) (pL E ss y (acc ++ accn).length).2 plm T2 S1 H1 ρ1 Fr1) := by
   intro pls plm hpl S1 H1 ρ1 Fr1 hf
   rw [e1] at hf
   refine ⟨⟨fun b hb => hf.st b (ST.mono r2.1 hb), hf.fr, hf.ac, fun k o hk => hf.os k o ?_, fun k p hk => hf.pl k p ?_⟩, fun hacc => ⟨hf.st, hf.fr, hacc, fun k o hk => ?_, fun k p hk => ?_⟩⟩
   ·rw [List.getElem?_append_left (aH hk)]; exact hk
   ·rw [List.getElem?_append_left (aH hk)]; exact hk
   ·have := hf.os ((pS E s x acc.length).2.length + k) o (by rw [List.getElem?_append_right (by omega)]; simpa using hk)
    rw [← this, ea, Nat.add_assoc]
   ·have := hf.pl (cN s + k) p (by rw [List.getElem?_append_right (by omega), hpl]; simpa using hk)
    rw [← this, ea, gL, Nat.add_assoc]
  have outs : ∀ {S1 : Nat → Prop} {H1 : List (Ob E.C)} {ρ1 : Nat → Option Pl} {Fr1 : Nat → Prop}, zu E w H ρ acc accn (pS E s x acc.length).2 S1 H1 ρ1 Fr1 → zu E w H ρ (acc ++ accn) accm (pL E ss y (acc ++ accn).length).2 S1 H1 ρ1 Fr1 →
    zu E w H ρ acc (accn ++ accm) (pL E (s :: ss) (x, y) acc.length).2 S1 H1 ρ1 Fr1 := by
   intro S1 H1 ρ1 Fr1 o1 o2
   refine ⟨by rw [← List.append_assoc]; exact o2.ac, fun k o hk => ?_⟩
   rw [e1] at hk
   by_cases hlt : k < (pS E s x acc.length).2.length
   ·rw [List.getElem?_append_left hlt] at hk; exact o1.obs k o hk
   ·rw [List.getElem?_append_right (by omega)] at hk
    have := o2.obs _ o hk
    rw [ea] at this
    have e4 : acc.length + (pS E s x acc.length).2.length + (k - (pS E s x acc.length).2.length) = acc.length + k := by omega
    rw [e4] at this
    exact this
  refine ⟨(x, y), accn ++ accm, T2, T2', by rw [← List.append_assoc]; exact h, r1.trans r2, by rw [List.length_append, l1, l2, e2], fun t cs hok hcs => ?_, fun us hus => ?_, ?_, fun m v0 n' hm hn => ?_⟩
  ·unfold dY at hcs
   obtain ⟨a, b, c, d, rfl, rfl, ho, hc, hd⟩ := hcs
   simp only [vm, Bool.and_eq_true] at hok
   obtain ⟨pls, hpl, in1⟩ := c1 c hc
   obtain ⟨plm, hpm, in2⟩ := c2 b d hok.2 hd
   refine ⟨pls ++ plm, by simp [hpl, hpm, e2], fun S1 H1 ρ1 Fr1 hf => ?_⟩
   obtain ⟨f1, f2⟩ := join hpl S1 H1 ρ1 Fr1 hf
   obtain ⟨o1, a1⟩ := in1 S1 H1 ρ1 Fr1 f1
   obtain ⟨o2, a2⟩ := in2 S1 H1 ρ1 Fr1 (f2 o1.ac)
   refine ⟨outs o1 o2, ?_⟩
   rw [e1]
   unfold dY
   exact ⟨a, b, c, d, rfl, rfl, w9 hok.1, a1, a2⟩
  ·unfold az at hus
   obtain ⟨u, us', rfl, hu, hus⟩ := hus
   obtain ⟨pls, hpl, in1⟩ := v1 u hu
   obtain ⟨plm, hpm, in2⟩ := v2 us' hus
   refine ⟨pls ++ plm, by simp [hpl, hpm, e2], fun S1 H1 ρ1 Fr1 hf => ?_⟩
   obtain ⟨f1, f2⟩ := join hpl S1 H1 ρ1 Fr1 hf
   obtain ⟨o1, a1⟩ := in1 S1 H1 ρ1 Fr1 f1
   obtain ⟨o2, a2⟩ := in2 S1 H1 ρ1 Fr1 (f2 o1.ac)
   refine ⟨outs o1 o2, ?_⟩
   rw [e1]
   unfold az
   exact ⟨u, us', rfl, a1, a2⟩
  ·refine ⟨fun hh => ?_, ?_⟩
   ·have := i1 hh
    cases accn with
    | nil =>
     have h0 : 0 < cN s := by cases s <;> first | (cases hh; done) | (unfold cN; omega)
     simp at l1; omega
    | cons a accn => exact this
   ·have e : (accn ++ accm).drop (cN s) = accm := by rw [← l1, List.drop_left]
    rw [e]; exact i2
  ·rw [e1] at hn
   cases m with
   | zero =>
    simp at hm hn
    subst hm
    rcases o1' n' hn with h1 | h1 | ⟨i, h1, h2⟩
    ·exact .inl h1
    ·exact .inr (.inl h1)
    ·exact .inr (.inr ⟨i, h1, by rw [← List.append_assoc, List.getElem?_append_left (aH h2)]; exact h2⟩)
   | succ m =>
    rw [← List.append_assoc]
    exact o2' m v0 n' (by simpa using hm) (by simpa using hn)
 | [], _ :: _, acc, T, k, T0, r, h => by unfold vD at h; cases h
 | _ :: _, [], acc, T, k, T0, r, h => by unfold vD at h; cases h
end
end
end
end Go.Ev
end
section
namespace Go.Ev
section
variable {P : Program} {E : dD} {w w' w'' : World} {S S' S'' : Nat → Prop} {H H' : List (Ob E.C)} {ρ ρ' : Nat → Option Pl} {Fr Fr' : Nat → Prop} {F : List (Nat × cw E.C)}
variable {O O' O'' : Nat → Prop}
structure iw (w w' : World) (S S' O O' : Nat → Prop) : Prop where
 size : w.heap.size ≤ w'.heap.size
 os : w'.os = w.os
 tape : w'.tape = w.tape
 output : w'.output = w.output
 frame : ∀ b, b < w.heap.size → ¬ O b → w'.heap[b]? = w.heap[b]?
 sub : ∀ b, S b → S' b
 bnd : ∀ b, S' b → b < w'.heap.size
 sb : ∀ b, S' b → S b ∨ w.heap.size ≤ b ∨ O b
 own : ∀ b, O' b → O b ∨ w.heap.size ≤ b
theorem f7.blk (h : f7 w w' S S' H H' ρ ρ' Fr Fr') : iw w w' S S' (lD H ρ) (lD H' ρ') :=
 ⟨h.mon.st.1, h.os, h.tape, h.output, h.frame, h.mon.st.2.1, h.mon.st.2.2.2, h.sb, h.own⟩
theorem iw.refl (hS : ∀ b, S b → b < w.heap.size) : iw w w S S O O :=
 ⟨Nat.le_refl _, rfl, rfl, rfl, fun _ _ _ => rfl, fun _ h => h, hS, fun _ h => .inl h, fun _ h => .inl h⟩
theorem iw.trans (h : iw w w' S S' O O') (k : iw w' w'' S' S'' O' O'') : iw w w'' S S'' O O'' := by
 have hsz := h.size
 refine ⟨Nat.le_trans h.size k.size, k.os.trans h.os, k.tape.trans h.tape, k.output.trans h.output, fun b hb ho => ?_, fun b hb => k.sub b (h.sub b hb), k.bnd, fun b hb => ?_, fun b hb => ?_⟩
 ·refine (k.frame b (by omega) fun ho' => ?_).trans (h.frame b hb ho)
  rcases h.own b ho' with h1 | h1
  ·exact ho h1
  ·omega
 ·rcases k.sb b hb with h1 | h1 | h1
  ·exact h.sb b h1
  ·exact .inr (.inl (by omega))
  ·rcases h.own b h1 with h2 | h2
   ·exact .inr (.inr h2)
   ·exact .inr (.inl h2)
 ·rcases k.own b hb with h1 | h1
  ·exact h.own b h1
  ·exact .inr (by omega)
theorem mem_iff : ∀ {i : Nat} {T : List Nat}, iP.mem i T = true ↔ i ∈ T
 | i, [] => by simp [iP.mem]
 | i, y :: r => by simp [iP.mem, mem_iff (i := i) (T := r)]
theorem ir : ∀ (acc : List (Option (Nat × Bool))) (T : List Nat), jQ acc T = true →
  (∀ (k i : Nat) (b : Bool), acc[k]? = some (some (i, b)) → i ∉ T) ∧ ∀ (k k' i : Nat) (b b' : Bool), acc[k]? = some (some (i, b)) → acc[k']? = some (some (i, b')) → k = k'
 | [], T, _ => ⟨fun k i b h => by simp at h, fun k k' i b b' h => by simp at h⟩
 | none :: r, T, h => by
  obtain ⟨h1, h2⟩ := ir r T h
  refine ⟨fun k i b hk => ?_, fun k k' i b b' hk hk' => ?_⟩
  ·cases k with
   | zero => simp at hk
   | succ k => exact h1 k i b (by simpa using hk)
  ·cases k with
   | zero => simp at hk
   | succ k => cases k' with
    | zero => simp at hk'
    | succ k' => rw [h2 k k' i b b' (by simpa using hk) (by simpa using hk')]
 | some (j, c) :: r, T, h => by
  simp only [jQ, Bool.and_eq_true, Bool.not_eq_true'] at h
  obtain ⟨h0, h⟩ := h
  have hj : j ∉ T := fun hh => by rw [mem_iff.2 hh] at h0; cases h0
  obtain ⟨h1, h2⟩ := ir r (j :: T) h
  refine ⟨fun k i b hk => ?_, fun k k' i b b' hk hk' => ?_⟩
  ·cases k with
   | zero => simp at hk; rw [← hk.1]; exact hj
   | succ k => exact fun hh => h1 k i b (by simpa using hk) (by simp [hh])
  ·cases k with
   | zero => cases k' with
    | zero => rfl
    | succ k' => simp at hk; exact (h1 k' i b' (by simpa using hk') (by simp [hk.1])).elim
   | succ k => cases k' with
    | zero => simp at hk'; exact (h1 k i b (by simpa using hk) (by simp [hk'.1])).elim
    | succ k' => rw [h2 k k' i b b' (by simpa using hk) (by simpa using hk')]
abbrev far (H1 : List (Ob E.C)) (i : Nat) : Prop := H1.length ≤ i
theorem pT.blk {acc : List (Option (Nat × Bool))} {H1 : List (Ob E.C)} {ρ1 : Nat → Option Pl} (h : pT E H ρ acc H1 ρ1) (hl : acc.length = H1.length) {i : Nat} {o : Ob E.C} {q : Pl} (ho : H1[i]? = some o) (hq : ρ1 i = some q) :
  ∃ (j : Nat) (b : Bool) (o' : Ob E.C) (q' : Pl), acc[i]? = some (some (j, b)) ∧ H[j]? = some o' ∧ o'.live = true ∧ ρ j = some q' ∧ q'.b = q.b := by
 have hi := aH ho
 obtain ⟨e, he⟩ : ∃ e, acc[i]? = some e := ⟨_, List.getElem?_eq_getElem (by omega)⟩
 have := h i e he
 match e, he, this with
 | none, he, this => obtain ⟨h1, _⟩ := this; rw [hq] at h1; cases h1
 | some (j, true), he, this =>
  obtain ⟨h1, t, l, h2, h3⟩ := this
  exact ⟨j, true, _, q, he, h3, rfl, h1 ▸ hq, rfl⟩
 | some (j, false), he, this =>
  obtain ⟨⟨o', h1, h2, _⟩, h3⟩ := this
  obtain ⟨q', h4, h5⟩ := h3 q hq
  exact ⟨j, false, o', q', he, h1, h2, h4, h5.symm⟩
structure At (P : Program) (E : dD) (w : World) (S : Nat → Prop) (H : List (Ob E.C)) (ρ : Nat → Option Pl) (acc : List (Option (Nat × Bool))) (T : List Nat) (H1 : List (Ob E.C)) (ρ1 : Nat → Option Pl) : Prop where
 hp : dW E w (ST S ρ T) H1 ρ1 (far H1)
 ac : pT E H ρ acc H1 ρ1
 len : acc.length = H1.length
 bs : iw w w S (ST S ρ T) (lD H ρ) (lD H1 ρ1)
theorem zX (hE : iC E) (hp : dW E w S H ρ Fr) (hC : dp P F) (hS : ∀ b, S b → b < w.heap.size) {α : Type} {ss : List Sh} {vs : List (AV E.C)} {k : ap E.C (bh ss) → List (Option (Nat × Bool)) → List Nat → HM E.C α} {T0 : List Nat} {r : α × List Nat}
  (h : aj H (vD E F ss vs [] [] k) T0 = some r) : ∃ x acc T T0', aj H (k x acc T) T0' = some r ∧ de H [] T ∧ Ad ss vs acc ∧ (∀ (m : Nat) (v : AV E.C) (n' : Nat), vs[m]? = some v → (pL E ss x 0).1[m]? = some (.row n') → yC v n' acc) ∧
   (jQ acc T = true → ∀ us, az P E w S H ρ Fr vs us → ∃ ρ1, At P E w S H ρ acc T (pL E ss x 0).2 ρ1 ∧ az P E w (ST S ρ T) (pL E ss x 0).2 ρ1 (far (pL E ss x 0).2) (pL E ss x 0).1 us) := by
 obtain ⟨x, acc, T, T0', h, hr, hl, _, hv, hio, hro⟩ := lY hE hp hC ss vs [] [] k T0 r h
 rw [List.nil_append] at h
 refine ⟨x, acc, T, T0', h, hr, hio, hro, fun hnd us hus => ?_⟩
 obtain ⟨pls, hpl, hin⟩ := hv us hus
 obtain ⟨n1, n2⟩ := ir acc T hnd
 have live : ∀ i : Nat, i ∈ T → ∃ o : Ob E.C, H[i]? = some o ∧ o.live = true := fun i hi => by
  rcases hr.2 i hi with h | h
  ·simp at h
  ·exact h
 obtain ⟨hout, hav⟩ := hin (ST S ρ T) (pL E ss x 0).2 (fun k => match pls[k]? with | some p => p | none => none) (far (pL E ss x 0).2)
  ⟨fun _ h => h, fun _ h => h, fun k e hk => by simp at hk, fun k o hk => by simpa using hk, fun k p hk => by simp [hk]⟩
 generalize hρ : (fun k => match pls[k]? with | some p => p | none => none : Nat → Option Pl) = ρ1 at hout hav
 have hacc := hout.ac
 rw [List.nil_append] at hacc
 have hlen : acc.length = (pL E ss x 0).2.length := by rw [hl, k9]
 have hbnd : ∀ b, ST S ρ T b → b < w.heap.size := hp.sbound hS fun i hi => by obtain ⟨o, h1, h2⟩ := live i hi; exact ⟨o, h1, cd h2⟩
 refine ⟨ρ1, ⟨⟨fun i o ho => ?_, fun i o q ho hl hq => ?_, fun i j o o' q q' ho ho' hl hl' hq hq' hb => ?_, fun i o hf ho => ?_, fun i h => h⟩, hacc, hlen, ⟨Nat.le_refl _, rfl, rfl, rfl, fun _ _ _ => rfl, fun _ h => .inl h, hbnd, fun b hb => ?_, fun b hb => ?_⟩⟩, hav⟩
 ·have := hout.obs i o ho
  simpa using this
 ·obtain ⟨j, b, oj, qj, h1, h2, h3, h4, h5⟩ := hacc.blk hlen ho hq
  rintro (hs | ⟨i', q', hi', hq', e⟩)
  ·exact hp.out j oj qj h2 h3 h4 (h5 ▸ hs)
  ·obtain ⟨o', ho', hl'⟩ := live i' hi'
   have : j = i' := hp.inj j i' oj o' qj q' h2 ho' h3 hl' h4 hq' (h5.trans e.symm)
   exact n1 i j b h1 (this ▸ hi')
 ·obtain ⟨j1, b1, o1, q1, h1, h2, h3, h4, h5⟩ := hacc.blk hlen ho hq
  obtain ⟨j2, b2, o2, q2, g1, g2, g3, g4, g5⟩ := hacc.blk hlen ho' hq'
  have : j1 = j2 := hp.inj j1 j2 o1 o2 q1 q2 h2 g2 h3 g3 h4 g4 (h5.trans (hb.trans g5.symm))
  subst this
  exact n2 i j j1 b1 b2 h1 g1
 ·have := aH ho
  unfold far at hf
  omega
 ·rcases hb with hb | ⟨i, q, hi, hq, rfl⟩
  ·exact .inl hb
  ·obtain ⟨o, ho, hl⟩ := live i hi
   exact .inr (.inr ⟨i, o, q, ho, hl, hq, rfl⟩)
 ·obtain ⟨i, o, q, ho, _, hq, rfl⟩ := hb
  obtain ⟨j, b, oj, qj, h1, h2, h3, h4, h5⟩ := hacc.blk hlen ho hq
  exact .inl ⟨j, oj, qj, h2, h3, h4, h5⟩
mutual
def ren {C : Nat → Type} (θ : Nat → Nat) : AV C → AV C
 | .pv t x => .pv t x
 | .nils => .nils
 | .row i => .row (θ i)
 | .sub i lo hi => .sub (θ i) lo hi
 | .adr i p t => .adr (θ i) p t
 | .agg n fs => .agg n (m7 θ fs)
 | .tup fs => .tup (m7 θ fs)
 | .clo f cs => .clo f (m7 θ cs)
 | .undef => .undef
def m7 {C : Nat → Type} (θ : Nat → Nat) : List (AV C) → List (AV C)
 | [] => []
 | v :: vs => ren θ v :: m7 θ vs
end
def iN {C : Nat → Type} (θ : Nat → Nat) : Ob C → Ob C
 | .dead => .dead
 | .box t v fz => .box t (ren θ v) fz
 | .row t l fz => .row t l fz
theorem lX {C : Nat → Type} (θ : Nat → Nat) (o : Ob C) : (iN θ o).live = o.live := by cases o <;> rfl
theorem tV {θ : Nat → Nat} {v : AV E.C} {t : Ty} : fL E (ren θ v) t = fL E v t := by cases v <;> cases t <;> rfl
structure Ren (E : dD) (θ : Nat → Nat) (S S2 : Nat → Prop) (H H2 : List (Ob E.C)) (ρ ρ2 : Nat → Option Pl) (Fr Fr2 : Nat → Prop) : Prop where
 sub : ∀ b, S b → S2 b
 fr : ∀ k, ¬ Fr k → ¬ Fr2 (θ k)
 row : ∀ k t l fz, ¬ Fr k → H2[θ k]? = some (.row t l fz) → ρ2 (θ k) = ρ k ∧ ∃ l' fz', H[k]? = some (.row t l' fz') ∧ l'.length = l.length
 box : ∀ k t x fz, ¬ Fr k → H2[θ k]? = some (.box t x fz) → ∃ q q' x' fz', ρ k = some q ∧ ρ2 (θ k) = some q' ∧ q'.b = q.b ∧ H[k]? = some (.box t x' fz')
section
variable {θ : Nat → Nat} {S2 : Nat → Prop} {H2 : List (Ob E.C)} {ρ2 : Nat → Option Pl} {Fr2 : Nat → Prop}
theorem ia.rn (m : Ren E θ S S2 H H2 ρ ρ2 Fr Fr2) {i : Nat} {v : Value} (h : ia E H ρ Fr i v) : ia E H2 ρ2 Fr2 (θ i) v := by
 refine ⟨⟨m.fr i h.1.1, h.1.2⟩, fun t l fz e => ?_⟩
 obtain ⟨hr, l', fz', e', hl⟩ := m.row i t l fz h.1.1 e
 have := h.2 t l' fz' e'
 rw [hr]
 split <;> rename_i hq <;> rw [hq] at this <;> simp only [hl] at this <;> exact this
theorem kV.rn (m : Ren E θ S S2 H H2 ρ ρ2 Fr Fr2) {i lo hi : Nat} {v : Value} (h : kV E H ρ Fr i lo hi v) : kV E H2 ρ2 Fr2 (θ i) lo hi v := by
 refine ⟨⟨m.fr i h.1.1, h.1.2⟩, fun t l fz e => ?_⟩
 obtain ⟨hr, l', fz', e', hl⟩ := m.row i t l fz h.1.1 e
 have := h.2 t l' fz' e'
 rw [hr]
 exact this
theorem j0.rn (m : Ren E θ S S2 H H2 ρ ρ2 Fr Fr2) {i : Nat} {p : List Nat} {ta : Ty} {v : Value} (h : j0 E H ρ Fr i p ta v) : j0 E H2 ρ2 Fr2 (θ i) p ta v := by
 refine ⟨m.fr i h.1, h.2.1, fun t x fz e => ?_, fun t l fz e => ?_⟩
 ·obtain ⟨q, q', x', fz', h1, h2, h3, h4⟩ := m.box i t x fz h.1 e
  obtain ⟨q0, o, g1, g2, g3⟩ := h.2.2.1 t x' fz' h4
  rw [h1] at g1; cases g1
  exact ⟨q', o, h2, g2, by rw [h3]; exact g3⟩
 ·obtain ⟨hr, l', fz', e', hl⟩ := m.row i t l fz h.1 e
  rw [hr]
  obtain ⟨q, j, p', o, h1, h2, h3, h4, h5⟩ := h.2.2.2 t l' fz' e'
  exact ⟨q, j, p', o, h1, h2, hl ▸ h3, h4, h5⟩
mutual
theorem bc.rn (m : Ren E θ S S2 H H2 ρ ρ2 Fr Fr2) : ∀ {v : AV E.C} {cs : List Value}, bc E w S H ρ Fr v cs → bc E w S2 H2 ρ2 Fr2 (ren θ v) cs
 | .pv t x, cs, h => by unfold ren bc; unfold bc at h; exact h.mono m.sub (eo.refl _ _)
 | .nils, cs, h => by unfold ren bc; unfold bc at h; exact h
 | .row i, cs, h => by unfold ren bc; unfold bc at h; obtain ⟨v, e, k⟩ := h; exact ⟨v, e, k.rn m⟩
 | .sub i lo hi, cs, h => by unfold ren bc; unfold bc at h; obtain ⟨v, e, k⟩ := h; exact ⟨v, e, k.rn m⟩
 | .adr i p t, cs, h => by unfold ren bc; unfold bc at h; obtain ⟨v, e, k⟩ := h; exact ⟨v, e, k.rn m⟩
 | .agg n fs, cs, h => by unfold ren bc; unfold bc at h; exact dY.rn m h
 | .tup _, _, h => by unfold bc at h; exact h.elim
 | .clo _ _, _, h => by unfold bc at h; exact h.elim
 | .undef, _, h => by unfold bc at h; exact h.elim
theorem dY.rn (m : Ren E θ S S2 H H2 ρ ρ2 Fr Fr2) : ∀ {vs : List (AV E.C)} {t : Ty} {cs : List Value}, dY E w S H ρ Fr vs t cs → dY E w S2 H2 ρ2 Fr2 (m7 θ vs) t cs
 | [], t, cs, h => by unfold m7 dY; unfold dY at h; exact h
 | v :: vs, t, cs, h => by
  unfold m7 dY; unfold dY at h
  obtain ⟨a, b, c, d, e1, e2, e3, h1, h2⟩ := h
  exact ⟨a, b, c, d, e1, e2, tV.trans e3, bc.rn m h1, dY.rn m h2⟩
end
mutual
theorem aF.rn (m : Ren E θ S S2 H H2 ρ ρ2 Fr Fr2) : ∀ {v : AV E.C} {u : Value}, aF P E w S H ρ Fr v u → aF P E w S2 H2 ρ2 Fr2 (ren θ v) u
 | .tup vs, u, h => by unfold ren aF; unfold aF at h; obtain ⟨us, e, k⟩ := h; exact ⟨us, e, az.rn m k⟩
 | .clo f cs, u, h => by unfold ren aF; unfold aF at h; obtain ⟨us, e, k⟩ := h; exact ⟨us, e, az.rn m k⟩
 | .undef, u, h => by unfold ren aF; trivial
 | .pv t x, u, h => by unfold ren aF; unfold aF at h; exact jB.sub m.sub h
 | .nils, u, h => by unfold ren aF; unfold aF at h; exact h
 | .row i, u, h => by unfold ren aF; unfold aF at h; exact h.rn m
 | .sub i lo hi, u, h => by unfold ren aF; unfold aF at h; exact h.rn m
 | .adr i p t, u, h => by unfold ren aF; unfold aF at h; exact h.rn m
 | .agg n fs, u, h => by unfold ren aF; unfold aF at h; obtain ⟨cs, k, e⟩ := h; exact ⟨cs, dY.rn m k, e⟩
theorem az.rn (m : Ren E θ S S2 H H2 ρ ρ2 Fr Fr2) : ∀ {vs : List (AV E.C)} {us : List Value}, az P E w S H ρ Fr vs us → az P E w S2 H2 ρ2 Fr2 (m7 θ vs) us
 | [], us, h => by unfold m7 az; unfold az at h; exact h
 | v :: vs, us, h => by
  unfold m7 az; unfold az at h
  obtain ⟨u, us', e, h1, h2⟩ := h
  exact ⟨u, us', e, aF.rn m h1, az.rn m h2⟩
end
theorem dw.rn (m : Ren E θ S S2 H H2 ρ ρ2 Fr Fr2) {k : Nat} (hf : ¬ Fr k) {o : Ob E.C} (h2 : H2[θ k]? = some (iN θ o)) (h : dw E w S H ρ Fr k o) : dw E w S2 H2 ρ2 Fr2 (θ k) (iN θ o) := by
 cases o with
 | dead => unfold iN dw; trivial
 | box t v fz =>
  unfold iN at h2 ⊢
  unfold dw at h ⊢
  obtain ⟨q, T, cs, g1, g2, g3, g4, g5⟩ := h
  obtain ⟨q0, q', x', fz', a1, a2, a3, _⟩ := m.box k _ _ _ hf h2
  rw [g1] at a1; cases a1
  exact ⟨q', T, cs, a2, by rw [a3]; exact g2, tV.trans g3, bc.rn m g4, fun e => by rw [a3]; exact m.sub _ (g5 e)⟩
 | row t l fz =>
  unfold iN at h2 ⊢
  unfold dw at h ⊢
  obtain ⟨hr, _⟩ := m.row k _ _ _ hf h2
  rcases h with ⟨h1, h2⟩ | ⟨q, c, T, css, g1, g2, g3, g4, g5, g6, g7⟩
  ·exact .inl ⟨h1, hr.trans h2⟩
  ·exact .inr ⟨q, c, T, css, hr.trans g1, g2, g3, g4, fun j x hx => (g5 j x hx).mono m.sub (eo.refl _ _), g6, fun e => m.sub _ (g7 e)⟩
end
open Classical in
noncomputable def place (ρ ρc : Nat → Option Pl) (θ : Nat → Nat) (n s kk : Nat) (j : Nat) : Option Pl :=
 if h : (s ≤ j ∧ j < s + kk) ∧ ∃ k, k < n ∧ θ k = j then ρc (Classical.choose h.2) else ρ j
theorem Bf {acc : List (Option (Nat × Bool))} {T Tz : List Nat} {H1 Hc : List (Ob E.C)} {ρ1 ρc : Nat → Option Pl} {θ : Nat → Nat} {s kk : Nat}
  (hp : dW E w S H ρ Fr) (hS : ∀ b, S b → b < w.heap.size) (pg : At P E w S H ρ acc T H1 ρ1) (hnd : jQ acc T = true) (hr : de H [] T)
  (hpc : dW E w' S'' Hc ρc (far Hc)) (bs : iw w w' (ST S ρ T) S' (lD H1 ρ1) (lD Hc ρc))
  (s1 : ∀ b, S b → S'' b) (s2 : ∀ b, S'' b → S' b) (hz1 : ∀ i, i ∈ Tz → i ∈ T) (hz2 : ∀ i q, i ∈ Tz → ρ i = some q → S'' q.b) (hz3 : (∀ b, S'' b → S b) ∨ ∀ i, i ∈ T → i ∈ Tz)
  (hfr : ∀ j, s ≤ j → j < s + kk → Fr j) (hkk : s + kk ≤ H.length) (hlen : H'.length = H.length)
  (hθ : ∀ k, k < Hc.length → (s ≤ θ k ∧ θ k < s + kk) ∨ ((∃ (n : Nat) (b : Bool), acc[n]? = some (some (θ k, b))) ∧
   (∀ (t : Ty) (l : List (ap E.C t)) (fz : Bool), Hc[k]? = some (.row t l fz) → ρ (θ k) = ρc k ∧ ∃ l0 fz', H[θ k]? = some (.row t l0 fz') ∧ l0.length = l.length) ∧
   (∀ (t : Ty) (x : AV E.C) (fz : Bool), Hc[k]? = some (.box t x fz) → ∃ q q' x' fz', ρc k = some q ∧ ρ (θ k) = some q' ∧ q'.b = q.b ∧ H[θ k]? = some (.box t x' fz'))))
  (hinj : ∀ k k', k < Hc.length → k' < Hc.length → θ k = θ k' → k = k')
  (hA : ∀ j, (∀ k, k < Hc.length → θ k ≠ j) → (∀ (n : Nat) (b : Bool), acc[n]? ≠ some (some (j, b))) → j ∉ Tz → H'[j]? = H[j]?)
  (hB : ∀ k o, Hc[k]? = some o → H'[θ k]? = some (iN θ o))
  (hD : ∀ (j n : Nat) (b : Bool), (∀ k, k < Hc.length → θ k ≠ j) → acc[n]? = some (some (j, b)) → ∀ o : Ob E.C, H'[j]? = some o → o = .dead)
  (hZ : ∀ j, j ∈ Tz → H'[j]? = (H[j]?).map Ob.frozen) (hcd : ∀ (k : Nat) (o : Ob E.C), Hc[k]? = some o → o ≠ .dead) :
  f7 w w' S S'' H H' ρ (place ρ ρc θ Hc.length s kk) Fr (shr Fr s kk) ∧ dW E w' S'' H' (place ρ ρc θ Hc.length s kk) (shr Fr s kk) ∧ Ren E θ S'' S'' Hc H' ρc (place ρ ρc θ Hc.length s kk) (far Hc) (shr Fr s kk) := by
 obtain ⟨n1, n2⟩ := ir acc T hnd
 have live : ∀ i : Nat, i ∈ T → ∃ o : Ob E.C, H[i]? = some o ∧ o.live = true := fun i hi => by
  rcases hr.2 i hi with h | h
  ·simp at h
  ·exact h
 have accL : ∀ (n j : Nat) (b : Bool), acc[n]? = some (some (j, b)) → ∃ o : Ob E.C, H[j]? = some o ∧ o.live = true := by
  intro n j b h
  have := pg.ac n _ h
  cases b with
  | true => obtain ⟨_, t, l, _, h3⟩ := this; exact ⟨_, h3, rfl⟩
  | false => obtain ⟨⟨o, h1, h2, _⟩, _⟩ := this; exact ⟨o, h1, h2⟩
 have nfr : ∀ (j : Nat) (o : Ob E.C), H[j]? = some o → o.live = true → ¬ Fr j := fun j o h1 h2 => hp.nfr h1 (cd h2)
 generalize hρ2 : place ρ ρc θ Hc.length s kk = ρ2
 have pl_old : ∀ j, ¬ (s ≤ j ∧ j < s + kk) → ρ2 j = ρ j := fun j h => by
  rw [← hρ2]; unfold place; rw [dif_neg (fun hh => h hh.1)]
 have pl_new : ∀ k, k < Hc.length → (s ≤ θ k ∧ θ k < s + kk) → ρ2 (θ k) = ρc k := fun k hk h => by
  rw [← hρ2]; unfold place
  have hh : (s ≤ θ k ∧ θ k < s + kk) ∧ ∃ k', k' < Hc.length ∧ θ k' = θ k := ⟨h, k, hk, rfl⟩
  rw [dif_pos hh]
  have := Classical.choose_spec hh.2
  rw [hinj _ _ this.1 hk this.2]
 have own1 : ∀ b, lD H1 ρ1 b → ∃ (n j : Nat) (bb : Bool), ∃ (o : Ob E.C) (q : Pl), acc[n]? = some (some (j, bb)) ∧ H[j]? = some o ∧ o.live = true ∧ ρ j = some q ∧ q.b = b := by
  rintro b ⟨i, o, q, h1, h2, h3, rfl⟩
  obtain ⟨j, bb, o', q', g1, g2, g3, g4, g5⟩ := pg.ac.blk pg.len h1 h3
  exact ⟨i, j, bb, o', q', g1, g2, g3, g4, g5⟩
 have notOwn : ∀ (j : Nat) (o : Ob E.C) (q : Pl), H[j]? = some o → o.live = true → ρ j = some q → (∀ (n : Nat) (b : Bool), acc[n]? ≠ some (some (j, b))) → ¬ lD H1 ρ1 q.b := by
  intro j o q h1 h2 h3 h4 h5
  obtain ⟨n, j', bb, o', q', g1, g2, g3, g4, g5⟩ := own1 _ h5
  have : j = j' := hp.inj j j' o o' q q' h1 g2 h2 g3 h3 g4 g5.symm
  subst this
  exact h4 n bb g1
 have sNotOwn : ∀ b, S b → ¬ lD H1 ρ1 b := by
  intro b hb ho
  obtain ⟨n, j', bb, o', q', g1, g2, g3, g4, rfl⟩ := own1 _ ho
  exact hp.out j' o' q' g2 g3 g4 hb
 have notNew : ∀ (j : Nat) (o : Ob E.C), H[j]? = some o → o.live = true → ¬ (s ≤ j ∧ j < s + kk) := fun j o h1 h2 h3 => nfr j o h1 h2 (hfr j h3.1 h3.2)
 have plc : ∀ (k : Nat) (o : Ob E.C), Hc[k]? = some o → ∀ q, ρc k = some q → ∃ q', ρ2 (θ k) = some q' ∧ q'.b = q.b := by
  intro k o ho q hq
  rcases hθ k (aH ho) with h | ⟨⟨n, b, h1⟩, h2, h3⟩
  ·exact ⟨q, (pl_new k (aH ho) h).trans hq, rfl⟩
  ·obtain ⟨o', g1, g2⟩ := accL n _ b h1
   have hn := notNew _ _ g1 g2
   cases o with
   | dead => exact (hcd k _ ho rfl).elim
   | row t l fz => exact ⟨q, ((pl_old _ hn).trans (h2 t l fz ho).1).trans hq, rfl⟩
   | box t x fz =>
    obtain ⟨q0, q', x', fz', a1, a2, a3, _⟩ := h3 t x fz ho
    rw [hq] at a1; cases a1
    exact ⟨q', (pl_old _ hn).trans a2, a3⟩
 have plr : ∀ (k : Nat) (t : Ty) (l : List (ap E.C t)) (fz : Bool), Hc[k]? = some (.row t l fz) → ρ2 (θ k) = ρc k := by
  intro k t l fz ho
  rcases hθ k (aH ho) with h | ⟨⟨n, b, h1⟩, h2, h3⟩
  ·exact pl_new k (aH ho) h
  ·obtain ⟨o', g1, g2⟩ := accL n _ b h1
   exact (pl_old _ (notNew _ _ g1 g2)).trans (h2 t l fz ho).1
 have hnfr2 : ∀ k, k < Hc.length → ¬ shr Fr s kk (θ k) := by
  intro k hk hh
  rcases hθ k hk with h | ⟨⟨n, b, h1⟩, _⟩
  ·exact hh.2 h
  ·obtain ⟨o', g1, g2⟩ := accL n _ b h1
   exact nfr _ _ g1 g2 hh.1
 have rn : Ren E θ S'' S'' Hc H' ρc ρ2 (far Hc) (shr Fr s kk) := by
  refine ⟨fun _ h => h, fun k hk => hnfr2 k (by unfold far at hk; omega), fun k t l fz hk h => ?_, fun k t x fz hk h => ?_⟩
  ·unfold far at hk
   have hk' : k < Hc.length := by omega
   have := hB k _ (List.getElem?_eq_getElem hk')
   rw [h] at this
   generalize ho : Hc[k] = o at this
   have ho' : Hc[k]? = some o := by rw [List.getElem?_eq_getElem hk', ho]
   cases o <;> simp only [iN, Option.some.injEq] at this <;> cases this
   exact ⟨plr k _ _ _ ho', l, fz, ho', rfl⟩
  ·unfold far at hk
   have hk' : k < Hc.length := by omega
   have := hB k _ (List.getElem?_eq_getElem hk')
   rw [h] at this
   generalize ho : Hc[k] = o at this
   have ho' : Hc[k]? = some o := by rw [List.getElem?_eq_getElem hk', ho]
   cases o <;> simp only [iN, Option.some.injEq] at this <;> cases this
   rename_i v
   have hob := hpc.obs k _ ho'
   unfold dw at hob
   obtain ⟨q, TT, cs, g1, _⟩ := hob
   obtain ⟨q', a1, a2⟩ := plc k _ ho' q g1
   exact ⟨q, q', v, fz, g1, a1, a2, ho'⟩
 have what : ∀ (j : Nat) (o : Ob E.C), H'[j]? = some o → o ≠ .dead → (∃ k oc, Hc[k]? = some oc ∧ θ k = j ∧ o = iN θ oc) ∨ (j ∈ Tz ∧ ∃ o0, H[j]? = some o0 ∧ o = o0.frozen) ∨
   ((∀ k, k < Hc.length → θ k ≠ j) ∧ (∀ (n : Nat) (b : Bool), acc[n]? ≠ some (some (j, b))) ∧ j ∉ Tz ∧ H[j]? = some o) := by
  intro j o ho hd
  by_cases h1 : ∃ k, k < Hc.length ∧ θ k = j
  ·obtain ⟨k, hk, rfl⟩ := h1
   have := hB k _ (List.getElem?_eq_getElem hk)
   rw [ho] at this
   exact .inl ⟨k, _, List.getElem?_eq_getElem hk, rfl, Option.some.inj this⟩
  ·have h1' : ∀ k, k < Hc.length → θ k ≠ j := fun k hk e => h1 ⟨k, hk, e⟩
   by_cases h2 : j ∈ Tz
   ·have := hZ j h2
    rw [ho] at this
    cases h3 : H[j]? with
    | none => rw [h3] at this; cases this
    | some o0 => rw [h3] at this; exact .inr (.inl ⟨h2, o0, rfl, Option.some.inj this⟩)
   ·by_cases h3 : ∃ (n : Nat) (b : Bool), acc[n]? = some (some (j, b))
    ·obtain ⟨n, b, h3⟩ := h3
     exact (hd (hD j n b h1' h3 o ho)).elim
    ·have h3' : ∀ (n : Nat) (b : Bool), acc[n]? ≠ some (some (j, b)) := fun n b e => h3 ⟨n, b, e⟩
     exact .inr (.inr ⟨h1', h3', h2, by rw [← hA j h1' h3' h2]; exact ho⟩)
 have m : lG w w' S S'' H H' ρ ρ2 Fr (shr Fr s kk) := by
  refine ⟨⟨bs.size, s1, fun b hb => bs.frame b (hS b hb) (sNotOwn b hb), fun b hb => bs.bnd b (s2 b hb)⟩, fun i hi => ?_, fun i hi => pl_old i fun h => hi (hfr i h.1 h.2), fun i hi => hi.1⟩
  refine ⟨fun t l fz h => ?_, fun t x fz h => ?_⟩
  ·rcases what i _ h (by simp) with ⟨k, oc, h1, rfl, h2⟩ | ⟨h1, o0, h2, h3⟩ | ⟨_, _, _, h1⟩
   ·cases oc <;> simp only [iN] at h2 <;> cases h2
    rcases hθ k (aH h1) with g | ⟨_, g, _⟩
    ·exact (hi (hfr _ g.1 g.2)).elim
    ·obtain ⟨_, l0, fz', g1, g2⟩ := g _ _ _ h1
     exact ⟨l0, fz', g1, g2⟩
   ·cases o0 <;> simp only [Ob.frozen] at h3 <;> cases h3
    exact ⟨_, _, h2, rfl⟩
   ·exact ⟨l, fz, h1, rfl⟩
  ·rcases what i _ h (by simp) with ⟨k, oc, h1, rfl, h2⟩ | ⟨h1, o0, h2, h3⟩ | ⟨_, _, _, h1⟩
   ·cases oc <;> simp only [iN] at h2 <;> cases h2
    rcases hθ k (aH h1) with g | ⟨_, _, g⟩
    ·exact (hi (hfr _ g.1 g.2)).elim
    ·obtain ⟨_, _, x', fz', _, _, _, g1⟩ := g _ _ _ h1
     exact ⟨x', fz', g1⟩
   ·cases o0 <;> simp only [Ob.frozen] at h3 <;> cases h3
    exact ⟨_, _, h2⟩
   ·exact ⟨x, fz, h1⟩
 have oldBlk : ∀ (j : Nat) (o : Ob E.C) (q : Pl), H[j]? = some o → o.live = true → ρ j = some q → (∀ (n : Nat) (b : Bool), acc[n]? ≠ some (some (j, b))) → j ∉ Tz → w'.heap[q.b]? = w.heap[q.b]? ∧ ¬ S'' q.b := by
  intro j o q h1 h2 h3 h4 h5
  have hlt := (hp.obs j o h1).lt (cd h2) h3
  have hno := notOwn j o q h1 h2 h3 h4
  refine ⟨bs.frame _ hlt hno, fun hs => ?_⟩
  rcases hz3 with hz | hz
  ·exact hp.out j o q h1 h2 h3 (hz _ hs)
  ·rcases bs.sb _ (s2 _ hs) with (h | ⟨i, q', hi, hq', e⟩) | h | h
   ·exact hp.out j o q h1 h2 h3 h
   ·obtain ⟨o', ho', hl'⟩ := live i hi
    have : j = i := hp.inj j i o o' q q' h1 ho' h2 hl' h3 hq' e.symm
    subst this
    exact h5 (hz j hi)
   ·omega
   ·exact hno h
 have hpf : dW E w' S'' H' ρ2 (shr Fr s kk) := by
  refine hp.upd m (fun j => (∃ k, k < Hc.length ∧ θ k = j) ∨ (∃ (n : Nat) (b : Bool), acc[n]? = some (some (j, b))) ∨ j ∈ Tz) (fun j hj => ?_) (fun j o q hj ho hl hq => ?_) (fun j o hj ho => ?_) (fun j o q hj ho hl hq => ?_) (fun j o hf ho => ?_) (fun j hj => ?_)
  ·exact hA j (fun k hk e => hj (.inl ⟨k, hk, e⟩)) (fun n b e => hj (.inr (.inl ⟨n, b, e⟩))) (fun e => hj (.inr (.inr e)))
  ·exact oldBlk j o q ho hl hq (fun n b e => hj (.inr (.inl ⟨n, b, e⟩))) (fun e => hj (.inr (.inr e)))
  ·by_cases hd : o = .dead
   ·subst hd; unfold dw; trivial
   ·rcases what j o ho hd with ⟨k, oc, h1, rfl, rfl⟩ | ⟨h1, o0, h2, rfl⟩ | ⟨h1, h2, h3, _⟩
    ·exact dw.rn rn (by unfold far; have := aH h1; omega) ho (hpc.obs k oc h1)
    ·obtain ⟨o', g1, g2⟩ := live j (hz1 j h1)
     rw [h2] at g1; cases g1
     have hlt : ∀ q, ρ j = some q → q.b < w.heap.size := fun q hq => (hp.obs j o0 h2).lt (cd g2) hq
     have hblk : ∀ q, ρ j = some q → w'.heap[q.b]? = w.heap[q.b]? := fun q hq => bs.frame _ (hlt q hq) (notOwn j o0 q h2 g2 hq fun n b e => n1 n j b e (hz1 j h1))
     have hob := dw.mono m (nfr j o0 h2 g2) hblk (hp.obs j o0 h2)
     have hρj : ρ2 j = ρ j := m.pl j (nfr j o0 h2 g2)
     cases o0 with
     | dead => cases g2
     | box t v fz =>
      unfold dw at hob
      obtain ⟨q, TT, cs, a1, a2, a3, a4, a5⟩ := hob
      show dw E w' _ _ _ _ j (.box t v true)
      unfold dw
      exact ⟨q, TT, cs, a1, a2, a3, a4, fun _ => hz2 j q h1 (hρj ▸ a1)⟩
     | row t l fz =>
      unfold dw at hob
      show dw E w' _ _ _ _ j (.row t l true)
      unfold dw
      rcases hob with a1 | ⟨q, c, TT, css, a1, a2, a3, a4, a5, a6, a7⟩
      ·exact .inl a1
      ·exact .inr ⟨q, c, TT, css, a1, a2, a3, a4, a5, a6, fun _ => hz2 j q h1 (hρj ▸ a1)⟩
    ·rcases hj with ⟨k, hk, e⟩ | ⟨n, b, e⟩ | e
     ·exact (h1 k hk e).elim
     ·exact (h2 n b e).elim
     ·exact (h3 e).elim
  ·rcases what j o ho (cd hl) with ⟨k, oc, h1, rfl, rfl⟩ | ⟨h1, o0, h2, rfl⟩ | ⟨h1, h2, h3, _⟩
   ·rw [lX] at hl
    have hcl : ∃ qc, ρc k = some qc ∧ q.b = qc.b := by
     cases hqc : ρc k with
     | none =>
      cases oc with
      | dead => cases hl
      | row t l fz => rw [plr k _ _ _ h1, hqc] at hq; cases hq
      | box t x fz =>
       have hob := hpc.obs k _ h1
       unfold dw at hob
       obtain ⟨q0, _, _, g1, _⟩ := hob
       rw [hqc] at g1; cases g1
     | some qc =>
      obtain ⟨q', g1, g2⟩ := plc k oc h1 qc hqc
      rw [hq] at g1; cases g1
      exact ⟨qc, rfl, g2⟩
    obtain ⟨qc, c1, c2⟩ := hcl
    have hown : lD Hc ρc qc.b := ⟨k, oc, qc, h1, hl, c1, rfl⟩
    refine ⟨by rw [c2]; exact hpc.out k oc qc h1 hl c1, fun k' o' q' hk' ho' hl' hq' e => ?_⟩
    rcases what k' o' ho' (cd hl') with ⟨k2, oc2, g1, rfl, rfl⟩ | ⟨g1, o0, g2, rfl⟩ | ⟨g1, g2, g3, g4⟩
    ·rw [lX] at hl'
     have hcl2 : ∃ qc, ρc k2 = some qc ∧ q'.b = qc.b := by
      cases hqc : ρc k2 with
      | none =>
       cases oc2 with
       | dead => cases hl'
       | row t l fz => rw [plr k2 _ _ _ g1, hqc] at hq'; cases hq'
       | box t x fz =>
        have hob := hpc.obs k2 _ g1
        unfold dw at hob
        obtain ⟨q0, _, _, g1, _⟩ := hob
        rw [hqc] at g1; cases g1
      | some qc =>
       obtain ⟨q'', g3, g4⟩ := plc k2 oc2 g1 qc hqc
       rw [hq'] at g3; cases g3
       exact ⟨qc, rfl, g4⟩
     obtain ⟨qc2, d1, d2⟩ := hcl2
     have : k2 = k := hpc.inj k2 k oc2 oc qc2 qc g1 h1 hl' hl d1 c1 (by rw [← d2, ← c2]; exact e)
     exact hk' (by rw [this])
    ·cases o0 <;> cases hl'
    ·have hq'' : ρ k' = some q' := by rw [← m.pl k' (nfr k' o' g4 hl')]; exact hq'
     have hlt := (hp.obs k' o' g4).lt (cd hl') hq''
     rcases bs.own _ hown with h | h
     ·exact notOwn k' o' q' g4 hl' hq'' g2 (by rw [e, c2]; exact h)
     ·rw [← c2, ← e] at h; omega
   ·cases o0 <;> cases hl
   ·rcases hj with ⟨k, hk, e⟩ | ⟨n, b, e⟩ | e
    ·exact (h1 k hk e).elim
    ·exact (h2 n b e).elim
    ·exact (h3 e).elim
  ·by_cases hd : o = .dead
   ·exact hd
   ·rcases what j o ho hd with ⟨k, oc, h1, rfl, rfl⟩ | ⟨h1, o0, h2, rfl⟩ | ⟨_, _, _, h1⟩
    ·exact (hnfr2 k (aH h1) hf).elim
    ·obtain ⟨o', g1, g2⟩ := live j (hz1 j h1)
     exact (nfr j o' g1 g2 hf.1).elim
    ·exact hp.fre j o hf.1 h1
  ·rw [hlen] at hj
   exact ⟨hp.far j hj, by omega⟩
 refine ⟨⟨m, bs.os, bs.tape, bs.output, fun b hb ho => bs.frame b hb fun h => ho ?_, fun b hb => ?_, fun b hb => ?_⟩, hpf, rn⟩
 ·obtain ⟨n, j, bb, o, q, h1, h2, h3, h4, rfl⟩ := own1 b h
  exact ⟨j, o, q, h2, h3, h4, rfl⟩
 ·rcases bs.sb b (s2 b hb) with (h | ⟨i, q, hi, hq, rfl⟩) | h | h
  ·exact .inl h
  ·obtain ⟨o, h1, h2⟩ := live i hi
   exact .inr (.inr ⟨i, o, q, h1, h2, hq, rfl⟩)
  ·exact .inr (.inl h)
  ·obtain ⟨n, j, bb, o, q, h1, h2, h3, h4, rfl⟩ := own1 b h
   exact .inr (.inr ⟨j, o, q, h2, h3, h4, rfl⟩)
 ·obtain ⟨j, o, q, h1, h2, h3, rfl⟩ := hb
  rcases what j o h1 (cd h2) with ⟨k, oc, g1, rfl, rfl⟩ | ⟨g1, o0, g2, rfl⟩ | ⟨g1, g2, g3, g4⟩
  ·rw [lX] at h2
   have : lD Hc ρc q.b := by
    cases hqc : ρc k with
    | none =>
     cases oc with
     | dead => cases h2
     | row t l fz => rw [plr k _ _ _ g1, hqc] at h3; cases h3
     | box t x fz =>
      have hob := hpc.obs k _ g1
      unfold dw at hob
      obtain ⟨q0, _, _, g1, _⟩ := hob
      rw [hqc] at g1; cases g1
    | some qc =>
     obtain ⟨q', g3, g4⟩ := plc k oc g1 qc hqc
     rw [h3] at g3; cases g3
     exact ⟨k, oc, qc, g1, h2, hqc, g4.symm⟩
   rcases bs.own _ this with h | h
   ·obtain ⟨n, j, bb, o, q', a1, a2, a3, a4, a5⟩ := own1 _ h
    exact .inl ⟨j, o, q', a2, a3, a4, a5⟩
   ·exact .inr h
  ·cases o0 <;> cases h2
  ·have hq'' : ρ j = some q := by rw [← m.pl j (nfr j o g4 h2)]; exact h3
   exact .inl ⟨j, o, q, g4, h2, hq'', rfl⟩
end
end Go.Ev
end
section
namespace Go.Ev
section
variable {P : Program} {E : dD} {w w' : World} {S S' : Nat → Prop} {H H' : List (Ob E.C)} {ρ ρ' : Nat → Option Pl} {Fr Fr' : Nat → Prop} {F : List (Nat × cw E.C)}
def bf : List Sh → Nat → List Nat
 | [], _ => []
 | .hole _ :: r, n => bf r n
 | .nilh :: r, n => bf r n
 | s :: r, n => n :: bf r (n + cN s)
def dL : List Sh → Nat → List Nat
 | [], _ => []
 | s :: r, n => n :: dL r (n + cN s)
def eZ : List Sh → List Value → List Value
 | .hole _ :: ss, _ :: us => eZ ss us
 | .nilh :: ss, _ :: us => eZ ss us
 | _ :: ss, u :: us => u :: eZ ss us
 | _, _ => []
def sd (rs : List Value) : Value := match rs with | [v] => v | vs => .tuple vs.toArray
section
variable (P : Program) (E : dD)
def uI (w : World) (S : Nat → Prop) (H0 : List (Ob E.C)) (ρ0 : Nat → Option Pl) (ins outs : List Sh) (us : List Value) (y : ap E.C (bh outs)) : Ending → World → Prop := fun e w' =>
 ∃ S' ρ' rs, e = .returned (sd rs) ∧ dW E w' S' (pL E outs y 0).2 ρ' (far (pL E outs y 0).2) ∧ az P E w' S' (pL E outs y 0).2 ρ' (far (pL E outs y 0).2) (pL E outs y 0).1 (eZ ins us ++ rs) ∧
  iw w w' S S' (lD H0 ρ0) (lD (pL E outs y 0).2 ρ') ∧
  ∀ (j n n' : Nat), (bf ins 0)[j]? = some n → (dL outs 0)[j]? = some n' → (∃ (t : Ty) (l : List (ap E.C t)) (fz : Bool), (pL E outs y 0).2[n']? = some (.row t l fz)) → ρ' n' = ρ0 n
def fS (f : FuncId) (sp : lr E.C) : Prop := A9 P f ∧ ∀ (w : World) (S : Nat → Prop) (ρ0 : Nat → Option Pl) (x : ap E.C (bh sp.ins)) (us : List Value) (y : ap E.C (bh sp.outs)), (∀ b, S b → b < w.heap.size) →
 dW E w S (pL E sp.ins x 0).2 ρ0 (far (pL E sp.ins x 0).2) → az P E w S (pL E sp.ins x 0).2 ρ0 (far (pL E sp.ins x 0).2) (pL E sp.ins x 0).1 us → sp.fn x = some y →
 Calls P f us.toArray w (uI P E w S (pL E sp.ins x 0).2 ρ0 sp.ins sp.outs us y)
def jq (F : List (Nat × cw E.C)) : Prop := ∀ f sp, oJ f F = some sp → fS P E f sp
end
mutual
theorem lU {α : Type} : ∀ (sh : Sh) (x : ap E.C (jL sh)) (s : Nat) (ids : List Nat) (k : AV E.C → List (Ob E.C) → List Nat → HM E.C α) (T0 : List Nat) (r : α × List Nat), aj H (xA E sh x s ids k) T0 = some r →
  ∃ ids' v os, aj H (k v os (ids ++ ids')) T0 = some r ∧ ids'.length = cN sh ∧ (∀ j, j < cN sh → ids'[j]? = some (s + j)) ∧
   ∀ θ : Nat → Nat, (∀ k i, (ids ++ ids')[k]? = some i → θ k = i) → v = ren θ (pS E sh x ids.length).1 ∧ os = (pS E sh x ids.length).2.map (iN θ)
 | .hole t, x, s, ids, k, T0, r, h => by
  unfold xA at h
  exact ⟨[], _, _, by simpa using h, by unfold cN; rfl, fun j hj => by unfold cN at hj; omega, fun θ _ => ⟨rfl, rfl⟩⟩
 | .rowh t, x, s, ids, k, T0, r, h => by
  unfold xA at h
  refine ⟨[s], _, _, h, by unfold cN; rfl, fun j hj => by unfold cN at hj; have : j = 0 := (by omega); subst this; simp, fun θ hθ => ⟨?_, rfl⟩⟩
  have := hθ ids.length s (by simp)
  show AV.row s = .row (θ ids.length)
  rw [this]
 | .boxh t sh, x, s, ids, k, T0, r, h => by
  unfold xA at h
  replace h := lU sh x (s + 1) (ids ++ [s]) _ T0 r h
  obtain ⟨ids', v, os, h, hl, hj, hθ⟩ := h
  have e2 : cN (.boxh t sh) = cN sh + 1 := by conv => lhs; unfold cN
  refine ⟨s :: ids', _, _, by simpa using h, by simp [hl, e2], fun j hj' => ?_, fun θ hh => ?_⟩
  ·cases j with
   | zero => rfl
   | succ j =>
    have := hj j (by omega)
    simp only [List.getElem?_cons_succ, this]
    congr 1; omega
  ·obtain ⟨h1, h2⟩ := hθ θ (by simpa using hh)
   have h3 := hh ids.length s (by simp)
   have h4 : (ids ++ [s]).length = ids.length + 1 := by simp
   rw [h4] at h1 h2
   show AV.adr s [] t = .adr (θ ids.length) [] t ∧ Ob.box t v false :: os = Ob.box t (ren θ (pS E sh x (ids.length + 1)).1) false :: (pS E sh x (ids.length + 1)).2.map (iN θ)
   rw [h3, h1, h2]
   exact ⟨rfl, rfl⟩
 | .aggh n ss, x, s, ids, k, T0, r, h => by
  unfold xA at h
  replace h := lZ ss x s ids _ T0 r h
  obtain ⟨ids', vs, os, h, hl, hj, hθ⟩ := h
  have e2 : cN (.aggh n ss) = f6 ss := by conv => lhs; unfold cN
  refine ⟨ids', _, _, h, hl.trans e2.symm, by rw [e2]; exact hj, fun θ hh => ?_⟩
  obtain ⟨h1, h2⟩ := hθ θ hh
  show AV.agg n vs = .agg n (m7 θ (pL E ss x ids.length).1) ∧ os = (pL E ss x ids.length).2.map (iN θ)
  rw [h1, h2]
  exact ⟨rfl, rfl⟩
 | .same j, x, s, ids, k, T0, r, h => by
  unfold xA at h
  split at h
  ·rename_i i hi
   refine ⟨[], _, _, by simpa using h, by unfold cN; rfl, fun j hj => by unfold cN at hj; omega, fun θ hθ => ⟨?_, rfl⟩⟩
   show AV.row i = .row (θ j)
   rw [hθ j i (by simpa using hi)]
  ·cases h
 | .part j, x, s, ids, k, T0, r, h => by
  unfold xA at h
  split at h
  ·rename_i i hi
   refine ⟨[], _, _, by simpa using h, by unfold cN; rfl, fun j hj => by unfold cN at hj; omega, fun θ hθ => ⟨?_, rfl⟩⟩
   show AV.sub i _ _ = .sub (θ j) _ _
   rw [hθ j i (by simpa using hi)]
  ·cases h
 | .nilh, x, s, ids, k, T0, r, h => by
  unfold xA at h
  exact ⟨[], _, _, by simpa using h, by unfold cN; rfl, fun j hj => by unfold cN at hj; omega, fun θ _ => ⟨rfl, rfl⟩⟩
theorem lZ {α : Type} : ∀ (ss : List Sh) (x : ap E.C (bh ss)) (s : Nat) (ids : List Nat) (k : List (AV E.C) → List (Ob E.C) → List Nat → HM E.C α) (T0 : List Nat) (r : α × List Nat), aj H (A1 E ss x s ids k) T0 = some r →
  ∃ ids' vs os, aj H (k vs os (ids ++ ids')) T0 = some r ∧ ids'.length = f6 ss ∧ (∀ j, j < f6 ss → ids'[j]? = some (s + j)) ∧
   ∀ θ : Nat → Nat, (∀ k i, (ids ++ ids')[k]? = some i → θ k = i) → vs = m7 θ (pL E ss x ids.length).1 ∧ os = (pL E ss x ids.length).2.map (iN θ)
 | [], x, s, ids, k, T0, r, h => by
  unfold A1 at h
  exact ⟨[], _, _, by simpa using h, by unfold f6; rfl, fun j hj => by unfold f6 at hj; omega, fun θ _ => ⟨rfl, rfl⟩⟩
 | sh :: ss, x, s, ids, k, T0, r, h => by
  unfold A1 at h
  replace h := lU sh x.1 s ids _ T0 r h
  obtain ⟨ids1, v, os1, h, hl1, hj1, hθ1⟩ := h
  replace h := lZ ss x.2 (s + cN sh) (ids ++ ids1) _ T0 r h
  obtain ⟨ids2, vs, os2, h, hl2, hj2, hθ2⟩ := h
  have e2 : f6 (sh :: ss) = cN sh + f6 ss := by conv => lhs; unfold f6
  refine ⟨ids1 ++ ids2, _, _, by rw [← List.append_assoc]; exact h, by simp [hl1, hl2, e2], fun j hj => ?_, fun θ hh => ?_⟩
  ·by_cases hlt : j < cN sh
   ·rw [List.getElem?_append_left (by omega)]; exact hj1 j hlt
   ·rw [List.getElem?_append_right (by omega), hl1, hj2 _ (by omega)]
    congr 1; omega
  ·obtain ⟨a1, a2⟩ := hθ1 θ (fun k i hk => hh k i (by rw [← List.append_assoc, List.getElem?_append_left (aH hk)]; exact hk))
   obtain ⟨b1, b2⟩ := hθ2 θ (fun k i hk => hh k i (by rw [← List.append_assoc]; exact hk))
   have e3 : (ids ++ ids1).length = ids.length + (pS E sh x.1 ids.length).2.length := by rw [gL]; simp [hl1]
   rw [e3] at b1 b2
   show v :: vs = ren θ (pS E sh x.1 ids.length).1 :: m7 θ (pL E ss x.2 (ids.length + (pS E sh x.1 ids.length).2.length)).1 ∧ os1 ++ os2 = ((pS E sh x.1 ids.length).2 ++ (pL E ss x.2 (ids.length + (pS E sh x.1 ids.length).2.length)).2).map (iN θ)
   rw [a1, b1, a2, b2, List.map_append]
   exact ⟨rfl, rfl⟩
end
def nO : AV E.C → Nat
 | .row i => i
 | .adr i _ _ => i
 | _ => 0
def B2 (v p : AV E.C) (i k : Nat) (o : Ob E.C) : Prop :=
 (v = .row i ∧ p = .row k ∧ ∃ (t : Ty) (l : List (ap E.C t)), o = .row t l false) ∨ (∃ ta t x, v = .adr i [] ta ∧ p = .adr k [] t ∧ o = .box t x false)
theorem jV {α : Type} : ∀ (vs : List (AV E.C)) (outs : List Sh) (y : ap E.C (bh outs)) (s : Nat) (ids : List Nat) (ups : List (Nat × Ob E.C)) (os : List (Ob E.C))
  (k : (ss : List Sh) → ap E.C (bh ss) → Nat → List Nat → List (Nat × Ob E.C) → List (Ob E.C) → HM E.C α) (T0 : List Nat) (r : α × List Nat), aj H (nL E vs outs y s ids ups os k) T0 = some r →
  ∃ rs z ids' ups' os', aj H (k rs z (s + os'.length) (ids ++ ids') (ups ++ ups') (os ++ os')) T0 = some r ∧ os'.length ≤ ids'.length ∧ ups'.length = vs.length ∧ (∀ m, m < os'.length → ∃ k : Nat, ids'[k]? = some (s + m)) ∧ (∀ u, u ∈ ups' → ∃ k : Nat, ids'[k]? = some u.1) ∧ (∀ (j : Nat) v u, vs[j]? = some v → ups'[j]? = some u → u.1 = nO v ∧ ((∃ i, v = .row i) ∨ ∃ i ta, v = .adr i [] ta)) ∧
   (∀ Nw : Nat → Prop, (∀ (j : Nat) v, vs[j]? = some v → ¬ Nw (nO v)) → (∀ (k i : Nat), ids'[k]? = some i → Nw i → s ≤ i ∧ i < s + os'.length) ∧ ∀ (k k' i : Nat), ids'[k]? = some i → ids'[k']? = some i → Nw i → k = k') ∧
   ∀ θ : Nat → Nat, (∀ k i, (ids ++ ids')[k]? = some i → θ k = i) → ∃ pv Hb, (pL E outs y ids.length).1 = pv ++ (pL E rs z (ids.length + ids'.length)).1 ∧ (pL E outs y ids.length).2 = Hb ++ (pL E rs z (ids.length + ids'.length)).2 ∧
    Hb.length = ids'.length ∧ pv.length = vs.length ∧ ∀ (k : Nat) (o : Ob E.C), Hb[k]? = some o → ∃ i, ids'[k]? = some i ∧
     ((∃ (j : Nat) (v p : AV E.C), vs[j]? = some v ∧ pv[j]? = some p ∧ B2 v p i (ids.length + k) o ∧ ups'[j]? = some (i, iN θ o) ∧ (dL outs ids.length)[j]? = some (ids.length + k)) ∨ ∃ j, os'[j]? = some (iN θ o) ∧ i = s + j)
 | [], outs, y, s, ids, ups, os, k, T0, r, h => by
  unfold nL at h
  exact ⟨outs, y, [], [], [], by simpa using h, by simp, rfl, by simp, by simp, by simp, by simp, fun θ _ => ⟨[], [], rfl, rfl, rfl, rfl, by simp⟩⟩
 | v :: vs, sh :: ss, y, s, ids, ups, os, k, T0, r, h => by
  unfold nL at h
  split at h
  ·rename_i i t y
   replace h := jV vs ss _ s (ids ++ [i]) _ os k T0 r h
   obtain ⟨rs, z, ids', ups', os', h, hle, hul, hs1, hs2, hun, hnw, hθ⟩ := h
   have el : (ids ++ [i]).length = ids.length + 1 := by simp
   refine ⟨rs, z, i :: ids', (i, .row t (show List (ap E.C t) × ap E.C (bh ss) from y).1 false) :: ups', os', by simpa using h, by simp; omega, by simp [hul], fun m hm => ?_, fun u hu => ?_, fun j v u hv hu => ?_, fun Nw hN => ⟨fun k i' hk hi => ?_, fun k k' i' hk hk' hi => ?_⟩, fun θ hh => ?_⟩
   ·obtain ⟨k, hk⟩ := hs1 m hm
    exact ⟨k + 1, by simpa using hk⟩
   ·rcases List.mem_cons.1 hu with rfl | hu
    ·exact ⟨0, rfl⟩
    ·obtain ⟨k, hk⟩ := hs2 u hu
     exact ⟨k + 1, by simpa using hk⟩
   ·cases j with
    | zero => simp at hv hu; subst hv; subst hu; exact ⟨rfl, .inl ⟨_, rfl⟩⟩
    | succ j => exact hun j v u (by simpa using hv) (by simpa using hu)
   ·have hNi : ¬ Nw i := hN 0 _ rfl
    cases k with
    | zero => simp at hk; subst hk; exact (hNi hi).elim
    | succ k => exact (hnw Nw (fun j v hv => hN (j + 1) v (by simpa using hv))).1 k i' (by simpa using hk) hi
   ·have hNi : ¬ Nw i := hN 0 _ rfl
    cases k with
    | zero => simp at hk; subst hk; exact (hNi hi).elim
    | succ k => cases k' with
     | zero => simp at hk'; subst hk'; exact (hNi hi).elim
     | succ k' => rw [(hnw Nw (fun j v hv => hN (j + 1) v (by simpa using hv))).2 k k' i' (by simpa using hk) (by simpa using hk') hi]
   ·obtain ⟨pv, Hb, h1, h2, h3, h4, h5⟩ := hθ θ (by simpa using hh)
    rw [el] at h1 h2 h5
    have e5 : ids.length + 1 + ids'.length = ids.length + (i :: ids').length := by simp; omega
    rw [e5] at h1 h2
    refine ⟨.row ids.length :: pv, .row t (show List (ap E.C t) × ap E.C (bh ss) from y).1 false :: Hb, ?_, ?_, by simp [h3], by simp [h4], fun k o hk => ?_⟩
    ·show AV.row ids.length :: (pL E ss _ (ids.length + 1)).1 = _
     rw [h1]; rfl
    ·show Ob.row t _ false :: (pL E ss _ (ids.length + 1)).2 = _
     rw [h2]; rfl
    ·cases k with
     | zero =>
      simp at hk; subst hk
      exact ⟨i, rfl, .inl ⟨0, _, _, rfl, rfl, .inl ⟨rfl, rfl, t, _, rfl⟩, rfl, rfl⟩⟩
     | succ k =>
      obtain ⟨i', g1, g2⟩ := h5 k o (by simpa using hk)
      refine ⟨i', by simpa using g1, ?_⟩
      rcases g2 with ⟨j, v, p, a1, a2, a3, a4, a5⟩ | ⟨j, a1, a2⟩
      ·have e6 : ids.length + 1 + k = ids.length + (k + 1) := by omega
       rw [e6] at a3 a5
       refine .inl ⟨j + 1, v, p, by simpa using a1, by simpa using a2, a3, by simpa using a4, ?_⟩
       unfold dL
       have : cN (.rowh t) = 1 := by unfold cN; rfl
       rw [this]; simpa using a5
      ·exact .inr ⟨j, a1, a2⟩
  ·rename_i i ta t sh y
   replace h := lU sh _ s (ids ++ [i]) _ T0 r h
   obtain ⟨ids1, w, os1, h, hl1, hj1, hθ1⟩ := h
   replace h := jV vs ss _ (s + cN sh) _ _ _ k T0 r h
   obtain ⟨rs, z, ids', ups', os', h, hle, hul, hs1, hs2, hun, hnw, hθ⟩ := h
   have hol : os1.length = cN sh := by
    have hgen := hθ1 (fun k => (((ids ++ [i]) ++ ids1)[k]?).getD 0) (fun k i hk => by simp only [hk]; rfl)
    rw [hgen.2, List.length_map]; exact gL sh _ _
   have el : (ids ++ [i]).length = ids.length + 1 := by simp
   have el2 : (ids ++ [i] ++ ids1).length = ids.length + 1 + cN sh := by simp [hl1]; omega
   have eb : cN (.boxh t sh) = cN sh + 1 := by conv => lhs; unfold cN
   refine ⟨rs, z, i :: (ids1 ++ ids'), (i, .box t w false) :: ups', os1 ++ os', ?_, by simp [hl1, hol]; omega, by simp [hul], fun m hm => ?_, fun u hu => ?_, fun j v u hv hu => ?_, fun Nw hN => ⟨fun k i' hk hi => ?_, fun k k' i' hk hk' hi => ?_⟩, fun θ hh => ?_⟩
   ·have e7 : s + (os1 ++ os').length = s + cN sh + os'.length := by simp [hol]; omega
    rw [e7]
    simpa using h
   ·by_cases hlt : m < cN sh
    ·exact ⟨m + 1, by simp only [List.getElem?_cons_succ]; rw [List.getElem?_append_left (by omega)]; exact hj1 m hlt⟩
    ·obtain ⟨k, hk⟩ := hs1 (m - cN sh) (by simp [hol] at hm; omega)
     refine ⟨cN sh + k + 1, ?_⟩
     simp only [List.getElem?_cons_succ]
     rw [List.getElem?_append_right (by omega), hl1, Nat.add_sub_cancel_left, hk]
     congr 1; omega
   ·rcases List.mem_cons.1 hu with rfl | hu
    ·exact ⟨0, rfl⟩
    ·obtain ⟨k, hk⟩ := hs2 u hu
     refine ⟨cN sh + k + 1, ?_⟩
     simp only [List.getElem?_cons_succ]
     rw [List.getElem?_append_right (by omega), hl1, Nat.add_sub_cancel_left, hk]
   ·cases j with
    | zero => simp at hv hu; subst hv; subst hu; exact ⟨rfl, .inr ⟨_, _, rfl⟩⟩
    | succ j => exact hun j v u (by simpa using hv) (by simpa using hu)
   ·have hNi : ¬ Nw i := hN 0 _ rfl
    cases k with
    | zero => simp at hk; subst hk; exact (hNi hi).elim
    | succ k =>
     simp only [List.getElem?_cons_succ] at hk
     by_cases hlt : k < ids1.length
     ·rw [List.getElem?_append_left hlt, hj1 k (by omega)] at hk
      cases hk
      simp [hol]; omega
     ·rw [List.getElem?_append_right (by omega)] at hk
      have := (hnw Nw (fun j v hv => hN (j + 1) v (by simpa using hv))).1 _ i' hk hi
      simp [hol]; omega
   ·have hNi : ¬ Nw i := hN 0 _ rfl
    have hr := hnw Nw (fun j v hv => hN (j + 1) v (by simpa using hv))
    cases k with
    | zero => simp at hk; subst hk; exact (hNi hi).elim
    | succ k => cases k' with
     | zero => simp at hk'; subst hk'; exact (hNi hi).elim
     | succ k' =>
      simp only [List.getElem?_cons_succ] at hk hk'
      congr 1
      by_cases hlt : k < ids1.length
      ·rw [List.getElem?_append_left hlt, hj1 k (by omega)] at hk
       cases hk
       by_cases hlt' : k' < ids1.length
       ·rw [List.getElem?_append_left hlt', hj1 k' (by omega)] at hk'
        have := Option.some.inj hk'
        omega
       ·rw [List.getElem?_append_right (by omega)] at hk'
        have := hr.1 _ _ hk' hi
        omega
      ·rw [List.getElem?_append_right (by omega)] at hk
       by_cases hlt' : k' < ids1.length
       ·rw [List.getElem?_append_left hlt', hj1 k' (by omega)] at hk'
        cases hk'
        have := hr.1 _ _ hk hi
        omega
       ·rw [List.getElem?_append_right (by omega)] at hk'
        have := hr.2 _ _ _ hk hk' hi
        omega
   ·obtain ⟨b1, b2⟩ := hθ1 θ (fun k i2 hk => hh k i2 (by
     have e : ids ++ i :: (ids1 ++ ids') = ids ++ [i] ++ ids1 ++ ids' := by simp
     rw [e, List.getElem?_append_left (aH hk)]; exact hk))
    obtain ⟨pv, Hb, h1, h2, h3, h4, h5⟩ := hθ θ (by simpa using hh)
    rw [el2] at h1 h2 h5
    rw [el] at b1 b2
    have e5 : ids.length + 1 + cN sh + ids'.length = ids.length + (i :: (ids1 ++ ids')).length := by simp [hl1]; omega
    rw [e5] at h1 h2
    have hlen : (pS E (.boxh t sh) y.1 ids.length).2.length = cN sh + 1 := (gL (.boxh t sh) y.1 _).trans eb
    have e8 : ids.length + (pS E (.boxh t sh) y.1 ids.length).2.length = ids.length + 1 + cN sh := by rw [hlen]; omega
    refine ⟨.adr ids.length [] t :: pv, .box t (pS E sh y.1 (ids.length + 1)).1 false :: ((pS E sh y.1 (ids.length + 1)).2 ++ Hb), ?_, ?_, ?_, by simp [h4], fun k o hk => ?_⟩
    ·show AV.adr ids.length [] t :: (pL E ss y.2 (ids.length + (pS E (.boxh t sh) y.1 ids.length).2.length)).1 = _
     rw [e8, h1]; rfl
    ·show Ob.box t (pS E sh y.1 (ids.length + 1)).1 false :: (pS E sh y.1 (ids.length + 1)).2 ++ (pL E ss y.2 (ids.length + (pS E (.boxh t sh) y.1 ids.length).2.length)).2 = _
     rw [e8, h2]; simp
    ·have := gL (E := E) sh y.1 (ids.length + 1)
     simp only [List.length_cons, List.length_append]
     rw [h3, hl1]
     exact congrArg (· + ids'.length + 1) this
    ·cases k with
     | zero =>
      simp at hk; subst hk
      refine ⟨i, rfl, .inl ⟨0, _, _, rfl, rfl, .inr ⟨ta, t, _, rfl, rfl, rfl⟩, ?_, rfl⟩⟩
      show some (i, Ob.box t w false) = some (i, Ob.box t (ren θ (pS E sh y.1 (ids.length + 1)).1) false)
      rw [b1]
     | succ k =>
      simp only [List.getElem?_cons_succ] at hk ⊢
      have hpl : (pS E sh y.1 (ids.length + 1)).2.length = cN sh := gL sh _ _
      by_cases hlt : k < cN sh
      ·rw [List.getElem?_append_left (by omega)] at hk
       refine ⟨s + k, by rw [List.getElem?_append_left (by omega)]; exact hj1 k hlt, .inr ⟨k, ?_, rfl⟩⟩
       rw [List.getElem?_append_left (by omega), b2, List.getElem?_map, hk]; rfl
      ·rw [List.getElem?_append_right (by omega), hpl] at hk
       obtain ⟨i', g1, g2⟩ := h5 _ o hk
       refine ⟨i', by rw [List.getElem?_append_right (by omega), hl1]; exact g1, ?_⟩
       rcases g2 with ⟨j, v, p, a1, a2, a3, a4, a5⟩ | ⟨j, a1, a2⟩
       ·have e6 : ids.length + 1 + cN sh + (k - cN sh) = ids.length + (k + 1) := by omega
        rw [e6] at a3 a5
        refine .inl ⟨j + 1, v, p, by simpa using a1, by simpa using a2, a3, by simpa using a4, ?_⟩
        unfold dL
        rw [eb]
        have e9 : ids.length + (cN sh + 1) = ids.length + 1 + cN sh := by omega
        rw [e9]; simpa using a5
       ·refine .inr ⟨cN sh + j, ?_, by omega⟩
        rw [List.getElem?_append_right (by omega), hol]
        have : cN sh + j - cN sh = j := by omega
        rw [this]; exact a1
  ·cases h
 | _ :: _, [], y, s, ids, ups, os, k, T0, r, h => by unfold nL at h; cases h
end
end Go.Ev
end
