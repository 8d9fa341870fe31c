/- The row LayeringFind: its law returns true for every input, and the arguments read behind the call as before. -/
import Derived.SizedLaws
import Derived.Test.YtlmpeiepanajmaaGreatM6
set_option linter.all false
section
namespace Go.Proofs.YtlmpeiepanajmaaGreat
open Go.Ev Go.Ev.Pl
theorem own : ownKnob Tryz.prog.godebug = none := by kernel_rfl
theorem xl : laidOutB Tryz.prog = true := by kernel_rfl
theorem wW : oU Tryz.prog env = true := by kernel_rfl
theorem sa : k7 env fun t => wl env [0,1,2,3,4,5,6,7,8,9,10,11,12,13,14,15] t = true := sG (by kernel_rfl)
theorem xp (x) (h : iP env (Go.Ev.prodT [.nm 3, .slice (.nm 13)]) x) : ∃ k, aK k x.1 x.2.1 = some (true, ()) :=
 ⟨40000, wa (szT (be h).1) (zy (be (be h).2).1) (by omega) za⟩
set_option maxHeartbeats 8000000 in
theorem sA (os : Os) (started : os.Started) (H : Type) (enc : TypeId × Value → H) :
  ReturnsInHanded {} Tryz.checked os 5 .any (Rows.layeringFindSpec.pre6 enc Tryz.prog Tryz.f5 Rows.layeringFindRow.domain false) (Rows.layeringFindSpec.post enc Tryz.prog Tryz.f5 false true false false) := by
 refine returnsInHanded_of_change_sized (C := Tryz.checked) own started (by kernel_rfl) Tryz.func5
  (ChangeSpec.witness6 (enc := enc) (C := Tryz.checked) false ⟨#[], #[.agg #[.slice none 0 0, .slice none 0 0], .slice none 0 0], []⟩ 8 (by kernel_rfl) (by kernel_rfl) (by kernel_rfl) (by kernel_rfl))
  (pI (E := env) (C := Tryz.checked) (ts := [.nm 3, .slice (.nm 13)]) (B := 4) xl yr wW sa rfl rfl (by kernel_rfl) (by kernel_rfl) (by decide) ?_ rfl rfl (fun ds h => ?_)
   (fv := fun k x => aK k x.1 x.2.1) (fun k => aK.good k) rfl xp)
 ·exact of_decide_eq_true (by kernel_rfl)
 match ds, h with
 | [d1, d2], _ => rfl
set_option maxHeartbeats 8000000 in
theorem find_holds : Rows.LayeringFindSaid :=
 OpenClaim.holds_of_wide 5 Tryz.f5 rfl rfl rfl rfl rfl rfl rfl ⟨rfl, rfl, rfl, rfl, rfl⟩ rfl rfl rfl rfl rfl (by kernel_rfl) Tryz.func5 s7
  (of_decide_eq_true (by kernel_rfl)) (by unfold Func.isWrapper; first | (rw [if_pos (by decide +kernel)]; kernel_rfl) | (rw [if_neg (by decide +kernel)]; exact ⟨rfl, rfl⟩))
  (fun os started H enc _ => sA os started H enc)
end Go.Proofs.YtlmpeiepanajmaaGreat
end
