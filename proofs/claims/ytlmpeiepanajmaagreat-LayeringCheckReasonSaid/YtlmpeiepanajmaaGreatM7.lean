/- The row LayeringCheckReason: its law returns true for every input, and the arguments read behind the call as before. -/
import Derived.SizedLaws
import Derived.Test.YtlmpeiepanajmaaGreatM6
set_option linter.all false
section
namespace Go.Proofs.YtlmpeiepanajmaaGreat
open Go.Ev Go.Ev.Pl
theorem own : ownKnob Tryz.prog.godebug = none := by kernel_rfl
theorem vp : laidOutB Tryz.prog = true := by kernel_rfl
theorem uW : oC Tryz.prog env = true := by kernel_rfl
theorem qz : jB env fun t => uK env [0,1,2,3,4,5,6,7,8,9,10,11,12,13,14,15] t = true := qI (by kernel_rfl)
theorem my (x) (h : im env (Go.Ev.prodT [.nm 3, .slice (.nm 13), .slice (.nm 14)]) x) : ∃ k, ay k x.1 x.2.1 x.2.2.1 = some (true, ()) :=
 ⟨40000, n7 (szT (bd h).1) (xT (bd (bd h).2).1) (by omega) xp⟩
set_option maxHeartbeats 8000000 in
theorem kG (os : Os) (started : os.Started) (H : Type) (enc : TypeId × Value → H) :
  ReturnsInHanded {} Tryz.checked os 4 .any (Rows.layeringCheckReasonSpec.pre6 enc Tryz.prog Tryz.f4 Rows.layeringCheckReasonRow.domain false) (Rows.layeringCheckReasonSpec.post enc Tryz.prog Tryz.f4 false true false false) := by
 refine returnsInHanded_of_change_sized (C := Tryz.checked) own started (by kernel_rfl) Tryz.func4
  (ChangeSpec.witness6 (enc := enc) (C := Tryz.checked) false ⟨#[], #[.agg #[.slice none 0 0, .slice none 0 0], .slice none 0 0, .slice none 0 0], []⟩ 8 (by kernel_rfl) (by kernel_rfl) (by kernel_rfl) (by kernel_rfl))
  (oO (E := env) (C := Tryz.checked) (ts := [.nm 3, .slice (.nm 13), .slice (.nm 14)]) (B := 4) vp wN uW qz rfl rfl (by kernel_rfl) (by kernel_rfl) (by decide) ?_ rfl rfl (fun ds h => ?_)
   (fv := fun k x => ay k x.1 x.2.1 x.2.2.1) (fun k => ay.good k) rfl my)
 ·exact of_decide_eq_true (by kernel_rfl)
 match ds, h with
 | [d1, d2, d3], _ => rfl
set_option maxHeartbeats 8000000 in
theorem checkReason_holds : Rows.LayeringCheckReasonSaid :=
 OpenClaim.holds_of_wide 4 Tryz.f4 rfl rfl rfl rfl rfl rfl rfl ⟨rfl, rfl, rfl, rfl, rfl⟩ rfl rfl rfl rfl rfl (by kernel_rfl) Tryz.func4 ky
  (of_decide_eq_true (by kernel_rfl)) (by unfold Func.isWrapper; first | (rw [if_pos (by decide +kernel)]; kernel_rfl) | (rw [if_neg (by decide +kernel)]; exact ⟨rfl, rfl⟩))
  (fun os started H enc _ => kG os started H enc)
end Go.Proofs.YtlmpeiepanajmaaGreat
end
