/- The row LayeringReason: its law returns true for every input, and the arguments read behind the call as before. -/
import Derived.SizedLaws
import Derived.Test.YtlmpeiepanajmaaGreatM7
set_option linter.all false
section
namespace Go.Proofs.YtlmpeiepanajmaaGreat
open Go.Ev Go.Ev.Pl
theorem own : ownKnob Tryz.prog.godebug = none := by kernel_rfl
theorem y0 : laidOutB Tryz.prog = true := by kernel_rfl
theorem yM : qd Tryz.prog env = true := by kernel_rfl
theorem td : kn env fun t => xG env [0,1,2,3,4,5,6,7,8,9,10,11,12,13,14,15] t = true := tp (by kernel_rfl)
theorem vL (x) (h : iT env (Go.Ev.prodT [.nm 3, .slice (.nm 13)]) x) : ∃ k, aK k x.1 x.2.1 = some (true, ()) :=
 ⟨40000, sn (szT (bi h).1) (B1 (bi (bi h).2).1) (by omega) Au⟩
set_option maxHeartbeats 8000000 in
theorem qn (os : Os) (started : os.Started) (H : Type) (enc : TypeId × Value → H) :
  ReturnsInHanded {} Tryz.checked os 3 .any (Rows.layeringReasonSpec.pre6 enc Tryz.prog Tryz.f3 Rows.layeringReasonRow.domain false) (Rows.layeringReasonSpec.post enc Tryz.prog Tryz.f3 false true false false) := by
 refine returnsInHanded_of_change_sized (C := Tryz.checked) own started (by kernel_rfl) Tryz.func3
  (ChangeSpec.witness6 (enc := enc) (C := Tryz.checked) false ⟨#[], #[.agg #[.slice none 0 0, .slice none 0 0], .slice none 0 0], []⟩ 8 (by kernel_rfl) (by kernel_rfl) (by kernel_rfl) (by kernel_rfl))
  (qu (E := env) (C := Tryz.checked) (ts := [.nm 3, .slice (.nm 13)]) (B := 4) y0 A3 yM td rfl rfl (by kernel_rfl) (by kernel_rfl) (by decide) ?_ rfl rfl (fun ds h => ?_)
   (fv := fun k x => aK k x.1 x.2.1) (fun k => aK.good k) rfl vL)
 ·exact of_decide_eq_true (by kernel_rfl)
 match ds, h with
 | [d1, d2], _ => rfl
set_option maxHeartbeats 8000000 in
theorem reason_holds : Rows.LayeringReasonSaid :=
 OpenClaim.holds_of_wide 3 Tryz.f3 rfl rfl rfl rfl rfl rfl rfl ⟨rfl, rfl, rfl, rfl, rfl⟩ rfl rfl rfl rfl rfl (by kernel_rfl) Tryz.func3 ql
  (of_decide_eq_true (by kernel_rfl)) (by unfold Func.isWrapper; first | (rw [if_pos (by decide +kernel)]; kernel_rfl) | (rw [if_neg (by decide +kernel)]; exact ⟨rfl, rfl⟩))
  (fun os started H enc _ => qn os started H enc)
end Go.Proofs.YtlmpeiepanajmaaGreat
end
