/- The row LayeringCheck: its law returns true for every input, and the arguments read behind the call as before. -/
import Derived.SizedLaws
import Derived.Test.YtlmpeiepanajmaaGreatM6
set_option linter.all false
section
namespace Go.Proofs.YtlmpeiepanajmaaGreat
open Go.Ev Go.Ev.Pl
theorem own : ownKnob Tryz.prog.godebug = none := by kernel_rfl
theorem vf : laidOutB Tryz.prog = true := by kernel_rfl
theorem vN : ow Tryz.prog env = true := by kernel_rfl
theorem rq : jM env fun t => uT env [0,1,2,3,4,5,6,7,8,9,10,11,12,13,14,15] t = true := qw (by kernel_rfl)
theorem tS (x) (h : iq env (Go.Ev.prodT [.nm 3, .slice (.nm 13), .nm 15]) x) : ∃ k, aG k x.1 x.2.1 x.2.2.1 = some (true, ()) :=
 ⟨40000, sJ (szT (aC h).1) (xR (aC (aC h).2).1) (yl (aC (aC (aC h).2).2).1) (by omega) wX⟩
set_option maxHeartbeats 8000000 in
theorem oY (os : Os) (started : os.Started) (H : Type) (enc : TypeId × Value → H) :
  ReturnsInHanded {} Tryz.checked os 6 .any (Rows.layeringCheckSpec.pre6 enc Tryz.prog Tryz.f6 Rows.layeringCheckRow.domain false) (Rows.layeringCheckSpec.post enc Tryz.prog Tryz.f6 false true false false) := by
 refine returnsInHanded_of_change_sized (C := Tryz.checked) own started (by kernel_rfl) Tryz.func6
  (ChangeSpec.witness6 (enc := enc) (C := Tryz.checked) false ⟨#[], #[.agg #[.slice none 0 0, .slice none 0 0], .slice none 0 0, .agg #[.slice none 0 0, .slice none 0 0, .slice none 0 0]], []⟩ 8 (by kernel_rfl) (by kernel_rfl) (by kernel_rfl) (by kernel_rfl))
  (oy (E := env) (C := Tryz.checked) (ts := [.nm 3, .slice (.nm 13), .nm 15]) (B := 4) vf wP vN rq rfl rfl (by kernel_rfl) (by kernel_rfl) (by decide) ?_ rfl rfl (fun ds h => ?_)
   (fv := fun k x => aG k x.1 x.2.1 x.2.2.1) (fun k => aG.good k) rfl tS)
 ·exact of_decide_eq_true (by kernel_rfl)
 match ds, h with
 | [d1, d2, d3], _ => rfl
set_option maxHeartbeats 8000000 in
theorem check_holds : Rows.LayeringCheckSaid :=
 OpenClaim.holds_of_wide 6 Tryz.f6 rfl rfl rfl rfl rfl rfl rfl ⟨rfl, rfl, rfl, rfl, rfl⟩ rfl rfl rfl rfl rfl (by kernel_rfl) Tryz.func6 pG
  (of_decide_eq_true (by kernel_rfl)) (by unfold Func.isWrapper; first | (rw [if_pos (by decide +kernel)]; kernel_rfl) | (rw [if_neg (by decide +kernel)]; exact ⟨rfl, rfl⟩))
  (fun os started H enc _ => oY os started H enc)
end Go.Proofs.YtlmpeiepanajmaaGreat
end
