import Derived.Test.YtnbiiphkefhkcaaGreatGyX
set_option linter.unusedVariables false
set_option linter.unusedSimpArgs false
set_option maxRecDepth 100000
set_option maxHeartbeats 2000000
namespace Gx
open Go Go.Proofs
attribute [local irreducible] WpT

theorem sp_alone0 : FSpec Tryz.prog 34 0 [] [memD W0 L0 0, f0.fd, di 20] (.tup [memD W1 L0 0, rsD 1 (-1) 0 false 0, di 7]) [] := by
  have h := sp_alone wf1 L0 0 20 (by decide) W0 f0 ok0
  have e1 : (aloneM (20 + 1) 0 W0 f0).2.1.d = rsD 1 (-1) 0 false 0 := by rw [al0]; rfl
  have e2 : (aloneM (20 + 1) 0 W0 f0).2.2 = 7 := by rw [al0]
  rw [e1, e2] at h
  exact h
theorem sp_alone1 : FSpec Tryz.prog 34 0 [] [memD W1 L0 0, f1.fd, di 20] (.tup [memD (aloneM 21 0 W1 f1).1 L0 0, rsD 2 (-1) 5 true 0, di 7]) [] := by
  have h := sp_alone wf1 L0 0 20 (by decide) W1 f1 ok1
  have e1 : (aloneM (20 + 1) 0 W1 f1).2.1.d = rsD 2 (-1) 5 true 0 := by rw [al1]; rfl
  have e2 : (aloneM (20 + 1) 0 W1 f1).2.2 = 7 := by rw [al1]
  rw [e1, e2] at h
  exact h
theorem sp_Start0 : FSpec Tryz.prog 20 0 [] [cf1, di 0, opD 1 0 0 5 0 [] []] (.d f0.fd) [] := sp_CStart [1] (rowU [0]) 2 0 1 0 0 5 0 wf1 (by decide) (by decide) ⟨by decide, by decide⟩
theorem sp_Start1 : FSpec Tryz.prog 20 0 [] [cf1, di 1, opD 2 0 0 0 0 [] []] (.d f1.fd) [] := sp_CStart [1] (rowU [0]) 2 1 2 0 0 0 0 wf1 (by decide) (by decide) ⟨by decide, by decide⟩
attribute [local irreducible] f0 f1 W0 W1 aloneM
noncomputable abbrev bAwake : Code := Tryz.f15.body.getD .skip
theorem sp_awake : FSpec Tryz.prog 15 0 [] [] (rb true) [] := by
  refine (fspec_intro pk (fn := Tryz.f15) (fun _ _ => rfl) Tryz.func15 rfl (by decide) (cwp_evC pk ?_))
  refine w_runC pk ?_
  refine w_call sp_one rfl rfl rfl ?_
  refine w_call sp_New1 rfl rfl rfl ?_
  refine w_cutK pk (Code.restN 2 bAwake) kD ⟨[(1, .d (.sc (.ptr 88 0)))], [(88, some (.var (mmC W0 L0 0)))], 100, 56⟩ [1] [88] 100 (by kernel_rfl) (by kernel_rfl) (by kernel_rfl) (by kernel_rfl) (by kernel_rfl) ?_
  refine w_call sp_one rfl rfl rfl ?_
  refine w_call sp_Start0 rfl rfl rfl ?_
  refine w_call sp_alone0 rfl rfl rfl ?_
  refine w_chkK (true = true ∧ true = true) (by kernel_rfl) (by kernel_rfl) ⟨rfl, rfl⟩ ?_
  refine w_cutK pk (Code.restN 3 bAwake) kD ⟨[(1, .d (.sc (.ptr 88 0))), (3, .d (.sc (.ptr 136 0))), (4, ri 7)], [(88, some (.var (mmC W1 L0 0))), (136, some (.var (rsC ⟨1, -1, 0, false, 0⟩)))], 200, 56⟩ [1, 3, 4] [88, 136] 200 (by kernel_rfl) (by kernel_rfl) (by kernel_rfl) (by kernel_rfl) (by kernel_rfl) ?_
  refine w_call sp_one rfl rfl rfl ?_
  refine w_call sp_Start1 rfl rfl rfl ?_
  refine w_call sp_alone1 rfl rfl rfl ?_
  refine w_chkK (true = true ∧ true = true) (by kernel_rfl) (by kernel_rfl) ⟨rfl, rfl⟩ ?_
  refine w_cutK pk (Code.restN 4 bAwake) kD ⟨[(3, .d (.sc (.ptr 136 0))), (4, ri 7), (6, .d (.sc (.ptr 240 0))), (7, ri 7)], [(136, some (.var (rsC ⟨1, -1, 0, false, 0⟩))), (240, some (.var (rsC ⟨2, -1, 5, true, 0⟩)))], 300, 56⟩ [3, 4, 6, 7] [136, 240] 300 (by kernel_rfl) (by kernel_rfl) (by kernel_rfl) (by kernel_rfl) (by kernel_rfl) ?_
  repeat' (try conv => arg 2; whnf) <;> first
    | refine w_brT ?_
    | refine w_runC pk ?_
    | exact w_done (leafB rfl rfl)
end Gx
