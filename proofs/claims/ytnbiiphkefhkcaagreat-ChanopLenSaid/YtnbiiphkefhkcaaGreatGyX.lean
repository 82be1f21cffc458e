import Derived.Test.YtnbiiphkefhkcaaGreatGyW
set_option linter.unusedVariables false
set_option linter.unusedSimpArgs false
set_option maxRecDepth 100000
set_option maxHeartbeats 2000000
namespace Gx
open Go Go.Proofs
attribute [local irreducible] WpT

/-! the memory of one channel of capacity 1 and two threads -/
theorem wf1 : WfC [1] := ⟨by decide, fun c h => by simp at h; subst h; decide⟩
abbrev cf1 : D := cfD [1] (rowU [0]) 2
theorem sp_Check1 : FSpec Tryz.prog 86 0 [] [cf1] (ri 0) [] := by
  refine (fspec_intro pk (fn := Tryz.f86) (fun _ _ => rfl) Tryz.func86 rfl (by decide) (cwp_ev pk ?_))
  repeat' (try conv => arg 2; whnf) <;> first
    | refine w_brT ?_
    | refine w_brF ?_
    | refine w_chk (by decide) ?_
    | refine w_rdv (takeN_one rfl) ?_
    | refine w_loop 2 (lp_step pk ?_)
    | refine w_done (lp_step pk ?_)
    | exact w_done (leafI rfl rfl)
    | (refine w_done ?_; show WpT _ _ _)
def W0 : List Int := [0, 0, 0, 0, 0, 0, 0, 1, 0, 0, 0, 0, 0, 0, 0, 0, 0, 0, 0, 0, 0, 0, 0, 0, 0, 0, 0, 0, 0, 0, 0]
abbrev L0 : V := .row [.row [] 0, .row [] 0] 2
theorem sp_New1 : FSpec Tryz.prog 33 0 [] [cf1] (.tup [memD W0 L0 0, di 0]) [] := by
  refine (fspec_intro pk (fn := Tryz.f33) (fun _ _ => rfl) Tryz.func33 rfl (by decide) (cwp_ev pk ?_))
  refine w_call sp_Check1 rfl rfl rfl ?_
  refine w_brF ?_
  refine w_call (sp_r4Words wf1 _ _) rfl rfl rfl ?_
  repeat' (try conv => arg 2; whnf) <;> first
    | refine w_brT ?_
    | refine w_brF ?_
    | refine w_chk ⟨by kernel_rfl, by kernel_rfl⟩ ?_
    | refine w_chk (by decide) ?_
    | refine w_rdv (takeN_one rfl) ?_
    | refine w_loop 3 (lp_step pk ?_)
    | refine w_done (lp_step pk ?_)
    | refine w_call (sp_r4Tail wf1 _ _ 0 (by decide)) rfl rfl rfl ?_
    | refine w_call (sp_r4Head wf1 _ _ 0 (by decide)) rfl rfl rfl ?_
    | refine w_call (sp_r4Size wf1 _ _ 0 (by decide) (by decide)) rfl rfl rfl ?_
    | refine w_call (sp_r1Pack _ false) rfl rfl rfl ?_
    | refine w_call (sp_r1Next _ _) rfl rfl rfl ?_
    | refine w_call (sp_r4SlotSeq wf1 _ _ 0 _ (by decide) (by decide)) rfl rfl rfl ?_
    | (refine w_done ?_; show WpT _ _ _)
  refine w_done ?_
  exact done0 (.inr rfl) rfl (frT_tup (frDs_agg (frLs_cons (fr_mc (by kernel_rfl)) (frLs_cons (fr_mc (by kernel_rfl)) (frLs_cons (fr_v rfl) frLs_nil))) (frDs_s (fr_v rfl) frDs_nil)))
/-! the two operations that are tried there -/
def f0 : MS := startM [1] 2 0 1 0 0 5 0
def f1 : MS := startM [1] 2 1 2 0 0 0 0
def W1 : List Int := (aloneM 21 0 W0 f0).1
theorem ok0 : okM [1] 21 W0 f0 = true := by kernel_rfl
theorem al0 : (aloneM 21 0 W0 f0).2 = (⟨1, -1, 0, false, 0⟩, 7) := by kernel_rfl
theorem ok1 : okM [1] 21 W1 f1 = true := by kernel_rfl
theorem al1 : (aloneM 21 0 W1 f1).2 = (⟨2, -1, 5, true, 0⟩, 7) := by kernel_rfl
end Gx
