import Derived.Test.YtnbiiphkefhkcaaGreatGyE
set_option linter.unusedVariables false
set_option linter.unusedSimpArgs false
set_option maxRecDepth 100000
namespace Gx
open Go Go.Proofs

section
variable {ti : TypeId → Option TI} {rs : List ResultVar} {s : St}
theorem leafE {k v : Int} {b : Bool} (h : resT ti s rs = some (.tup [outD k v, db b])) : Done ti rs 0 (.tup [outD k v, db b]) [] .ret s := done_eq (.inr rfl) h rfl rfl
end
theorem sp_lockEnd (code pc : Int) (ws ls : List Int) : FSpec Tryz.prog 186 0 [] [frD code pc ws ls noUp] (.tup [outD (endK pc code) (endV pc ws), db (endB pc)]) [] := by
  refine (fspec_intro pk (fn := Tryz.f186) (fun _ _ => rfl) Tryz.func186 rfl (by decide) (cwp_ev pk ?_))
  exact w_call (sp_End _ _ _ _ _) rfl rfl rfl (w_done (leafE rfl))
theorem sp_pushEnd (code pc : Int) (ws ls : List Int) : FSpec Tryz.prog 189 0 [] [frD code pc ws ls noUp] (.tup [outD (endK pc code) (endV pc ws), db (endB pc)]) [] := by
  refine (fspec_intro pk (fn := Tryz.f189) (fun _ _ => rfl) Tryz.func189 rfl (by decide) (cwp_ev pk ?_))
  exact w_call (sp_End _ _ _ _ _) rfl rfl rfl (w_done (leafE rfl))
theorem sp_popEnd (code pc : Int) (ws ls : List Int) : FSpec Tryz.prog 192 0 [] [frD code pc ws ls noUp] (.tup [outD (endK pc code) (endV pc ws), db (endB pc)]) [] := by
  refine (fspec_intro pk (fn := Tryz.f192) (fun _ _ => rfl) Tryz.func192 rfl (by decide) (cwp_ev pk ?_))
  exact w_call (sp_End _ _ _ _ _) rfl rfl rfl (w_done (leafE rfl))
theorem sp_shutEnd (code pc : Int) (ws ls : List Int) : FSpec Tryz.prog 195 0 [] [frD code pc ws ls noUp] (.tup [outD (endK pc code) (endV pc ws), db (endB pc)]) [] := by
  refine (fspec_intro pk (fn := Tryz.f195) (fun _ _ => rfl) Tryz.func195 rfl (by decide) (cwp_ev pk ?_))
  exact w_call (sp_End _ _ _ _ _) rfl rfl rfl (w_done (leafE rfl))
theorem sp_countEnd (code pc : Int) (ws ls : List Int) : FSpec Tryz.prog 198 0 [] [frD code pc ws ls noUp] (.tup [outD (endK pc code) (endV pc ws), db (endB pc)]) [] := by
  refine (fspec_intro pk (fn := Tryz.f198) (fun _ _ => rfl) Tryz.func198 rfl (by decide) (cwp_ev pk ?_))
  exact w_call (sp_End _ _ _ _ _) rfl rfl rfl (w_done (leafE rfl))
theorem sp_claimEnd (code pc : Int) (ws ls : List Int) : FSpec Tryz.prog 201 0 [] [frD code pc ws ls noUp] (.tup [outD (endK pc code) (endV pc ws), db (endB pc)]) [] := by
  refine (fspec_intro pk (fn := Tryz.f201) (fun _ _ => rfl) Tryz.func201 rfl (by decide) (cwp_ev pk ?_))
  exact w_call (sp_End _ _ _ _ _) rfl rfl rfl (w_done (leafE rfl))

/-! shut -/
def w0 (ws : List Int) : Int := ws.getD 0 0
def shutNext (f : Sf) : Acc := if f.pc = 1 then ⟨1, f.ls.getD 0 0, 0, 0, 0⟩ else if f.pc = 2 then ⟨3, f.ls.getD 0 0, f.ws.getD 0 0, seqPack (seqSeq (f.ws.getD 0 0)) true, 0⟩ else noAcc
def shutResume (f : Sf) (a : Ans) : Sf :=
  if f.pc = 1 ∧ seqClosed a.val = true then frDone 4 0
  else if f.pc = 1 then ⟨f.code, 2, withL f.ws 0 a.val, f.ls⟩
  else if f.pc = 2 ∧ a.ok = true then frDone 1 0
  else if f.pc = 2 then ⟨f.code, 1, f.ws, f.ls⟩
  else f
theorem sp_shutNext (code pc : Int) (ws ls : List Int) : FSpec Tryz.prog 193 0 [] [frD code pc ws ls noUp] (.d (shutNext ⟨code, pc, ws, ls⟩).d) [] := by
  refine (fspec_intro pk (fn := Tryz.f193) (fun _ _ => rfl) Tryz.func193 rfl (by decide) (cwp_ev pk ?_))
  refine w_call (sp_Word _ _ _ _ _ _ (by decide)) rfl rfl rfl ?_
  repeat' (try conv => arg 2; whnf) <;> first
    | refine w_brT ?_
    | refine w_brF ?_
    | refine w_br (fun h => ?_) (fun h => ?_)
    | refine w_call (sp_ringTail _ _ _ _ _) rfl rfl rfl ?_
    | refine w_call (sp_ringLoad _) rfl rfl rfl ?_
    | refine w_call (sp_seqSeq _) rfl rfl rfl ?_
    | refine w_call (sp_seqPack _ _) rfl rfl rfl ?_
    | refine w_chk ⟨by kernel_rfl, by kernel_rfl⟩ ?_
  all_goals exact w_done (leafA rfl (by simp_all [shutNext]))
theorem sp_shutResume (code pc : Int) (ws ls : List Int) (v : Int) (ok late : Bool) (l : List Int) (hw : ws.length < 1000) : FSpec Tryz.prog 194 0 [] [frD code pc ws ls noUp, ansD v ok late l] (.d (shutResume ⟨code, pc, ws, ls⟩ ⟨v, ok, late, l⟩).d) [] := by
  refine (fspec_intro pk (fn := Tryz.f194) (fun _ _ => rfl) Tryz.func194 rfl (by decide) (cwp_ev pk ?_))
  repeat' (try conv => arg 2; whnf) <;> first
    | refine w_brT ?_
    | refine w_brF ?_
    | refine w_br (fun h => ?_) (fun h => ?_)
    | refine w_call (sp_seqClosed _) rfl rfl rfl ?_
    | refine w_call (sp_With _ _ _ _ _ _ _ (by decide) (by decide) hw) rfl rfl rfl ?_
    | refine w_call (sp_At _ _ _ _ _ _) rfl rfl rfl ?_
    | refine w_call (sp_Done _ _) rfl rfl rfl ?_
    | refine w_chk ⟨by kernel_rfl, by kernel_rfl⟩ ?_
  all_goals exact w_done (leafF rfl (by simp_all [shutResume]))

/-! count -/
def countNext (f : Sf) : Acc := if f.pc = 1 ∨ f.pc = 3 then ⟨1, f.ls.getD 0 0, 0, 0, 0⟩ else if f.pc = 2 then ⟨1, f.ls.getD 1 0, 0, 0, 0⟩ else noAcc
def countResume (f : Sf) (a : Ans) : Sf :=
  if f.pc = 2 then ⟨f.code, 3, withL f.ws 1 a.val, f.ls⟩
  else if f.pc = 3 ∧ a.val = f.ws.getD 0 0 then frDone 9 (ringCount (f.ws.getD 0 0) (f.ws.getD 1 0))
  else if f.pc = 3 ∨ f.pc = 1 then ⟨f.code, 2, withL f.ws 0 a.val, f.ls⟩
  else f
theorem sp_countNext (code pc : Int) (ws ls : List Int) : FSpec Tryz.prog 196 0 [] [frD code pc ws ls noUp] (.d (countNext ⟨code, pc, ws, ls⟩).d) [] := by
  refine (fspec_intro pk (fn := Tryz.f196) (fun _ _ => rfl) Tryz.func196 rfl (by decide) (cwp_ev pk ?_))
  repeat' (try conv => arg 2; whnf) <;> first
    | refine w_brT ?_
    | refine w_brF ?_
    | refine w_br (fun h => ?_) (fun h => ?_)
    | refine w_call (sp_ringTail _ _ _ _ _) rfl rfl rfl ?_
    | refine w_call (sp_ringHead _ _ _ _ _) rfl rfl rfl ?_
    | refine w_call (sp_ringLoad _) rfl rfl rfl ?_
    | refine w_chk ⟨by kernel_rfl, by kernel_rfl⟩ ?_
  all_goals exact w_done (leafA rfl (by simp_all [countNext]))
theorem sp_countResume (code pc : Int) (ws ls : List Int) (v : Int) (ok late : Bool) (l : List Int) (hw : ws.length < 1000) : FSpec Tryz.prog 197 0 [] [frD code pc ws ls noUp, ansD v ok late l] (.d (countResume ⟨code, pc, ws, ls⟩ ⟨v, ok, late, l⟩).d) [] := by
  refine (fspec_intro pk (fn := Tryz.f197) (fun _ _ => rfl) Tryz.func197 rfl (by decide) (cwp_ev pk ?_))
  repeat' (try conv => arg 2; whnf) <;> first
    | refine w_brT ?_
    | refine w_brF ?_
    | refine w_br (fun h => ?_) (fun h => ?_)
    | refine w_call (sp_Word _ _ _ _ _ _ (by decide)) rfl rfl rfl ?_
    | refine w_call (sp_ringCount _ _) rfl rfl rfl ?_
    | refine w_call (sp_With _ _ _ _ _ _ _ (by decide) (by decide) hw) rfl rfl rfl ?_
    | refine w_call (sp_At _ _ _ _ _ _) rfl rfl rfl ?_
    | refine w_call (sp_Done _ _) rfl rfl rfl ?_
    | refine w_chk ⟨by kernel_rfl, by kernel_rfl⟩ ?_
  all_goals exact w_done (leafF rfl (by simp_all [countResume]))
end Gx
