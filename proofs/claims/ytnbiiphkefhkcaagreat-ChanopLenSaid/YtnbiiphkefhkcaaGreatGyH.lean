import Derived.Test.YtnbiiphkefhkcaaGreatGyF
set_option linter.unusedVariables false
set_option linter.unusedSimpArgs false
set_option maxRecDepth 100000
set_option maxHeartbeats 1000000
namespace Gx
open Go Go.Proofs

/-! pop -/
def popNext (f : Sf) : Acc :=
  let h := f.ws.getD 0 0
  if f.pc = 1 ∨ f.pc = 3 then ⟨1, f.ls.getD 1 0, 0, 0, 0⟩
  else if f.pc = 2 then ⟨1, f.ls.getD 0 0, 0, 0, 0⟩
  else if f.pc = 4 then ⟨1, ringSlot f.ls h, 0, 0, 0⟩
  else if f.pc = 5 then ⟨3, f.ls.getD 1 0, h, seqNext h 1, 0⟩
  else if f.pc = 6 then ⟨5, wI (ringSlot f.ls h + 1), 0, 0, 0⟩
  else if f.pc = 7 then ⟨2, ringSlot f.ls h, 0, seqNext h (f.ls.getD 3 0), 0⟩
  else noAcc
def popResume (f : Sf) (a : Ans) : Sf :=
  let h := f.ws.getD 0 0
  if f.pc = 1 then ⟨f.code, 2, withL f.ws 0 a.val, f.ls⟩
  else if f.pc = 2 then
    if ringCount a.val h = 0 then ⟨f.code, 3, withL f.ws 1 a.val, f.ls⟩ else if ringCount a.val h > ringCap f.ls then ⟨f.code, 1, withL f.ws 1 a.val, f.ls⟩ else ⟨f.code, 4, withL f.ws 1 a.val, f.ls⟩
  else if f.pc = 3 then if a.val = h then (if seqClosed (f.ws.getD 1 0) = true then frDone 5 0 else frDone 3 0) else ⟨f.code, 2, withL f.ws 0 a.val, f.ls⟩
  else if f.pc = 4 then if a.val = seqNext h 1 then { f with pc := 5 } else { f with pc := 1 }
  else if f.pc = 5 then if a.ok = true then { f with pc := 6 } else { f with pc := 1 }
  else if f.pc = 6 then ⟨f.code, 7, withL f.ws 2 a.val, f.ls⟩
  else if f.pc = 7 then frDone 6 (f.ws.getD 2 0)
  else f
theorem sp_popNext (code pc : Int) (ws ls : List Int) (hs : ls.getD 3 0 < 9223372036854775808) : FSpec Tryz.prog 190 0 [] [frD code pc ws ls noUp] (.d (popNext ⟨code, pc, ws, ls⟩).d) [] := by
  refine (fspec_intro pk (fn := Tryz.f190) (fun _ _ => rfl) Tryz.func190 rfl (by decide) (cwp_ev pk ?_))
  refine w_call (sp_Word _ _ _ _ _ _ (by decide)) rfl rfl rfl ?_
  repeat' (try conv => arg 2; whnf) <;> first
    | refine w_brT ?_
    | refine w_brF ?_
    | refine w_br (fun h => ?_) (fun h => ?_)
    | refine w_call (sp_ringTail _ _ _ _ _) rfl rfl rfl ?_
    | refine w_call (sp_ringHead _ _ _ _ _) rfl rfl rfl ?_
    | refine w_call (sp_ringSize _ _ _ _ _) rfl rfl rfl ?_
    | refine w_call (sp_ringSlot _ _ _ _ _ _ hs) rfl rfl rfl ?_
    | refine w_call (sp_ringLoad _) rfl rfl rfl ?_
    | refine w_call (sp_seqNext _ _) rfl rfl rfl ?_
    | refine w_chk ⟨by kernel_rfl, by kernel_rfl⟩ ?_
  all_goals exact w_done (leafA rfl (by simp_all [popNext]))
theorem sp_popResume (code pc : Int) (ws ls : List Int) (v : Int) (ok late : Bool) (l : List Int) (hw : ws.length < 1000) : FSpec Tryz.prog 191 0 [] [frD code pc ws ls noUp, ansD v ok late l] (.d (popResume ⟨code, pc, ws, ls⟩ ⟨v, ok, late, l⟩).d) [] := by
  refine (fspec_intro pk (fn := Tryz.f191) (fun _ _ => rfl) Tryz.func191 rfl (by decide) (cwp_ev pk ?_))
  refine w_call (sp_Word _ _ _ _ _ _ (by decide)) rfl rfl rfl ?_
  repeat' (try conv => arg 2; whnf) <;> first
    | refine w_brT ?_
    | refine w_brF ?_
    | refine w_br (fun h => ?_) (fun h => ?_)
    | refine w_run pk ?_
    | refine w_call (sp_ringCount _ _) rfl rfl rfl ?_
    | refine w_call (sp_ringCap _ _ _ _ _) rfl rfl rfl ?_
    | refine w_call (sp_seqNext _ _) rfl rfl rfl ?_
    | refine w_call (sp_seqClosed _) rfl rfl rfl ?_
    | refine w_call (sp_With _ _ _ _ _ _ _ (by decide) (by decide) hw) rfl rfl rfl ?_
    | refine w_call (sp_At _ _ _ _ _ _) rfl rfl rfl ?_
    | refine w_call (sp_Done _ _) rfl rfl rfl ?_
    | refine w_call (sp_Word _ _ _ _ _ _ (by decide)) rfl rfl rfl ?_
    | refine w_chk ⟨by kernel_rfl, by kernel_rfl⟩ ?_
  all_goals exact w_done (leafF rfl (by simp_all [popResume]))

/-! claim -/
def claimNext (f : Sf) : Acc :=
  if f.pc = 1 then ⟨3, f.ls.getD 0 0, 1, 2, 0⟩
  else if f.pc = 3 then ⟨3, f.ls.getD 0 0, 1, 4, 0⟩
  else if f.pc = 2 then ⟨2, f.ls.getD 0 0, 0, 1, 0⟩
  else if f.pc = 4 then ⟨2, f.ls.getD 0 0, 0, 0, 0⟩
  else if f.pc = 5 then ⟨6, f.ls.getD 3 0, 0, f.ws.getD 0 0, 0⟩
  else if f.pc = 6 then ⟨6, f.ls.getD 2 0, 0, f.ws.getD 1 0, 0⟩
  else if f.pc = 7 then ⟨6, f.ls.getD 4 0, 0, f.ws.getD 2 0, 0⟩
  else if f.pc = 8 then ⟨2, f.ls.getD 0 0, 0, 3, 0⟩
  else if f.pc = 9 then ⟨2, f.ls.getD 1 0, 0, 1, 0⟩
  else noAcc
def claimResume (f : Sf) (a : Ans) : Sf :=
  if f.pc = 1 ∨ f.pc = 3 then
    if a.ok = true then frDone 7 0 else if f.pc = 1 ∧ a.val = 2 then f else frDone 8 0
  else if f.pc = 2 ∨ f.pc = 4 ∨ f.pc = 9 then frDone 1 0
  else if f.pc = 5 ∨ f.pc = 6 ∨ f.pc = 7 ∨ f.pc = 8 then { f with pc := f.pc + 1 }
  else f
theorem sp_claimAccess (code pc : Int) (ws ls : List Int) (kind w old new : Int) (hw : 0 ≤ w) : FSpec Tryz.prog 271 0 [] [frD code pc ws ls noUp, di kind, di w, du old, du new] (.d (accD kind (ls.getD w.toNat 0) old new 0)) [] := by
  refine (fspec_intro pk (fn := Tryz.f271) (fun _ _ => rfl) Tryz.func271 rfl (by decide) (cwp_ev pk ?_))
  refine w_call (sp_Int _ _ _ _ _ _ hw) rfl rfl rfl ?_
  exact w_done (done_eq (.inr rfl) rfl rfl rfl)
theorem sp_claimWord (code pc : Int) (ws ls : List Int) (i : Int) (hw : 0 ≤ i) : FSpec Tryz.prog 272 0 [] [frD code pc ws ls noUp, di i] (ru (ws.getD i.toNat 0)) [] := by
  refine (fspec_intro pk (fn := Tryz.f272) (fun _ _ => rfl) Tryz.func272 rfl (by decide) (cwp_ev pk ?_))
  refine w_call (sp_Word _ _ _ _ _ _ hw) rfl rfl rfl ?_
  exact w_done (leafU rfl rfl)
theorem sp_claimNext (code pc : Int) (ws ls : List Int) : FSpec Tryz.prog 199 0 [] [frD code pc ws ls noUp] (.d (claimNext ⟨code, pc, ws, ls⟩).d) [] := by
  refine (fspec_intro pk (fn := Tryz.f199) (fun _ _ => rfl) Tryz.func199 rfl (by decide) (cwp_ev pk ?_))
  repeat' (try conv => arg 2; whnf) <;> first
    | refine w_brT ?_
    | refine w_brF ?_
    | refine w_br (fun h => ?_) (fun h => ?_)
    | refine w_call (sp_claimAccess _ _ _ _ _ _ _ _ (by decide)) rfl rfl rfl ?_
    | refine w_call (sp_claimWord _ _ _ _ _ (by decide)) rfl rfl rfl ?_
    | refine w_chk ⟨by kernel_rfl, by kernel_rfl⟩ ?_
  all_goals exact w_done (leafA rfl (by simp_all [claimNext]))
theorem sp_claimResume (code pc : Int) (ws ls : List Int) (v : Int) (ok late : Bool) (l : List Int) : FSpec Tryz.prog 200 0 [] [frD code pc ws ls noUp, ansD v ok late l] (.d (claimResume ⟨code, pc, ws, ls⟩ ⟨v, ok, late, l⟩).d) [] := by
  refine (fspec_intro pk (fn := Tryz.f200) (fun _ _ => rfl) Tryz.func200 rfl (by decide) (cwp_ev pk ?_))
  repeat' (try conv => arg 2; whnf) <;> first
    | refine w_brT ?_
    | refine w_brF ?_
    | refine w_br (fun h => ?_) (fun h => ?_)
    | refine w_call (sp_At _ _ _ _ _ _) rfl rfl rfl ?_
    | refine w_call (sp_Done _ _) rfl rfl rfl ?_
    | refine w_chk ⟨by kernel_rfl, by kernel_rfl⟩ ?_
  all_goals exact w_done (leafF rfl (by simp_all [claimResume] <;> decide))
end Gx
