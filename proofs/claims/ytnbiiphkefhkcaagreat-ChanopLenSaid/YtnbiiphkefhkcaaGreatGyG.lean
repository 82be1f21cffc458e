import Derived.Test.YtnbiiphkefhkcaaGreatGyF
set_option linter.unusedVariables false
set_option linter.unusedSimpArgs false
set_option maxRecDepth 100000
set_option maxHeartbeats 1000000
namespace Gx
open Go Go.Proofs

/-! push -/
def pushNext (f : Sf) : Acc :=
  let t := f.ws.getD 0 0
  let seq := seqSeq t
  if f.pc = 1 ∨ f.pc = 3 then ⟨1, f.ls.getD 0 0, 0, 0, 0⟩
  else if f.pc = 2 then ⟨1, f.ls.getD 1 0, 0, 0, 0⟩
  else if f.pc = 4 then ⟨1, ringSlot f.ls seq, 0, 0, 0⟩
  else if f.pc = 5 then ⟨3, f.ls.getD 0 0, t, seqPack (seqNext seq 1) false, 0⟩
  else if f.pc = 6 then ⟨6, wI (ringSlot f.ls seq + 1), 0, f.ws.getD 1 0, 0⟩
  else if f.pc = 7 then ⟨2, ringSlot f.ls seq, 0, seqNext seq 1, 0⟩
  else noAcc
def pushKnown (f : Sf) (a : Ans) : Sf := if seqClosed a.val = true then frDone 4 0 else ⟨f.code, 2, withL f.ws 0 a.val, f.ls⟩
def pushResume (f : Sf) (a : Ans) : Sf :=
  let t := f.ws.getD 0 0
  if f.pc = 1 then pushKnown f a
  else if f.pc = 2 then
    if ringCount t a.val = ringCap f.ls then { f with pc := 3 } else if ringCount t a.val > ringCap f.ls then { f with pc := 1 } else { f with pc := 4 }
  else if f.pc = 3 then if a.val = t then frDone 2 0 else pushKnown f a
  else if f.pc = 4 then if a.val = seqSeq t then { f with pc := 5 } else { f with pc := 1 }
  else if f.pc = 5 then if a.ok = true then { f with pc := 6 } else { f with pc := 1 }
  else if f.pc = 6 then { f with pc := 7 }
  else if f.pc = 7 then frDone 1 0
  else f
theorem sp_pushNext (code pc : Int) (ws ls : List Int) (hs : ls.getD 3 0 < 9223372036854775808) : FSpec Tryz.prog 187 0 [] [frD code pc ws ls noUp] (.d (pushNext ⟨code, pc, ws, ls⟩).d) [] := by
  refine (fspec_intro pk (fn := Tryz.f187) (fun _ _ => rfl) Tryz.func187 rfl (by decide) (cwp_ev pk ?_))
  refine w_call (sp_Word _ _ _ _ _ _ (by decide)) rfl rfl rfl ?_
  refine w_call (sp_seqSeq _) rfl rfl rfl ?_
  repeat' (try conv => arg 2; whnf) <;> first
    | refine w_brT ?_
    | refine w_brF ?_
    | refine w_br (fun h => ?_) (fun h => ?_)
    | refine w_call (sp_ringTail _ _ _ _ _) rfl rfl rfl ?_
    | refine w_call (sp_ringHead _ _ _ _ _) rfl rfl rfl ?_
    | refine w_call (sp_ringSlot _ _ _ _ _ _ hs) rfl rfl rfl ?_
    | refine w_call (sp_ringLoad _) rfl rfl rfl ?_
    | refine w_call (sp_seqNext _ _) rfl rfl rfl ?_
    | refine w_call (sp_seqPack _ _) rfl rfl rfl ?_
    | refine w_call (sp_Word _ _ _ _ _ _ (by decide)) rfl rfl rfl ?_
    | refine w_chk ⟨by kernel_rfl, by kernel_rfl⟩ ?_
  all_goals exact w_done (leafA rfl (by simp_all [pushNext]))
theorem sp_pushResume (code pc : Int) (ws ls : List Int) (v : Int) (ok late : Bool) (l : List Int) (hw : ws.length < 1000) : FSpec Tryz.prog 188 0 [] [frD code pc ws ls noUp, ansD v ok late l] (.d (pushResume ⟨code, pc, ws, ls⟩ ⟨v, ok, late, l⟩).d) [] := by
  refine (fspec_intro pk (fn := Tryz.f188) (fun _ _ => rfl) Tryz.func188 rfl (by decide) (cwp_ev pk ?_))
  refine w_call (sp_Word _ _ _ _ _ _ (by decide)) rfl rfl rfl ?_
  repeat' (try conv => arg 2; whnf) <;> first
    | refine w_brT ?_
    | refine w_brF ?_
    | refine w_br (fun h => ?_) (fun h => ?_)
    | refine w_run pk ?_
    | refine w_call (sp_ringCount _ _) rfl rfl rfl ?_
    | refine w_call (sp_ringCap _ _ _ _ _) rfl rfl rfl ?_
    | refine w_call (sp_seqSeq _) rfl rfl rfl ?_
    | refine w_call (sp_seqClosed _) rfl rfl rfl ?_
    | refine w_call (sp_With _ _ _ _ _ _ _ (by decide) (by decide) hw) rfl rfl rfl ?_
    | refine w_call (sp_At _ _ _ _ _ _) rfl rfl rfl ?_
    | refine w_call (sp_Done _ _) rfl rfl rfl ?_
    | refine w_chk ⟨by kernel_rfl, by kernel_rfl⟩ ?_
  all_goals exact w_done (leafF rfl (by simp_all [pushResume, pushKnown]))
end Gx
