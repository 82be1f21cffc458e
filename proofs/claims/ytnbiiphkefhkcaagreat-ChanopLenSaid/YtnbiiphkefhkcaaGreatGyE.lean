import Derived.Test.YtnbiiphkefhkcaaGreatGyD
set_option linter.unusedVariables false
set_option linter.unusedSimpArgs false
set_option maxRecDepth 100000
namespace Gx
open Go Go.Proofs

/-! accesses, answers, the frames of the small machines -/
structure Acc where
  kind : Int
  addr : Int
  old : Int
  new : Int
  till : Int
deriving DecidableEq
abbrev accD (k a o n u : Int) : D := .agg [.v (i64 k), .v (i64 a), .v (u64 o), .v (u64 n), .v (i64 u)]
def Acc.d (a : Acc) : D := accD a.kind a.addr a.old a.new a.till
abbrev noAcc : Acc := ⟨0, 0, 0, 0, 0⟩
structure Ans where
  val : Int
  ok : Bool
  late : Bool
  list : List Int
abbrev ansD (v : Int) (ok late : Bool) (l : List Int) : D := .agg [.v (u64 v), .v (.bool ok), .v (.bool late), .v (rowI l)]
def Ans.d (a : Ans) : D := ansD a.val a.ok a.late a.list
structure Sf where
  code : Int
  pc : Int
  ws : List Int
  ls : List Int
deriving DecidableEq
def Sf.d (f : Sf) : D := frD f.code f.pc f.ws f.ls noUp
abbrev frDone (kind v : Int) : Sf := ⟨kind, -1, [v], []⟩

section
variable {ti : TypeId → Option TI} {rs : List ResultVar} {e : Ex} {s : St}
theorem leafF {c p : Int} {ws ls : List Int} {y : Sf} (h : resT ti s rs = some (.d (frD c p ws ls noUp))) (hx : Sf.mk c p ws ls = y) : Done ti rs 0 (.d y.d) [] .ret s := by
  subst hx; exact done_eq (.inr rfl) h rfl rfl
theorem leafA {k a o n u : Int} {y : Acc} (h : resT ti s rs = some (.d (accD k a o n u))) (hx : Acc.mk k a o n u = y) : Done ti rs 0 (.d y.d) [] .ret s := by
  subst hx; exact done_eq (.inr rfl) h rfl rfl
theorem leafI {n m : Int} (h : resT ti s rs = some (ri n)) (hx : n = m) : Done ti rs 0 (ri m) [] .ret s := by
  subst hx; exact done_eq (.inr rfl) h rfl rfl
theorem leafU {n m : Int} (h : resT ti s rs = some (ru n)) (hx : n = m) : Done ti rs 0 (ru m) [] .ret s := by
  subst hx; exact done_eq (.inr rfl) h rfl rfl
theorem leafB {n m : Bool} (h : resT ti s rs = some (rb n)) (hx : n = m) : Done ti rs 0 (rb m) [] .ret s := by
  subst hx; exact done_eq (.inr rfl) h rfl rfl
end

/-! ring -/
def ringSlot (ls : List Int) (seq : Int) : Int := wI (ls.getD 2 0 + wI (2 * seqSlot seq (ls.getD 3 0)))
def ringCount (t h : Int) : Int := (wU (seqSeq t - h)).tmod 9223372036854775808
def ringCap (ls : List Int) : Int := wU (ls.getD 4 0)
theorem sp_ringLoad (a : Int) : FSpec Tryz.prog 262 0 [] [di a] (.d (accD 1 a 0 0 0)) [] := by
  refine (fspec_intro pk (fn := Tryz.f262) (fun _ _ => rfl) Tryz.func262 rfl (by decide) (cwp_ev pk ?_))
  exact w_done (done_eq (.inr rfl) rfl rfl rfl)
theorem sp_ringTail (code pc : Int) (ws ls : List Int) (up : V) : FSpec Tryz.prog 263 0 [] [frD code pc ws ls up] (ri (ls.getD 0 0)) [] := by
  refine (fspec_intro pk (fn := Tryz.f263) (fun _ _ => rfl) Tryz.func263 rfl (by decide) (cwp_ev pk ?_))
  refine w_call (sp_Int _ _ _ _ _ _ (by decide)) rfl rfl rfl ?_
  exact w_done (leafI rfl rfl)
theorem sp_ringHead (code pc : Int) (ws ls : List Int) (up : V) : FSpec Tryz.prog 264 0 [] [frD code pc ws ls up] (ri (ls.getD 1 0)) [] := by
  refine (fspec_intro pk (fn := Tryz.f264) (fun _ _ => rfl) Tryz.func264 rfl (by decide) (cwp_ev pk ?_))
  refine w_call (sp_Int _ _ _ _ _ _ (by decide)) rfl rfl rfl ?_
  exact w_done (leafI rfl rfl)
theorem sp_ringSize (code pc : Int) (ws ls : List Int) (up : V) : FSpec Tryz.prog 270 0 [] [frD code pc ws ls up] (ri (ls.getD 3 0)) [] := by
  refine (fspec_intro pk (fn := Tryz.f270) (fun _ _ => rfl) Tryz.func270 rfl (by decide) (cwp_ev pk ?_))
  refine w_call (sp_Int _ _ _ _ _ _ (by decide)) rfl rfl rfl ?_
  exact w_done (leafI rfl rfl)
theorem sp_ringCap (code pc : Int) (ws ls : List Int) (up : V) : FSpec Tryz.prog 267 0 [] [frD code pc ws ls up] (ru (ringCap ls)) [] := by
  refine (fspec_intro pk (fn := Tryz.f267) (fun _ _ => rfl) Tryz.func267 rfl (by decide) (cwp_ev pk ?_))
  refine w_call (sp_Int _ _ _ _ _ _ (by decide)) rfl rfl rfl ?_
  exact w_done (leafU rfl rfl)
theorem sp_ringSlot (code pc seq : Int) (ws ls : List Int) (up : V) (h : ls.getD 3 0 < 9223372036854775808) : FSpec Tryz.prog 265 0 [] [frD code pc ws ls up, du seq] (ri (ringSlot ls seq)) [] := by
  refine (fspec_intro pk (fn := Tryz.f265) (fun _ _ => rfl) Tryz.func265 rfl (by decide) (cwp_ev pk ?_))
  refine w_call (sp_Int _ _ _ _ _ _ (by decide)) rfl rfl rfl ?_
  refine w_call (sp_ringSize _ _ _ _ _) rfl rfl rfl ?_
  refine w_call (sp_seqSlot _ _ h) rfl rfl rfl ?_
  refine w_chk ⟨by kernel_rfl, by kernel_rfl⟩ ?_
  exact w_done (leafI rfl rfl)
theorem sp_ringCount (t h : Int) : FSpec Tryz.prog 266 0 [] [du t, du h] (ru (ringCount t h)) [] := by
  refine (fspec_intro pk (fn := Tryz.f266) (fun _ _ => rfl) Tryz.func266 rfl (by decide) (cwp_ev pk ?_))
  refine w_call (sp_seqSeq _) rfl rfl rfl ?_
  refine w_chk (by decide) ?_
  exact w_done (leafU rfl rfl)

/-! lock -/
def lockNext (f : Sf) : Acc := if f.pc = 0 then ⟨3, f.ls.getD 0 0, 0, 1, 0⟩ else if f.pc = 1 then ⟨2, f.ls.getD 0 0, 0, 0, 0⟩ else noAcc
def lockResume (f : Sf) (a : Ans) : Sf := if f.pc = -1 ∨ f.pc = 0 ∧ a.ok = false then f else frDone 1 0
theorem sp_lockNext (code pc : Int) (ws ls : List Int) : FSpec Tryz.prog 184 0 [] [frD code pc ws ls noUp] (.d (lockNext ⟨code, pc, ws, ls⟩).d) [] := by
  refine (fspec_intro pk (fn := Tryz.f184) (fun _ _ => rfl) Tryz.func184 rfl (by decide) (cwp_ev pk ?_))
  repeat' (try conv => arg 2; whnf) <;> first
    | refine w_brT ?_
    | refine w_brF ?_
    | refine w_br (fun h => ?_) (fun h => ?_)
    | refine w_call (sp_Int _ _ _ _ _ _ (by decide)) rfl rfl rfl ?_
  all_goals exact w_done (leafA rfl (by simp_all [lockNext]))
theorem sp_lockResume (code pc : Int) (ws ls : List Int) (v : Int) (ok late : Bool) (l : List Int) : FSpec Tryz.prog 185 0 [] [frD code pc ws ls noUp, ansD v ok late l] (.d (lockResume ⟨code, pc, ws, ls⟩ ⟨v, ok, late, l⟩).d) [] := by
  refine (fspec_intro pk (fn := Tryz.f185) (fun _ _ => rfl) Tryz.func185 rfl (by decide) (cwp_ev pk ?_))
  repeat' (try conv => arg 2; whnf) <;> first
    | refine w_brT ?_
    | refine w_brF ?_
    | refine w_br (fun h => ?_) (fun h => ?_)
    | refine w_run pk ?_
    | refine w_call (sp_Done _ _) rfl rfl rfl ?_
    | refine w_chk ⟨by kernel_rfl, by kernel_rfl⟩ ?_
  all_goals exact w_done (leafF rfl (by simp_all [lockResume]))
end Gx
