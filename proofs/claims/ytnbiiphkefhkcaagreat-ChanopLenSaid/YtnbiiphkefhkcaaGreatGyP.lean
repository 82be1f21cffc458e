import Derived.Test.YtnbiiphkefhkcaaGreatGyM
set_option linter.unusedVariables false
set_option linter.unusedSimpArgs false
set_option maxRecDepth 100000
set_option maxHeartbeats 1000000
namespace Gx
open Go Go.Proofs
attribute [local irreducible] WpT

/-! the small machine inside: what it wants, how it goes on -/
def subNext (k : Int) (f : Sf) : Acc := if k = 2 then lockNext f else if k = 3 then pushNext f else if k = 4 then popNext f else if k = 5 then shutNext f else if k = 6 then countNext f else claimNext f
def subRes (k : Int) (f : Sf) (a : Ans) : Sf := if k = 2 then lockResume f a else if k = 3 then pushResume f a else if k = 4 then popResume f a else if k = 5 then shutResume f a else if k = 6 then countResume f a else claimResume f a
def mNext (k : Int) : FuncId := if k = 2 then 184 else if k = 3 then 187 else if k = 4 then 190 else if k = 5 then 193 else if k = 6 then 196 else 199
def mRes (k : Int) : FuncId := if k = 2 then 185 else if k = 3 then 188 else if k = 4 then 191 else if k = 5 then 194 else if k = 6 then 197 else 200
def mEnd (k : Int) : FuncId := if k = 2 then 186 else if k = 3 then 189 else if k = 4 then 192 else if k = 5 then 195 else if k = 6 then 198 else 201
theorem leaf3 {ti : TypeId → Option TI} {rs : List ResultVar} {s : St} {a b c a' b' c' : FuncId} (h : resT ti s rs = some (.d (.agg [.v (.fn a), .v (.fn b), .v (.fn c)]))) (h1 : a = a') (h2 : b = b') (h3 : c = c') :
    Done ti rs 0 (.d (.agg [.v (.fn a'), .v (.fn b'), .v (.fn c')])) [] .ret s := by
  subst h1; subst h2; subst h3; exact done_eq (.inr rfl) h rfl rfl
theorem sp_machine (k : Int) : FSpec Tryz.prog 157 0 [] [di k] (.d (.agg [.v (.fn (mNext k)), .v (.fn (mRes k)), .v (.fn (mEnd k))])) [] := by
  refine (fspec_intro pk (fn := Tryz.f157) (fun _ _ => rfl) Tryz.func157 rfl (by decide) (cwp_ev pk ?_))
  repeat' (try conv => arg 2; whnf) <;> first
    | refine w_brT ?_
    | refine w_brF ?_
    | refine w_br (fun h => ?_) (fun h => ?_)
  all_goals exact w_done (leaf3 rfl (by simp_all [mNext]) (by simp_all [mRes]) (by simp_all [mEnd]))
def Sf.fit (f : Sf) : Prop := f.ls.getD 3 0 < 9223372036854775808 ∧ f.ws.length < 1000
theorem sp_mNext (k : Int) (f : Sf) (h : f.fit) : FSpec Tryz.prog (mNext k) 0 [] [f.d] (.d (subNext k f).d) [] := by
  obtain ⟨c, p, ws, ls⟩ := f
  unfold mNext subNext
  by_cases h2 : k = 2
  · rw [if_pos h2, if_pos h2]; exact sp_lockNext c p ws ls
  rw [if_neg h2, if_neg h2]
  by_cases h2 : k = 3
  · rw [if_pos h2, if_pos h2]; exact sp_pushNext c p ws ls h.1
  rw [if_neg h2, if_neg h2]
  by_cases h2 : k = 4
  · rw [if_pos h2, if_pos h2]; exact sp_popNext c p ws ls h.1
  rw [if_neg h2, if_neg h2]
  by_cases h2 : k = 5
  · rw [if_pos h2, if_pos h2]; exact sp_shutNext c p ws ls
  rw [if_neg h2, if_neg h2]
  by_cases h2 : k = 6
  · rw [if_pos h2, if_pos h2]; exact sp_countNext c p ws ls
  rw [if_neg h2, if_neg h2]
  exact sp_claimNext c p ws ls
theorem sp_mRes (k : Int) (f : Sf) (a : Ans) (h : f.fit) : FSpec Tryz.prog (mRes k) 0 [] [f.d, a.d] (.d (subRes k f a).d) [] := by
  obtain ⟨c, p, ws, ls⟩ := f
  obtain ⟨v, ok, late, l⟩ := a
  unfold mRes subRes
  by_cases h2 : k = 2
  · rw [if_pos h2, if_pos h2]; exact sp_lockResume c p ws ls v ok late l
  rw [if_neg h2, if_neg h2]
  by_cases h2 : k = 3
  · rw [if_pos h2, if_pos h2]; exact sp_pushResume c p ws ls v ok late l h.2
  rw [if_neg h2, if_neg h2]
  by_cases h2 : k = 4
  · rw [if_pos h2, if_pos h2]; exact sp_popResume c p ws ls v ok late l h.2
  rw [if_neg h2, if_neg h2]
  by_cases h2 : k = 5
  · rw [if_pos h2, if_pos h2]; exact sp_shutResume c p ws ls v ok late l h.2
  rw [if_neg h2, if_neg h2]
  by_cases h2 : k = 6
  · rw [if_pos h2, if_pos h2]; exact sp_countResume c p ws ls v ok late l h.2
  rw [if_neg h2, if_neg h2]
  exact sp_claimResume c p ws ls v ok late l
theorem sp_mEnd (k : Int) (f : Sf) : FSpec Tryz.prog (mEnd k) 0 [] [f.d] (.tup [outD (endK f.pc f.code) (endV f.pc f.ws), db (endB f.pc)]) [] := by
  obtain ⟨c, p, ws, ls⟩ := f
  unfold mEnd
  by_cases h2 : k = 2
  · rw [if_pos h2]; exact sp_lockEnd c p ws ls
  rw [if_neg h2]
  by_cases h2 : k = 3
  · rw [if_pos h2]; exact sp_pushEnd c p ws ls
  rw [if_neg h2]
  by_cases h2 : k = 4
  · rw [if_pos h2]; exact sp_popEnd c p ws ls
  rw [if_neg h2]
  by_cases h2 : k = 5
  · rw [if_pos h2]; exact sp_shutEnd c p ws ls
  rw [if_neg h2]
  by_cases h2 : k = 6
  · rw [if_pos h2]; exact sp_countEnd c p ws ls
  rw [if_neg h2]
  exact sp_claimEnd c p ws ls
abbrev innD (n : Inn) : D := .agg (innC n)
def Inn.fit : Inn → Prop
  | .sub k f => k ≠ 1 ∧ f.fit
  | _ => True
def Inn.wants : Inn → Acc
  | .zero => noAcc
  | .one a => a
  | .sub k f => subNext k f
theorem sp_wants (n : Inn) (h : n.fit) : FSpec Tryz.prog 114 0 [] [innD n] (.d n.wants.d) [] := by
  cases n with
  | zero =>
    refine (fspec_intro pk (fn := Tryz.f114) (fun _ _ => rfl) Tryz.func114 rfl (by decide) (cwp_ev pk ?_))
    refine w_brF ?_
    refine w_brT ?_
    exact w_done (leafA rfl rfl)
  | one a =>
    obtain ⟨k, ad, o, nw, ti⟩ := a
    refine (fspec_intro pk (fn := Tryz.f114) (fun _ _ => rfl) Tryz.func114 rfl (by decide) (cwp_ev pk ?_))
    refine w_brT ?_
    refine w_call (sp_Int 1 0 0 [o, nw] [k, ad, ti] noUp (by decide)) rfl rfl rfl ?_
    refine w_call (sp_Int 1 0 1 [o, nw] [k, ad, ti] noUp (by decide)) rfl rfl rfl ?_
    refine w_call (sp_Int 1 0 2 [o, nw] [k, ad, ti] noUp (by decide)) rfl rfl rfl ?_
    refine w_call (sp_Word 1 0 0 [o, nw] [k, ad, ti] noUp (by decide)) rfl rfl rfl ?_
    refine w_call (sp_Word 1 0 1 [o, nw] [k, ad, ti] noUp (by decide)) rfl rfl rfl ?_
    refine w_chk ⟨by kernel_rfl, by kernel_rfl⟩ ?_
    exact w_done (leafA rfl rfl)
  | sub k f =>
    refine (fspec_intro pk (fn := Tryz.f114) (fun _ _ => rfl) Tryz.func114 rfl (by decide) (cwp_ev pk ?_))
    refine w_br (fun h1 => by simp [Inn.code] at h1; exact absurd h1 h.1) fun _ => ?_
    refine w_brF ?_
    refine w_call (sp_machine k) rfl rfl rfl ?_
    refine w_chk ⟨by decide, by decide⟩ ?_
    refine w_rdv rfl ?_
    refine w_call (sp_mNext k f h.2) rfl rfl rfl ?_
    refine w_chk ⟨by kernel_rfl, by kernel_rfl⟩ ?_
    exact w_done (leafA rfl rfl)
structure Rz where
  kind : Int
  val : Int
  ok : Bool
  late : Bool
  list : List Int
abbrev rzD (r : Rz) : D := .agg [.v (i64 r.kind), .v (u64 r.val), .v (.bool r.ok), .v (.bool r.late), .v (rowI r.list)]
def Inn.go : Inn → Ans → Inn × Rz × Bool
  | .zero, _ => (.zero, ⟨0, 0, false, false, []⟩, false)
  | .one x, a => (.one x, ⟨0, a.val, a.ok, a.late, a.list⟩, true)
  | .sub k f, a => (.sub k (subRes k f a), ⟨endK (subRes k f a).pc (subRes k f a).code, endV (subRes k f a).pc (subRes k f a).ws, false, false, []⟩, endB (subRes k f a).pc)
theorem sp_goesOn (n : Inn) (a : Ans) (h : n.fit) : FSpec Tryz.prog 122 0 [] [innD n, a.d] (.tup [innD (n.go a).1, rzD (n.go a).2.1, db (n.go a).2.2]) [] := by
  cases n with
  | zero =>
    refine (fspec_intro pk (fn := Tryz.f122) (fun _ _ => rfl) Tryz.func122 rfl (by decide) (cwp_ev pk ?_))
    refine w_brF ?_
    refine w_brT ?_
    exact w_done (done0 (.inr rfl) rfl (frT_tup (frDs_agg (frLs_cons (fr_v rfl) (frLs_cons (fr_v rfl) (frLs_cons (fr_v rfl) (frLs_cons (fr_v rfl) (frLs_cons (fr_v rfl) frLs_nil))))) (frDs_agg (frLs_cons (fr_v rfl) (frLs_cons (fr_v rfl) (frLs_cons (fr_v rfl) (frLs_cons (fr_v rfl) (frLs_cons (fr_x rfl) frLs_nil))))) (frDs_s (fr_v rfl) frDs_nil)))))
  | one x =>
    refine (fspec_intro pk (fn := Tryz.f122) (fun _ _ => rfl) Tryz.func122 rfl (by decide) (cwp_ev pk ?_))
    refine w_brT ?_
    refine w_chk ⟨by kernel_rfl, by kernel_rfl⟩ ?_
    exact w_done (done_eq (.inr rfl) rfl rfl rfl)
  | sub k f =>
    refine (fspec_intro pk (fn := Tryz.f122) (fun _ _ => rfl) Tryz.func122 rfl (by decide) (cwp_ev pk ?_))
    refine w_br (fun h1 => by simp [Inn.code] at h1; exact absurd h1 h.1) fun _ => ?_
    refine w_brF ?_
    refine w_call (sp_machine k) rfl rfl rfl ?_
    refine w_chk ⟨by decide, by decide⟩ ?_
    refine w_rdv rfl ?_
    refine w_call (sp_mRes k f a h.2) rfl rfl rfl ?_
    refine w_chk ⟨by kernel_rfl, by kernel_rfl⟩ ?_
    refine w_call (sp_mEnd k (subRes k f a)) rfl rfl rfl ?_
    refine w_call (sp_within k _ _ _ _) rfl rfl rfl ?_
    refine w_chk ⟨by kernel_rfl, by kernel_rfl⟩ ?_
    exact w_done (done0 (.inr rfl) rfl (frT_tup (frDs_agg (frLs_cons (fr_v rfl) (frLs_cons (fr_v rfl) (frLs_cons (fr_v rfl) (frLs_cons (fr_v rfl) (frLs_cons (fr_v rfl) frLs_nil))))) (frDs_agg (frLs_cons (fr_v rfl) (frLs_cons (fr_v rfl) (frLs_cons (fr_v rfl) (frLs_cons (fr_v rfl) (frLs_cons (fr_x rfl) frLs_nil))))) (frDs_s (fr_v rfl) frDs_nil)))))
end Gx
