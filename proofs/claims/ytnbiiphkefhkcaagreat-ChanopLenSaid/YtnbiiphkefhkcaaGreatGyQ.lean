import Derived.Test.YtnbiiphkefhkcaaGreatGyP
set_option linter.unusedVariables false
set_option linter.unusedSimpArgs false
set_option maxRecDepth 100000
set_option maxHeartbeats 1000000
namespace Gx
open Go Go.Proofs
attribute [local irreducible] WpT

/-! the first places of an operation that is no select -/
def MS.locks (m : MS) : List Int := locks1 m.caps m.chan
theorem sp_locks (m : MS) (hk : m.kind ≠ 4) : MSpec 148 [] (.d (.sc (.v (rowI m.locks)))) m m := by
  intro x
  refine (fspec_intro pk (fn := Tryz.f148) (fun _ _ => rfl) Tryz.func148 rfl (by decide) (cwp_ev pk ?_))
  refine w_call (sp_Locks1 m.caps noUp m.threads m.kind m.mode m.chan m.opval m.deadline m.cases m.draws hk) rfl rfl rfl ?_
  refine w_chk ⟨by kernel_rfl, by kernel_rfl⟩ ?_
  exact w_done (leafM (.inr rfl) rfl rfl rfl)
def MS.enlist (m : MS) : MS := { m with at' := 0 }.acc 9 ⟨2, thrA m.caps m.thread 1, 0, 0, 0⟩
def MS.small (m : MS) : Prop := -1000000000000 ≤ m.thread ∧ m.thread ≤ 1000000000000
theorem sp_enlist (m : MS) (hc : WfC m.caps) (ht : m.small) : MSpec 150 [] unitT m m.enlist := by
  intro x
  refine (fspec_intro pk (fn := Tryz.f150) (fun _ _ => rfl) Tryz.func150 rfl (by decide) (cwp_ev pk ?_))
  refine w_call (sp_LFlag hc noUp m.threads m.thread ht.1 ht.2) rfl rfl rfl ?_
  refine w_callM (m := { m with at' := 0 }) (x := x) (sp_store _ 9 (thrA m.caps m.thread 1) 0) rfl rfl rfl rfl ?_
  refine w_chk ⟨by kernel_rfl, by kernel_rfl⟩ ?_
  exact w_done (leafM (.inl rfl) rfl rfl rfl)
def MS.begin (m : MS) : MS := match m.locks with
  | c :: _ => { m with at' := 0 }.cal 8 2 (lockF m.caps c 0)
  | [] => if m.mode = 1 then { m with at' := 0 }.fin ⟨3, -1, 0, false, 0⟩ else m.enlist
theorem sp_begin (m : MS) (hk : m.kind ≠ 4) (hc : WfC m.caps) (ht : m.small) : MSpec 106 [] unitT m m.begin := by
  intro x
  refine (fspec_intro pk (fn := Tryz.f106) (fun _ _ => rfl) Tryz.func106 rfl (by decide) (cwp_ev pk ?_))
  refine w_callM (m := { m with at' := 0 }) (x := x) (sp_locks { m with at' := 0 } hk) rfl rfl rfl rfl ?_
  unfold MS.begin
  have el : ({ m with at' := 0 } : MS).locks = m.locks := rfl
  rw [el]
  cases hl : m.locks with
  | cons c r =>
    refine w_br (fun _ => ?_) fun h => ?_
    · refine w_chk ⟨by decide, by simp⟩ ?_
      refine w_rdv (takeN_one rfl) ?_
      refine w_callM (m := { m with at' := 0 }) (x := x) (sp_take { m with at' := 0 } hc 8 c) rfl rfl rfl rfl ?_
      exact w_done (leafM (.inl rfl) rfl rfl rfl)
    · simp at h
  | nil =>
    refine w_brF ?_
    refine w_br (fun h => ?_) fun h => ?_
    · simp at h
      rw [if_pos h]
      refine w_callM (m := { m with at' := 0 }) (x := x) (sp_finish { m with at' := 0 } 3 (-1) 0 false 0) rfl rfl rfl rfl ?_
      exact w_done (leafM (.inl rfl) rfl rfl rfl)
    · simp at h
      rw [if_neg h]
      refine w_callM (m := { m with at' := 0 }) (x := x) (sp_enlist { m with at' := 0 } hc ht) rfl rfl rfl rfl ?_
      exact w_done (leafM (.inl rfl) rfl rfl rfl)
def MS.serve (m : MS) (back ch : Int) : MS := { m with back := back, channel := ch }.acc 37 ⟨7, MS.listOf ch false, 0, 0, 0⟩
theorem sp_serve (m : MS) (back ch : Int) (h0 : -1000000000000 ≤ ch) (h1 : ch ≤ 1000000000000) : MSpec 227 [di back, di ch] unitT m (m.serve back ch) := by
  intro x
  refine (fspec_intro pk (fn := Tryz.f227) (fun _ _ => rfl) Tryz.func227 rfl (by decide) (cwp_ev pk ?_))
  refine w_call (sp_ReceiverList _ _ _ _ h0 h1) rfl rfl rfl ?_
  refine w_callM (m := { m with back := back, channel := ch }) (x := x) (sp_list _ 37 (MS.listOf ch false)) rfl rfl rfl rfl ?_
  exact w_done (leafM (.inl rfl) rfl rfl rfl)
def MS.beginning (m : MS) (r : Rz) : MS :=
  if m.pc = 1 then
    let m1 := { m with done := Gx.outcome r.kind (-1) r.val }
    if r.kind = 1 ∨ r.kind = 6 then m1.acc 2 ⟨1, m.lenOf m.chan (m.kind == 2), 0, 0, 0⟩
    else if r.kind = 4 ∨ r.kind = 5 then m1.fin m1.done
    else if m.mode = 1 then m1.fin ⟨3, -1, 0, false, 0⟩ else m1.begin
  else if m.pc = 2 then if r.val = 0 then m.fin m.done else m.cal 3 2 (lockF m.caps m.chan 0)
  else if m.pc = 3 then m.serve 4 m.chan
  else if m.pc = 4 then m.cal 5 2 (lockF m.caps m.chan 1)
  else if m.pc = 5 then m.fin m.done
  else if m.pc = 6 then if r.kind = 4 then m.fin ⟨5, -1, 0, false, 0⟩ else { m with done := ⟨6, -1, 0, false, 0⟩ }.cal 3 2 (lockF m.caps m.chan 0)
  else if m.pc = 7 then m.fin ⟨7, -1, 0, false, wI r.val⟩
  else m
def MS.wf (m : MS) : Prop := m.kind ≠ 4 ∧ WfC m.caps ∧ m.small ∧ -1000000000000 ≤ m.chan ∧ m.chan ≤ 1000000000000
abbrev MS.m1 (m : MS) (r : Rz) : MS := { m with done := Gx.outcome r.kind (-1) r.val }
abbrev MS.m2 (m : MS) : MS := { m with done := ⟨6, -1, 0, false, 0⟩ }
theorem sp_beginning (m : MS) (r : Rz) (h : m.wf) : MSpec 164 [rzD r] unitT m (m.beginning r) := by
  obtain ⟨hk, hc, ht, h0, h1⟩ := h
  intro x
  refine (fspec_intro pk (fn := Tryz.f164) (fun _ _ => rfl) Tryz.func164 rfl (by decide) (cwp_ev pk ?_))
  repeat' (try conv => arg 2; whnf) <;> first
    | refine w_brT ?_
    | refine w_brF ?_
    | refine w_br (fun h => ?_) (fun h => ?_)
    | refine w_call (sp_outcome r.kind (-1) r.val) rfl rfl rfl ?_
    | refine w_callM (b := 0) (m := m.m1 r) (x := x) (sp_lists (m.m1 r) hc m.chan (m.kind == 2) h0 h1) rfl rfl rfl rfl ?_
    | refine w_callM (b := 0) (m := m.m1 r) (x := x) (sp_load (m.m1 r) 2 (m.lenOf m.chan (m.kind == 2))) rfl rfl rfl rfl ?_
    | refine w_callM (b := 0) (m := m.m1 r) (x := x) (sp_finish (m.m1 r) _ _ _ _ _) rfl rfl rfl rfl ?_
    | refine w_callM (b := 0) (m := m.m1 r) (x := x) (sp_begin (m.m1 r) hk hc ht) rfl rfl rfl rfl ?_
    | refine w_callM (b := 0) (m := m) (x := x) (sp_finish m _ _ _ _ _) rfl rfl rfl rfl ?_
    | refine w_callM (b := 0) (m := m) (x := x) (sp_take m hc 3 m.chan) rfl rfl rfl rfl ?_
    | refine w_callM (b := 0) (m := m) (x := x) (sp_serve m 4 m.chan h0 h1) rfl rfl rfl rfl ?_
    | refine w_callM (b := 0) (m := m) (x := x) (sp_release m hc 5 m.chan) rfl rfl rfl rfl ?_
    | refine w_callM (b := 0) (m := m.m2) (x := x) (sp_take m.m2 hc 3 m.chan) rfl rfl rfl rfl ?_
    | refine w_chk ⟨by kernel_rfl, by kernel_rfl⟩ ?_
  all_goals refine w_done ?_
  all_goals simp only [beq_iff_eq, beq_eq_false_iff_ne, ne_eq, decide_eq_true_eq, decide_eq_false_iff_not] at *
  all_goals exact leafM' (.inl rfl) rfl rfl rfl (by unfold MS.beginning; repeat' split
                                                    all_goals first | rfl | (exfalso; omega))
end Gx
