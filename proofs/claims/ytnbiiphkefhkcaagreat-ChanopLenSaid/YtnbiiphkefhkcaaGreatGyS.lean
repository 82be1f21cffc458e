import Derived.Test.YtnbiiphkefhkcaaGreatGyR
import Derived.Test.YtnbiiphkefhkcaaGreatGxY
import Derived.Tactics
import Derived.Tactics2
set_option linter.unusedVariables false
set_option linter.unusedSimpArgs false
set_option maxRecDepth 100000
set_option maxHeartbeats 1000000
namespace Gx
open Go Go.Proofs
attribute [local irreducible] WpT

def MS.next (m : MS) : Acc := if m.pc = -1 then noAcc else m.inner.wants
theorem sp_Next (m : MS) (h : m.inner.fit) : FSpec Tryz.prog 59 0 [] [m.fd] (.d m.next.d) [] := by
  refine (fspec_intro pk (fn := Tryz.f59) (fun _ _ => rfl) Tryz.func59 rfl (by decide) (cwp_ev pk ?_))
  by_cases hp : m.pc = -1
  · have e : m.next = noAcc := if_pos hp
    rw [e]
    repeat' (try conv => arg 2; whnf) <;> first
      | refine w_brT ?_
      | refine w_brF ?_
      | refine w_bT (beq_iff_eq.2 hp) ?_
    exact w_done (leafA rfl rfl)
  · have e : m.next = m.inner.wants := if_neg hp
    rw [e]
    refine w_br (fun h => by simp at h; exact absurd h hp) fun _ => ?_
    repeat refine w_brF ?_
    refine w_chk ⟨by decide, by decide⟩ ?_
    refine w_rdv rfl ?_
    refine w_call (sp_wants m.inner h) rfl rfl rfl ?_
    exact w_done (leafA rfl rfl)
def MS.over (m : MS) : Bool := m.pc == -1
def MS.res (m : MS) : Rs := if m.pc = -1 then m.done else ⟨0, 0, 0, false, 0⟩
theorem sp_End0 (m : MS) (hcs : m.cases = []) : FSpec Tryz.prog 57 0 [] [m.fd] (.tup [m.res.d, db m.over]) [] := by
  refine (fspec_intro pk (fn := Tryz.f57) (fun _ _ => rfl) Tryz.func57 rfl (by decide) (cwp_ev pk ?_))
  by_cases hp : m.pc = -1
  · have e : m.res = m.done := if_pos hp
    have e2 : m.over = true := by simp [MS.over, hp]
    rw [e, e2]
    refine w_br (fun h => by simp [hp] at h) fun _ => ?_
    refine w_callN [(144, 124)] (sp_from { m with depth := 0 } hcs rfl) rfl trivial rfl rfl rfl rfl rfl rfl rfl rfl rfl rfl ?_
    exact w_done (done_eq (.inr rfl) rfl rfl rfl)
  · have e : m.res = ⟨0, 0, 0, false, 0⟩ := if_neg hp
    have e2 : m.over = false := by simp [MS.over, hp]
    rw [e, e2]
    refine w_br (fun _ => ?_) fun h => (by simp at h; exact absurd h hp)
    exact w_done (done_eq (.inr rfl) rfl rfl rfl)
theorem sp_CEnd (m : MS) (hcs : m.cases = []) : FSpec Tryz.prog 19 0 [] [m.fd] (.tup [m.res.d, db m.over]) [] := by
  refine (fspec_intro pk (fn := Tryz.f19) (fun _ _ => rfl) Tryz.func19 rfl (by decide) (cwp_ev pk ?_))
  refine w_call (sp_End0 m hcs) rfl rfl rfl ?_
  exact w_done (done_eq (.inr rfl) rfl rfl rfl)
theorem sp_CNext (m : MS) (h : m.inner.fit) : FSpec Tryz.prog 21 0 [] [m.fd] (.d m.next.d) [] := by
  refine (fspec_intro pk (fn := Tryz.f21) (fun _ _ => rfl) Tryz.func21 rfl (by decide) (cwp_ev pk ?_))
  refine w_call (sp_Next m h) rfl rfl rfl ?_
  exact w_done (leafA rfl rfl)
theorem sp_CStart (caps : List Int) (sts : V) (th thread kind mode ch val dl : Int) (hc : WfC caps) (hl : caps.length < 1000) (hk : kind ≠ 4) (ht : -1000000000000 ≤ thread ∧ thread ≤ 1000000000000) :
    FSpec Tryz.prog 20 0 [] [cfD caps sts th, di thread, opD kind mode ch val dl [] []] (.d (startM caps th thread kind mode ch val dl).fd) [] := by
  refine (fspec_intro pk (fn := Tryz.f20) (fun _ _ => rfl) Tryz.func20 rfl (by decide) (cwp_ev pk ?_))
  refine w_call (sp_Start caps sts th thread kind mode ch val dl hc hl hk ht) rfl rfl rfl ?_
  exact w_done (done_eq (.inr rfl) rfl rfl rfl)

/-! Resume -/
theorem catch_idle (v1 v2 : Value) (w : World) : CallsD Tryz.prog 121 #[v1, v2] .returning w fun e u' w' => e = .returned (.tuple #[]) ∧ u' = .returning ∧ w' = w := by
  refine callsD_of_wpS Tryz.func121 rfl fun c₀ cs hu => ?_
  apply wpS_seq
  apply wpS_region
  simp [wpOpsS, go_sem, recoverD, hu, Tryz.ntmps121, Exit.thenS]
  refine wpS_cond (t := false) (by simp [Act.eval, Array.replicate]) ?_
  simp only [Bool.false_eq_true, if_false]
  refine wpS_of_wp (wp_skip ?_)
  cases c₀
  simp_all [bodyPostS, results, Tryz.results121]
noncomputable abbrev bRes : Code := Tryz.f81.body.getD .skip
def _root_.Go.Code.hd : Code → Code
  | .seq a _ => a
  | c => c
theorem res_defer (A : Act) (w : World) (v1 v2 : Value) (Q : Exit → Act → World → Prop) (h1 : A.tmps[2]? = some v1) (h2 : A.tmps[4]? = some v2) (hs : 9 < A.tmps.size)
    (h : Q .normal { A with tmps := A.tmps.setIfInBounds 9 (.func (.func 121) #[] #[v1, v2]), defers := dfr 121 v1 v2 :: A.defers } w) : (Code.restN 1 bRes).hd.wp Tryz.prog Q A w := by
  have hmf : ∀ (fn : Fn) (first cap : Array Value) (w : World), (Instr.makeFunc fn first cap).run Tryz.prog w = .ok (.func fn first cap) w := fun _ _ _ _ => rfl
  refine wp_region ?_
  simp [wpOps, go_sem, hmf, hs, h1, h2]
  refine .inl (.inl ?_)
  exact h
end Gx
