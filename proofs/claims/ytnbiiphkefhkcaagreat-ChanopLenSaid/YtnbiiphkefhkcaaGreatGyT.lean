import Derived.Test.YtnbiiphkefhkcaaGreatGyS
set_option linter.unusedVariables false
set_option linter.unusedSimpArgs false
set_option maxRecDepth 100000
set_option maxHeartbeats 2000000
namespace Gx
open Go Go.Proofs
attribute [local irreducible] WpT

def MS.len (m : MS) : Prop := m.caps.length + m.draws.length + m.recv.length + m.send.length + m.words.length < 100000
def MS.resu (m : MS) (a : Ans) (m' : MS) : MS := if m.pc = -1 then m else if (m.inner.go a).2.2 = true then m' else { m with inner := (m.inner.go a).1 }
theorem sp_Resume0 (m : MS) (a : Ans) (m' : MS) (hcs : m.cases = []) (hf : m.inner.fit) (hrun : m.pc ≠ -1 → (m.inner.go a).2.2 = true → MSpec 123 [rzD (m.inner.go a).2.1] unitT { m with depth := 0 } m' ∧ m'.cases = [] ∧ m'.len) :
    FSpec Tryz.prog 81 0 [] [m.fd, a.d] (.d (m.resu a m').fd) [] := by
  refine fspec_defer pk (fn := Tryz.f81) (r0 := bRes.hd) (r1 := (Code.restN 1 bRes).hd) (c2 := Code.restN 2 bRes) (fun _ _ => rfl) Tryz.func81 rfl (by decide) 9 2 4 64 72 (w_done ⟨rfl, rfl⟩) rfl rfl rfl (Nat.le_of_ble_eq_true rfl) res_defer (cwp_evC pk ?_) ?_ catch_idle
  · by_cases hp : m.pc = -1
    · have e : m.resu a m' = m := if_pos hp
      rw [e]
      repeat' (try conv => arg 2; whnf) <;> first
        | refine w_brT ?_
        | refine w_brF ?_
        | refine w_bT (beq_iff_eq.2 hp) ?_
        | refine w_runC pk ?_
      exact w_done (done_eq (.inr rfl) rfl rfl rfl)
    · have hp' : (m.pc == -1) = false := by simpa using hp
      repeat' (try conv => arg 2; whnf) <;> first
        | refine w_brT ?_
        | refine w_brF ?_
        | refine w_bF hp' ?_
        | refine w_runC pk ?_
        | refine w_chk ⟨by decide, by decide⟩ ?_
        | refine w_rdv rfl ?_
      refine w_call (sp_goesOn m.inner a hf) rfl rfl rfl ?_
      refine w_chk ⟨by kernel_rfl, by kernel_rfl⟩ ?_
      refine w_runC pk ?_
      refine w_runC pk ?_
      refine w_br (fun h => ?_) fun h => ?_
      · have ho : (m.inner.go a).2.2 = false := by simpa using h
        have e : m.resu a m' = { m with inner := (m.inner.go a).1 } := by unfold MS.resu; rw [if_neg hp, if_neg (by rw [ho]; decide)]
        rw [e]
        exact w_done (done0 (.inr rfl) rfl (frT_agg (frLs_cons (fr_v rfl) (frLs_cons (fr_v rfl) (frLs_cons (fr_v rfl) (frLs_cons (fr_v rfl) (frLs_cons (fr_mc rfl) frLs_nil)))))))
      · have ho : (m.inner.go a).2.2 = true := by simpa using h
        obtain ⟨hr, h2, h3⟩ := hrun hp ho
        have e : m.resu a m' = m' := by unfold MS.resu; rw [if_neg hp, if_pos ho]
        rw [e]
        repeat refine w_runC pk ?_
        refine w_callN [(144, 5000)] (sp_from { m with depth := 0 } hcs rfl) rfl trivial rfl rfl rfl rfl rfl rfl rfl rfl rfl rfl ?_
        refine w_runC pk ?_
        refine w_callM (b := 5000) (x := true) (m := { m with depth := 0 }) hr rfl rfl rfl rfl ?_
        refine w_runC pk ?_
        refine w_callFr (b := 5000) (x := true) m' rfl rfl rfl h2 h3 ?_
        repeat refine w_runC pk ?_
        exact w_done (done_eq (.inr rfl) rfl rfl rfl)
  · intro v1 v2 w
    rfl
end Gx
