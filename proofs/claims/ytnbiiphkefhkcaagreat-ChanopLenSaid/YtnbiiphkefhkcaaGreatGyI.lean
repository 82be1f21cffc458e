import Derived.Test.YtnbiiphkefhkcaaGreatGyF
set_option linter.unusedVariables false
set_option linter.unusedSimpArgs false
set_option maxRecDepth 100000
set_option maxHeartbeats 1000000
namespace Gx
open Go Go.Proofs

/-! the beginnings of the small machines -/
def ringLs (caps : List Int) (ch : Int) : List Int :=
  [chanA caps ch 0, chanA caps ch 1, slotA caps ch 0, if 0 ≤ ch ∧ ch < caps.length then sizeC (caps.getD ch.toNat 0) else 1, if 0 ≤ ch ∧ ch < caps.length then caps.getD ch.toNat 0 else 0]
section
variable {ti : TypeId → Option TI} {rs : List ResultVar} {s : St}
/-- A frame whose rows are one's own. -/
theorem leafG {c p : Int} {ws ls : List Int} {y : Sf} {s1 s2 s3 : S} (h : resT ti s rs = some (.d (.agg [.v (i64 c), .v (i64 p), s1, s2, s3]))) (h1 : FrS s.σ [] s1 (.v (rowU ws))) (h2 : FrS s.σ [] s2 (.v (rowI ls))) (h3 : FrS s.σ [] s3 (.v noUp))
    (hx : Sf.mk c p ws ls = y) : Done ti rs 0 (.d y.d) [] .ret s := by
  subst hx
  exact done0 (.inr rfl) h (frT_agg (frLs_cons (fr_v rfl) (frLs_cons (fr_v rfl) (frLs_cons h1 (frLs_cons h2 (frLs_cons h3 frLs_nil))))))
end
theorem sp_ringStart {caps : List Int} (hc : WfC caps) (sts : V) (th ch pc : Int) (ws : List Int) : FSpec Tryz.prog 152 0 [] [cfD caps sts th, di ch, di pc, .sc (.v (rowU ws))] (.d (Sf.mk 0 pc ws (ringLs caps ch)).d) [] := by
  refine (fspec_intro pk (fn := Tryz.f152) (fun _ _ => rfl) Tryz.func152 rfl (by decide) (cwp_ev pk ?_))
  refine w_call (sp_LTail hc sts th ch) rfl rfl rfl ?_
  refine w_call (sp_LHead hc sts th ch) rfl rfl rfl ?_
  refine w_call (sp_SlotSeq hc sts th ch 0 (by decide) (by decide)) rfl rfl rfl ?_
  refine w_chk ⟨by kernel_rfl, by kernel_rfl⟩ ?_
  refine w_br (fun h => ?_) fun h => ?_
  · simp at h
    repeat refine w_brT ?_
    refine w_br (fun h2 => ?_) fun h2 => ?_
    · simp at h2
      have he : 0 ≤ ch ∧ ch < caps.length := ⟨by omega, h2⟩
      refine w_chk he ?_
      refine w_rdv (takeN_one (getI (i := ch.toNat) (by omega))) ?_
      refine w_chk (by decide) ?_
      refine w_chk (Nat.le_of_ble_eq_true rfl) ?_
      refine w_chk ⟨by kernel_rfl, by kernel_rfl⟩ ?_
      refine w_chk he ?_
      refine w_rdv (takeN_one (getI (i := ch.toNat) (by omega))) ?_
      refine w_call (sp_Size _ (hc.get _).1 (hc.get _).2) rfl rfl rfl ?_
      refine w_chk (by decide) ?_
      refine w_chk (Nat.le_of_ble_eq_true rfl) ?_
      refine w_chk ⟨by kernel_rfl, by kernel_rfl⟩ ?_
      exact w_done (leafG rfl (fr_v rfl) (fr_mc rfl) (fr_x rfl) (by unfold ringLs; rw [if_pos he, if_pos he]))
    · simp at h2
      exact w_done (leafG rfl (fr_v rfl) (fr_mc rfl) (fr_x rfl) (by unfold ringLs; rw [if_neg (by omega), if_neg (by omega)]))
  · simp at h
    repeat refine w_brF ?_
    exact w_done (leafG rfl (fr_v rfl) (fr_mc rfl) (fr_x rfl) (by unfold ringLs; rw [if_neg (by omega), if_neg (by omega)]))

theorem sp_countStart {caps : List Int} (hc : WfC caps) (sts : V) (th ch : Int) : FSpec Tryz.prog 109 0 [] [cfD caps sts th, di ch] (.d (Sf.mk 0 1 [0, 0] (ringLs caps ch)).d) [] := by
  refine (fspec_intro pk (fn := Tryz.f109) (fun _ _ => rfl) Tryz.func109 rfl (by decide) (cwp_ev pk ?_))
  refine w_callA (sp_ringStart hc sts th ch 1 [0, 0]) rfl rfl rfl rfl rfl ?_
  exact w_done (leafF rfl rfl)
theorem sp_shutStart {caps : List Int} (hc : WfC caps) (sts : V) (th ch : Int) : FSpec Tryz.prog 110 0 [] [cfD caps sts th, di ch] (.d (Sf.mk 0 1 [0] (ringLs caps ch)).d) [] := by
  refine (fspec_intro pk (fn := Tryz.f110) (fun _ _ => rfl) Tryz.func110 rfl (by decide) (cwp_ev pk ?_))
  refine w_callA (sp_ringStart hc sts th ch 1 [0]) rfl rfl rfl rfl rfl ?_
  exact w_done (leafF rfl rfl)
theorem sp_pushStart {caps : List Int} (hc : WfC caps) (sts : V) (th ch v : Int) : FSpec Tryz.prog 111 0 [] [cfD caps sts th, di ch, du v] (.d (Sf.mk 0 1 [0, v] (ringLs caps ch)).d) [] := by
  refine (fspec_intro pk (fn := Tryz.f111) (fun _ _ => rfl) Tryz.func111 rfl (by decide) (cwp_ev pk ?_))
  refine w_callA (sp_ringStart hc sts th ch 1 [0, v]) rfl rfl rfl rfl rfl ?_
  exact w_done (leafF rfl rfl)
theorem sp_popStart {caps : List Int} (hc : WfC caps) (sts : V) (th ch : Int) : FSpec Tryz.prog 112 0 [] [cfD caps sts th, di ch] (.d (Sf.mk 0 1 [0, 0, 0] (ringLs caps ch)).d) [] := by
  refine (fspec_intro pk (fn := Tryz.f112) (fun _ _ => rfl) Tryz.func112 rfl (by decide) (cwp_ev pk ?_))
  refine w_callA (sp_ringStart hc sts th ch 1 [0, 0, 0]) rfl rfl rfl rfl rfl ?_
  exact w_done (leafF rfl rfl)
def lockF (caps : List Int) (ch pc : Int) : Sf := ⟨0, pc, [], [chanA caps ch 2]⟩
theorem sp_lockstart {caps : List Int} (hc : WfC caps) (sts : V) (th ch pc : Int) : FSpec Tryz.prog 257 0 [] [cfD caps sts th, di ch, di pc] (.d (lockF caps ch pc).d) [] := by
  refine (fspec_intro pk (fn := Tryz.f257) (fun _ _ => rfl) Tryz.func257 rfl (by decide) (cwp_ev pk ?_))
  refine w_call (sp_LLock hc sts th ch) rfl rfl rfl ?_
  exact w_done (leafG rfl (fr_x rfl) (fr_mc rfl) (fr_x rfl) rfl)
theorem sp_lockTake {caps : List Int} (hc : WfC caps) (sts : V) (th ch : Int) : FSpec Tryz.prog 181 0 [] [cfD caps sts th, di ch] (.d (lockF caps ch 0).d) [] := by
  refine (fspec_intro pk (fn := Tryz.f181) (fun _ _ => rfl) Tryz.func181 rfl (by decide) (cwp_ev pk ?_))
  refine w_call (sp_lockstart hc sts th ch 0) rfl rfl rfl ?_
  exact w_done (leafF rfl rfl)
theorem sp_lockRelease {caps : List Int} (hc : WfC caps) (sts : V) (th ch : Int) : FSpec Tryz.prog 285 0 [] [cfD caps sts th, di ch] (.d (lockF caps ch 1).d) [] := by
  refine (fspec_intro pk (fn := Tryz.f285) (fun _ _ => rfl) Tryz.func285 rfl (by decide) (cwp_ev pk ?_))
  refine w_call (sp_lockstart hc sts th ch 1) rfl rfl rfl ?_
  exact w_done (leafF rfl rfl)
def claimF (caps : List Int) (n pc : Int) (ws : List Int) : Sf := ⟨0, pc, ws, [thrA caps n 0, thrA caps n 1, thrA caps n 2, thrA caps n 3, thrA caps n 4]⟩
theorem sp_claimstart {caps : List Int} (hc : WfC caps) (sts : V) (th n pc : Int) (ws : List Int) (h0 : -1000000000000 ≤ n) (h1 : n ≤ 1000000000000) : FSpec Tryz.prog 276 0 [] [cfD caps sts th, di n, di pc, .sc (.v (rowU ws))] (.d (claimF caps n pc ws).d) [] := by
  refine (fspec_intro pk (fn := Tryz.f276) (fun _ _ => rfl) Tryz.func276 rfl (by decide) (cwp_ev pk ?_))
  refine w_call (sp_LClaim hc sts th n h0 h1) rfl rfl rfl ?_
  refine w_call (sp_LFlag hc sts th n h0 h1) rfl rfl rfl ?_
  refine w_call (sp_LKind hc sts th n h0 h1) rfl rfl rfl ?_
  refine w_call (sp_LCase hc sts th n h0 h1) rfl rfl rfl ?_
  refine w_call (sp_LValue hc sts th n h0 h1) rfl rfl rfl ?_
  refine w_chk ⟨by kernel_rfl, by kernel_rfl⟩ ?_
  exact w_done (leafG rfl (fr_v rfl) (fr_mc rfl) (fr_x rfl) rfl)
theorem sp_claimReserve {caps : List Int} (hc : WfC caps) (sts : V) (th n : Int) (h0 : -1000000000000 ≤ n) (h1 : n ≤ 1000000000000) : FSpec Tryz.prog 278 0 [] [cfD caps sts th, di n] (.d (claimF caps n 1 []).d) [] := by
  refine (fspec_intro pk (fn := Tryz.f278) (fun _ _ => rfl) Tryz.func278 rfl (by decide) (cwp_ev pk ?_))
  refine w_call (sp_claimstart hc sts th n 1 [] h0 h1) rfl rfl rfl ?_
  exact w_done (leafF rfl rfl)
theorem sp_claimUndo {caps : List Int} (hc : WfC caps) (sts : V) (th n : Int) (h0 : -1000000000000 ≤ n) (h1 : n ≤ 1000000000000) : FSpec Tryz.prog 279 0 [] [cfD caps sts th, di n] (.d (claimF caps n 2 []).d) [] := by
  refine (fspec_intro pk (fn := Tryz.f279) (fun _ _ => rfl) Tryz.func279 rfl (by decide) (cwp_ev pk ?_))
  refine w_call (sp_claimstart hc sts th n 2 [] h0 h1) rfl rfl rfl ?_
  exact w_done (leafF rfl rfl)
theorem sp_claimExpire {caps : List Int} (hc : WfC caps) (sts : V) (th n : Int) (h0 : -1000000000000 ≤ n) (h1 : n ≤ 1000000000000) : FSpec Tryz.prog 231 0 [] [cfD caps sts th, di n] (.d (claimF caps n 3 []).d) [] := by
  refine (fspec_intro pk (fn := Tryz.f231) (fun _ _ => rfl) Tryz.func231 rfl (by decide) (cwp_ev pk ?_))
  refine w_call (sp_claimstart hc sts th n 3 [] h0 h1) rfl rfl rfl ?_
  exact w_done (leafF rfl rfl)
theorem sp_claimRest {caps : List Int} (hc : WfC caps) (sts : V) (th n : Int) (h0 : -1000000000000 ≤ n) (h1 : n ≤ 1000000000000) : FSpec Tryz.prog 282 0 [] [cfD caps sts th, di n] (.d (claimF caps n 4 []).d) [] := by
  refine (fspec_intro pk (fn := Tryz.f282) (fun _ _ => rfl) Tryz.func282 rfl (by decide) (cwp_ev pk ?_))
  refine w_call (sp_claimstart hc sts th n 4 [] h0 h1) rfl rfl rfl ?_
  exact w_done (leafF rfl rfl)
theorem sp_claimFire {caps : List Int} (hc : WfC caps) (sts : V) (th n i k v : Int) (h0 : -1000000000000 ≤ n) (h1 : n ≤ 1000000000000) : FSpec Tryz.prog 203 0 [] [cfD caps sts th, di n, di i, di k, du v] (.d (claimF caps n 5 [wU i, wU k, v]).d) [] := by
  refine (fspec_intro pk (fn := Tryz.f203) (fun _ _ => rfl) Tryz.func203 rfl (by decide) (cwp_ev pk ?_))
  refine w_callA (sp_claimstart hc sts th n 5 [wU i, wU k, v] h0 h1) rfl rfl rfl rfl rfl ?_
  exact w_done (leafF rfl rfl)
end Gx
