import Derived.Test.YtnbiiphkefhkcaaGreatGyB
set_option linter.unusedVariables false
set_option linter.unusedSimpArgs false
set_option maxRecDepth 100000
namespace Gx
open Go Go.Proofs

def chanA (caps : List Int) (ch : Int) (k : Int) : Int := baseC caps ch.toNat + k
def thrA (caps : List Int) (n : Int) (k : Int) : Int := baseC caps caps.length + n * 11 + k
def slotA (caps : List Int) (ch seq : Int) : Int := if ch < 0 ∨ ch ≥ caps.length then 0 else baseC caps ch.toNat + 5 + 2 * seqSlot seq (sizeC (caps.getD ch.toNat 0))

theorem sp_LTail {caps : List Int} (hc : WfC caps) (sts : V) (th ch : Int) : FSpec Tryz.prog 138 0 [] [cfD caps sts th, di ch] (ri (chanA caps ch 0)) [] := by
  refine (fspec_intro pk (fn := Tryz.f138) (fun _ _ => rfl) Tryz.func138 rfl (by decide) (cwp_ev pk ?_))
  refine w_call (sp_base hc sts th ch) rfl rfl rfl ?_
  refine w_done (done0 (.inr rfl) rfl (frT_v (congrArg i64 ?_)))
  have := baseC_le8 caps ch.toNat hc.len
  show wI (baseC caps ch.toNat + 0) = _
  rw [wI_id (by omega) (by omega)]; rfl
theorem sp_LHead {caps : List Int} (hc : WfC caps) (sts : V) (th ch : Int) : FSpec Tryz.prog 139 0 [] [cfD caps sts th, di ch] (ri (chanA caps ch 1)) [] := by
  refine (fspec_intro pk (fn := Tryz.f139) (fun _ _ => rfl) Tryz.func139 rfl (by decide) (cwp_ev pk ?_))
  refine w_call (sp_base hc sts th ch) rfl rfl rfl ?_
  refine w_done (done0 (.inr rfl) rfl (frT_v (congrArg i64 ?_)))
  have := baseC_le8 caps ch.toNat hc.len
  show wI (baseC caps ch.toNat + 1) = _
  rw [wI_id (by omega) (by omega)]; rfl
theorem sp_LLock {caps : List Int} (hc : WfC caps) (sts : V) (th ch : Int) : FSpec Tryz.prog 294 0 [] [cfD caps sts th, di ch] (ri (chanA caps ch 2)) [] := by
  refine (fspec_intro pk (fn := Tryz.f294) (fun _ _ => rfl) Tryz.func294 rfl (by decide) (cwp_ev pk ?_))
  refine w_call (sp_base hc sts th ch) rfl rfl rfl ?_
  refine w_done (done0 (.inr rfl) rfl (frT_v (congrArg i64 ?_)))
  have := baseC_le8 caps ch.toNat hc.len
  show wI (baseC caps ch.toNat + 2) = _
  rw [wI_id (by omega) (by omega)]; rfl
theorem sp_LReceivers {caps : List Int} (hc : WfC caps) (sts : V) (th ch : Int) : FSpec Tryz.prog 275 0 [] [cfD caps sts th, di ch] (ri (chanA caps ch 3)) [] := by
  refine (fspec_intro pk (fn := Tryz.f275) (fun _ _ => rfl) Tryz.func275 rfl (by decide) (cwp_ev pk ?_))
  refine w_call (sp_base hc sts th ch) rfl rfl rfl ?_
  refine w_done (done0 (.inr rfl) rfl (frT_v (congrArg i64 ?_)))
  have := baseC_le8 caps ch.toNat hc.len
  show wI (baseC caps ch.toNat + 3) = _
  rw [wI_id (by omega) (by omega)]; rfl
theorem sp_LSenders {caps : List Int} (hc : WfC caps) (sts : V) (th ch : Int) : FSpec Tryz.prog 273 0 [] [cfD caps sts th, di ch] (ri (chanA caps ch 4)) [] := by
  refine (fspec_intro pk (fn := Tryz.f273) (fun _ _ => rfl) Tryz.func273 rfl (by decide) (cwp_ev pk ?_))
  refine w_call (sp_base hc sts th ch) rfl rfl rfl ?_
  refine w_done (done0 (.inr rfl) rfl (frT_v (congrArg i64 ?_)))
  have := baseC_le8 caps ch.toNat hc.len
  show wI (baseC caps ch.toNat + 4) = _
  rw [wI_id (by omega) (by omega)]; rfl
theorem sp_thread {caps : List Int} (hc : WfC caps) (sts : V) (th n : Int) (h0 : -1000000000000 ≤ n) (h1 : n ≤ 1000000000000) : FSpec Tryz.prog 175 0 [] [cfD caps sts th, di n] (ri (thrA caps n 0)) [] := by
  refine (fspec_intro pk (fn := Tryz.f175) (fun _ _ => rfl) Tryz.func175 rfl (by decide) (cwp_ev pk ?_))
  refine w_call (sp_base hc sts th caps.length) rfl rfl rfl ?_
  refine w_done (done0 (.inr rfl) rfl (frT_v (congrArg i64 ?_)))
  have := baseC_le8 caps caps.length hc.len
  show wI (baseC caps (caps.length : Int).toNat + wI (n * 11)) = _
  rw [Int.toNat_natCast, wI_id (n := n * 11) (by omega) (by omega), wI_id (by omega) (by omega)]; simp [thrA]
theorem sp_LClaim {caps : List Int} (hc : WfC caps) (sts : V) (th n : Int) (h0 : -1000000000000 ≤ n) (h1 : n ≤ 1000000000000) : FSpec Tryz.prog 242 0 [] [cfD caps sts th, di n] (ri (thrA caps n 0)) [] := by
  refine (fspec_intro pk (fn := Tryz.f242) (fun _ _ => rfl) Tryz.func242 rfl (by decide) (cwp_ev pk ?_))
  refine w_call (sp_thread hc sts th n h0 h1) rfl rfl rfl ?_
  refine w_done (done0 (.inr rfl) rfl (frT_v (congrArg i64 ?_)))
  have := baseC_le8 caps caps.length hc.len
  show wI (thrA caps n 0 + 0) = _
  unfold thrA
  rw [wI_id (by omega) (by omega)]; omega
theorem sp_LFlag {caps : List Int} (hc : WfC caps) (sts : V) (th n : Int) (h0 : -1000000000000 ≤ n) (h1 : n ≤ 1000000000000) : FSpec Tryz.prog 183 0 [] [cfD caps sts th, di n] (ri (thrA caps n 1)) [] := by
  refine (fspec_intro pk (fn := Tryz.f183) (fun _ _ => rfl) Tryz.func183 rfl (by decide) (cwp_ev pk ?_))
  refine w_call (sp_thread hc sts th n h0 h1) rfl rfl rfl ?_
  refine w_done (done0 (.inr rfl) rfl (frT_v (congrArg i64 ?_)))
  have := baseC_le8 caps caps.length hc.len
  show wI (thrA caps n 0 + 1) = _
  unfold thrA
  rw [wI_id (by omega) (by omega)]; omega
theorem sp_LKind {caps : List Int} (hc : WfC caps) (sts : V) (th n : Int) (h0 : -1000000000000 ≤ n) (h1 : n ≤ 1000000000000) : FSpec Tryz.prog 232 0 [] [cfD caps sts th, di n] (ri (thrA caps n 2)) [] := by
  refine (fspec_intro pk (fn := Tryz.f232) (fun _ _ => rfl) Tryz.func232 rfl (by decide) (cwp_ev pk ?_))
  refine w_call (sp_thread hc sts th n h0 h1) rfl rfl rfl ?_
  refine w_done (done0 (.inr rfl) rfl (frT_v (congrArg i64 ?_)))
  have := baseC_le8 caps caps.length hc.len
  show wI (thrA caps n 0 + 2) = _
  unfold thrA
  rw [wI_id (by omega) (by omega)]; omega
theorem sp_LCase {caps : List Int} (hc : WfC caps) (sts : V) (th n : Int) (h0 : -1000000000000 ≤ n) (h1 : n ≤ 1000000000000) : FSpec Tryz.prog 235 0 [] [cfD caps sts th, di n] (ri (thrA caps n 3)) [] := by
  refine (fspec_intro pk (fn := Tryz.f235) (fun _ _ => rfl) Tryz.func235 rfl (by decide) (cwp_ev pk ?_))
  refine w_call (sp_thread hc sts th n h0 h1) rfl rfl rfl ?_
  refine w_done (done0 (.inr rfl) rfl (frT_v (congrArg i64 ?_)))
  have := baseC_le8 caps caps.length hc.len
  show wI (thrA caps n 0 + 3) = _
  unfold thrA
  rw [wI_id (by omega) (by omega)]; omega
theorem sp_LValue {caps : List Int} (hc : WfC caps) (sts : V) (th n : Int) (h0 : -1000000000000 ≤ n) (h1 : n ≤ 1000000000000) : FSpec Tryz.prog 237 0 [] [cfD caps sts th, di n] (ri (thrA caps n 4)) [] := by
  refine (fspec_intro pk (fn := Tryz.f237) (fun _ _ => rfl) Tryz.func237 rfl (by decide) (cwp_ev pk ?_))
  refine w_call (sp_thread hc sts th n h0 h1) rfl rfl rfl ?_
  refine w_done (done0 (.inr rfl) rfl (frT_v (congrArg i64 ?_)))
  have := baseC_le8 caps caps.length hc.len
  show wI (thrA caps n 0 + 4) = _
  unfold thrA
  rw [wI_id (by omega) (by omega)]; omega
theorem sp_LOut {caps : List Int} (hc : WfC caps) (sts : V) (th n i : Int) (h0 : -1000000000000 ≤ n) (h1 : n ≤ 1000000000000) (h2 : -1000000000000 ≤ i) (h3 : i ≤ 1000000000000) : FSpec Tryz.prog 215 0 [] [cfD caps sts th, di n, di i] (ri (thrA caps n (5 + i))) [] := by
  refine (fspec_intro pk (fn := Tryz.f215) (fun _ _ => rfl) Tryz.func215 rfl (by decide) (cwp_ev pk ?_))
  refine w_call (sp_thread hc sts th n h0 h1) rfl rfl rfl ?_
  refine w_done (done0 (.inr rfl) rfl (frT_v (congrArg i64 ?_)))
  have := baseC_le8 caps caps.length hc.len
  show wI (wI (thrA caps n 0 + 5) + i) = _
  unfold thrA
  rw [wI_id (n := _ + 5) (by omega) (by omega), wI_id (by omega) (by omega)]; omega
theorem sp_ReceiverList (caps : List Int) (sts : V) (th ch : Int) (h0 : -1000000000000 ≤ ch) (h1 : ch ≤ 1000000000000) : FSpec Tryz.prog 274 0 [] [cfD caps sts th, di ch] (ri (2 * ch + 0)) [] := by
  refine (fspec_intro pk (fn := Tryz.f274) (fun _ _ => rfl) Tryz.func274 rfl (by decide) (cwp_ev pk ?_))
  refine w_done (done0 (.inr rfl) rfl (frT_v (congrArg i64 ?_)))
  show wI (2 * ch) = _
  rw [wI_id (by omega) (by omega)]; omega
theorem sp_SenderList (caps : List Int) (sts : V) (th ch : Int) (h0 : -1000000000000 ≤ ch) (h1 : ch ≤ 1000000000000) : FSpec Tryz.prog 219 0 [] [cfD caps sts th, di ch] (ri (2 * ch + 1)) [] := by
  refine (fspec_intro pk (fn := Tryz.f219) (fun _ _ => rfl) Tryz.func219 rfl (by decide) (cwp_ev pk ?_))
  refine w_done (done0 (.inr rfl) rfl (frT_v (congrArg i64 ?_)))
  show wI (wI (2 * ch) + 1) = _
  rw [wI_id (n := 2 * ch) (by omega) (by omega), wI_id (by omega) (by omega)]
theorem aU_mask {x : Int} (h0 : 0 ≤ x) (h1 : x < 18446744073709551616) : aU x 9223372036854775807 = x % 9223372036854775808 := by
  have h := bits_mask .u64 64 (by decide) (fun n h0 h1 => by rw [IntKind.wrap_u64]; omega) 63 (by decide) x h0 (by simpa using h1)
  simpa using h
theorem seqSlot_le (seq size : Int) (h0 : 0 ≤ seq) (h1 : seq < 18446744073709551616) (hs : size < 1000000) : 0 ≤ seqSlot seq size ∧ seqSlot seq size < max size 1 := by
  unfold seqSlot
  split
  · omega
  · rw [aU_mask h0 h1, wU_id (by omega) (by omega)]
    have h2 : 0 ≤ seq % 9223372036854775808 := by omega
    rw [Int.tmod_eq_emod_of_nonneg h2]
    have h3 := Int.emod_nonneg (seq % 9223372036854775808) (b := size) (by omega)
    have h4 := Int.emod_lt_of_pos (seq % 9223372036854775808) (b := size) (by omega)
    rw [wI_id (by omega) (by omega)]
    omega
theorem sp_slot {caps : List Int} (hc : WfC caps) (sts : V) (th ch seq : Int) (h0 : 0 ≤ seq) (h1 : seq < 18446744073709551616) : FSpec Tryz.prog 178 0 [] [cfD caps sts th, di ch, du seq] (ri (slotA caps ch seq)) [] := by
  refine (fspec_intro pk (fn := Tryz.f178) (fun _ _ => rfl) Tryz.func178 rfl (by decide) (cwp_ev pk ?_))
  refine w_br (fun h => ?_) fun h => ?_
  · repeat refine w_brT ?_
    simp at h
    refine w_done (done0 (.inr rfl) rfl (frT_v (congrArg i64 ?_)))
    unfold slotA; rw [if_pos (.inl h)]
  · simp at h
    repeat refine w_brF ?_
    refine w_br (fun h2 => ?_) fun h2 => ?_
    · simp at h2
      refine w_done (done0 (.inr rfl) rfl (frT_v (congrArg i64 ?_)))
      unfold slotA; rw [if_pos (.inr h2)]
    · simp at h2
      refine w_call (sp_base hc sts th ch) rfl rfl rfl ?_
      refine w_call (sp_lsize hc sts th ch h (by omega)) rfl rfl rfl ?_
      have h3 := sizeC_le (caps.getD ch.toNat 0)
      refine w_call (sp_seqSlot seq _ (by omega)) rfl rfl rfl ?_
      refine w_chk ⟨by kernel_rfl, by kernel_rfl⟩ ?_
      refine w_done (done0 (.inr rfl) rfl (frT_v (congrArg i64 ?_)))
      have h4 := baseC_le8 caps ch.toNat hc.len
      have h5 := seqSlot_le seq (sizeC (caps.getD ch.toNat 0)) h0 h1 (by omega)
      show wI (wI (baseC caps ch.toNat + 5) + wI (2 * seqSlot seq (sizeC (caps.getD ch.toNat 0)))) = _
      rw [wI_id (n := _ + 5) (by omega) (by omega), wI_id (n := 2 * _) (by omega) (by omega), wI_id (by omega) (by omega)]
      unfold slotA; rw [if_neg (by omega)]
theorem sp_SlotSeq {caps : List Int} (hc : WfC caps) (sts : V) (th ch seq : Int) (h0 : 0 ≤ seq) (h1 : seq < 18446744073709551616) : FSpec Tryz.prog 142 0 [] [cfD caps sts th, di ch, du seq] (ri (slotA caps ch seq)) [] := by
  refine (fspec_intro pk (fn := Tryz.f142) (fun _ _ => rfl) Tryz.func142 rfl (by decide) (cwp_ev pk ?_))
  refine w_call (sp_slot hc sts th ch seq h0 h1) rfl rfl rfl ?_
  exact w_done (done0 (.inr rfl) rfl (frT_v rfl))

/-! waitlist -/
def recThread (r : Int) : Int := if r < 0 then -1 else r / 6
def recCase (r : Int) : Int := if r < 0 then -1 else r % 6
def recOf (t i : Int) : Int := if t < 0 ∨ t ≥ 8 ∨ i < 0 ∨ i ≥ 6 then -1 else t * 6 + i
theorem sp_recThread (r : Int) (hr : r < 9223372036854775808) : FSpec Tryz.prog 204 0 [] [di r] (ri (recThread r)) [] := by
  refine (fspec_intro pk (fn := Tryz.f204) (fun _ _ => rfl) Tryz.func204 rfl (by decide) (cwp_ev pk ?_))
  refine w_br (fun h => ?_) fun h => ?_
  · simp at h
    refine w_done (done0 (.inr rfl) rfl (frT_v (congrArg i64 ?_)))
    unfold recThread; rw [if_pos h]
  · simp at h
    refine w_chk (by decide) ?_
    refine w_done (done0 (.inr rfl) rfl (frT_v (congrArg i64 ?_)))
    show wI (r.tdiv 6) = _
    unfold recThread; rw [if_neg (by omega), Int.tdiv_eq_ediv_of_nonneg h, wI_id (by omega) (by omega)]
theorem sp_recCase (r : Int) (hr : r < 9223372036854775808) : FSpec Tryz.prog 205 0 [] [di r] (ri (recCase r)) [] := by
  refine (fspec_intro pk (fn := Tryz.f205) (fun _ _ => rfl) Tryz.func205 rfl (by decide) (cwp_ev pk ?_))
  refine w_br (fun h => ?_) fun h => ?_
  · simp at h
    refine w_done (done0 (.inr rfl) rfl (frT_v (congrArg i64 ?_)))
    unfold recCase; rw [if_pos h]
  · simp at h
    refine w_chk (by decide) ?_
    refine w_done (done0 (.inr rfl) rfl (frT_v (congrArg i64 ?_)))
    show r.tmod 6 = _
    unfold recCase; rw [if_neg (by omega), Int.tmod_eq_emod_of_nonneg h]
theorem sp_Record (t i : Int) : FSpec Tryz.prog 283 0 [] [di t, di i] (ri (recOf t i)) [] := by
  refine (fspec_intro pk (fn := Tryz.f283) (fun _ _ => rfl) Tryz.func283 rfl (by decide) (cwp_ev pk ?_))
  have bad : ∀ (h : t < 0 ∨ t ≥ 8 ∨ i < 0 ∨ i ≥ 6), recOf t i = -1 := fun h => by unfold recOf; rw [if_pos h]
  refine w_br (fun h => ?_) fun h => ?_
  · simp at h
    repeat (first | refine w_brT ?_ | refine w_brF ?_)
    exact w_done (done0 (.inr rfl) rfl (frT_v (congrArg i64 (bad (by omega)).symm)))
  simp at h
  repeat (first | refine w_brT ?_ | refine w_brF ?_)
  refine w_br (fun h2 => ?_) fun h2 => ?_
  · simp at h2
    repeat (first | refine w_brT ?_ | refine w_brF ?_)
    exact w_done (done0 (.inr rfl) rfl (frT_v (congrArg i64 (bad (by omega)).symm)))
  simp at h2
  repeat (first | refine w_brT ?_ | refine w_brF ?_)
  refine w_br (fun h3 => ?_) fun h3 => ?_
  · simp at h3
    repeat (first | refine w_brT ?_ | refine w_brF ?_)
    exact w_done (done0 (.inr rfl) rfl (frT_v (congrArg i64 (bad (by omega)).symm)))
  simp at h3
  repeat (first | refine w_brT ?_ | refine w_brF ?_)
  refine w_br (fun h4 => ?_) fun h4 => ?_
  · simp at h4
    exact w_done (done0 (.inr rfl) rfl (frT_v (congrArg i64 (bad (by omega)).symm)))
  simp at h4
  refine w_done (done0 (.inr rfl) rfl (frT_v (congrArg i64 ?_)))
  show wI (wI (t * 6) + i) = _
  unfold recOf
  rw [if_neg (by omega), wI_id (n := t * 6) (by omega) (by omega), wI_id (by omega) (by omega)]
end Gx
