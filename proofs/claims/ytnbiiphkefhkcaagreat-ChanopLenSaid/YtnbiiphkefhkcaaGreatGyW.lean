import Derived.Test.YtnbiiphkefhkcaaGreatGyV
set_option linter.unusedVariables false
set_option linter.unusedSimpArgs false
set_option maxRecDepth 100000
set_option maxHeartbeats 2000000
namespace Gx
open Go Go.Proofs
attribute [local irreducible] WpT

/-! the document's layout -/
theorem sp_r1Size (c : Int) (h0 : 0 ≤ c) (h1 : c ≤ 16) : FSpec Tryz.prog 117 0 [] [di c] (ri (sizeC c)) [] := by
  refine (fspec_intro pk (fn := Tryz.f117) (fun _ _ => rfl) Tryz.func117 rfl (by decide) (cwp_ev pk ?_))
  refine w_br (fun h => by simp at h; omega) fun _ => ?_
  refine w_br (fun h => ?_) fun h => ?_
  · simp at h; subst h
    exact w_done (done0 (.inr rfl) rfl (frT_v rfl))
  simp at h
  refine w_code (J := fun e s => e = .exit 0 ∧ s = ⟨[(3, ri (sizeC c))], [], 100, 14⟩) (cwp_loop_up (n := 6) ?_) ?_
  · have round : ∀ (n : Nat) (k : Int), (k < c → Lp Tryz.prog (loopN Tryz.f117 0) n ⟨[(0, ri c), (3, ri (wI (k * 2)))], [], 100, 14⟩ (Up fun e s => e = .exit 0 ∧ s = ⟨[(3, ri (sizeC c))], [], 100, 14⟩)) → (c ≤ k → k = sizeC c) →
        Lp Tryz.prog (loopN Tryz.f117 0) (n + 1) ⟨[(0, ri c), (3, ri k)], [], 100, 14⟩ (Up fun e s => e = .exit 0 ∧ s = ⟨[(3, ri (sizeC c))], [], 100, 14⟩) := by
      intro n k h2 h3
      refine lp_step pk ?_
      refine w_br (fun h => ?_) fun h => ?_
      · simp at h
        exact w_done (lp_pick [0, 3] [] 100 rfl trivial (h2 h))
      · simp at h
        rw [← h3 h]
        exact w_done (up_of [3] [] 100 rfl trivial ⟨rfl, rfl⟩)
    refine lp_pick (s0 := ⟨[(0, ri c), (3, ri 1)], [], 100, 14⟩) [0, 3] [] 100 rfl trivial ?_
    refine round 5 1 (fun _ => round 4 2 (fun _ => round 3 4 (fun _ => round 2 8 (fun _ => round 1 16 (fun _ => by omega) ?_) ?_) ?_) ?_) ?_ <;> intro h <;> unfold sizeC <;> repeat' split <;> omega
  · rintro _ _ ⟨rfl, rfl⟩
    exact w_done (done0 (.inr rfl) rfl (frT_v rfl))
theorem sp_r1Slot (seq size : Int) (h0 : size < 9223372036854775808) : FSpec Tryz.prog 115 0 [] [du seq, di size] (ri (seqSlot seq size)) [] := by
  refine (fspec_intro pk (fn := Tryz.f115) (fun _ _ => rfl) Tryz.func115 rfl (by decide) (cwp_ev pk ?_))
  refine w_br ?_ ?_
  · intro h
    refine w_done (done0 (.inr rfl) rfl (frT_v ?_))
    simp at h; simp [seqSlot, h]
  · intro h
    refine w_chk ?_ ?_
    · simp at h; show wU size ≠ 0; rw [wU_id (by omega) (by omega)]; omega
    refine w_done (done0 (.inr rfl) rfl (frT_v ?_))
    simp at h; simp [seqSlot]; omega
theorem sp_r1Next (seq n : Int) : FSpec Tryz.prog 68 0 [] [du seq, di n] (ru (seqNext seq n)) [] := by
  refine (fspec_intro pk (fn := Tryz.f68) (fun _ _ => rfl) Tryz.func68 rfl (by decide) (cwp_ev pk ?_))
  exact w_done (leafU rfl rfl)
theorem sp_r1Seq (w : Int) : FSpec Tryz.prog 116 0 [] [du w] (ru (seqSeq w)) [] := by
  refine (fspec_intro pk (fn := Tryz.f116) (fun _ _ => rfl) Tryz.func116 rfl (by decide) (cwp_ev pk ?_))
  refine w_chk (by decide) ?_
  exact w_done (leafU rfl rfl)
theorem sp_r1Closed (w : Int) : FSpec Tryz.prog 118 0 [] [du w] (rb (seqClosed w)) [] := by
  refine (fspec_intro pk (fn := Tryz.f118) (fun _ _ => rfl) Tryz.func118 rfl (by decide) (cwp_ev pk ?_))
  exact w_done (leafB rfl rfl)
theorem sp_r1Pack (seq : Int) (c : Bool) : FSpec Tryz.prog 67 0 [] [du seq, db c] (ru (seqPack seq c)) [] := by
  refine (fspec_intro pk (fn := Tryz.f67) (fun _ _ => rfl) Tryz.func67 rfl (by decide) (cwp_ev pk ?_))
  refine w_br (fun h => ?_) fun h => ?_
  · subst h
    refine w_chk (by decide) ?_
    exact w_done (leafU rfl rfl)
  · subst h
    refine w_chk (by decide) ?_
    exact w_done (leafU rfl rfl)
def restU (a b : Int) : Int := aU (wU (a - b)) 9223372036854775807
theorem sp_r1Rest (a b : Int) : FSpec Tryz.prog 119 0 [] [du a, du b] (ru (restU a b)) [] := by
  refine (fspec_intro pk (fn := Tryz.f119) (fun _ _ => rfl) Tryz.func119 rfl (by decide) (cwp_ev pk ?_))
  exact w_done (leafU rfl rfl)
section
variable {caps : List Int} (hc : WfC caps) (sts : V) (th : Int)
include hc
theorem sp_r4Size (i : Int) (h0 : 0 ≤ i) (h1 : i < caps.length) : FSpec Tryz.prog 70 0 [] [cfD caps sts th, di i] (ri (sizeC (caps.getD i.toNat 0))) [] := by
  refine (fspec_intro pk (fn := Tryz.f70) (fun _ _ => rfl) Tryz.func70 rfl (by decide) (cwp_ev pk ?_))
  refine w_chk ⟨h0, h1⟩ ?_
  refine w_rdv (takeN_one (getI (i := i.toNat) (by omega))) ?_
  refine w_call (sp_r1Size _ (hc.get _).1 (hc.get _).2) rfl rfl rfl ?_
  exact w_done (leafI rfl rfl)
theorem sp_r4Tail (ch : Int) (hch : ch ≤ caps.length) : FSpec Tryz.prog 61 0 [] [cfD caps sts th, di ch] (ri (baseC caps ch.toNat)) [] := by
  refine (fspec_intro pk (fn := Tryz.f61) (fun _ _ => rfl) Tryz.func61 rfl (by decide) (cwp_ev pk ?_))
  refine w_code (J := fun e s => e = .exit 0 ∧ s = ⟨[(5, ri (baseC caps ch.toNat))], [], 100, 20⟩) (cwp_loop_up (n := caps.length + 1) ?_) ?_
  · have hlen := hc.len
    have loop : ∀ (n i : Nat), i + n = caps.length → i ≤ ch.toNat → Lp Tryz.prog (loopN Tryz.f61 0) (n + 1)
        ⟨[(1, ri ch), (2, .d (.sc (.ptr 64 0))), (5, ri (baseC caps i)), (6, ri i)], [(64, some (.var (cfC caps sts th)))], 100, 20⟩ (Up fun e s => e = .exit 0 ∧ s = ⟨[(5, ri (baseC caps ch.toNat))], [], 100, 20⟩) := by
      intro n
      induction n with
      | zero =>
        intro i hi hle
        refine lp_step pk (w_br (fun h => by simp at h; omega) fun h => ?_)
        simp at h
        refine w_done (up_of (s0 := ⟨[(5, ri (baseC caps ch.toNat))], [], 100, 20⟩) [5] [] 100 ?_ trivial ⟨rfl, rfl⟩)
        have : i = ch.toNat := by omega
        subst this; rfl
      | succ n ih =>
        intro i hi hle
        refine lp_step pk (w_br (fun h => ?_) fun h => ?_)
        · simp at h
          refine w_call (sp_r4Size hc sts th i (by omega) (by omega)) rfl rfl rfl ?_
          have e1 : wI (baseC caps i + wI (5 + wI (2 * sizeC (caps.getD (i : Int).toNat 0)))) = baseC caps (i + 1) := by
            have h3 := sizeC_le (caps.getD i 0)
            have h4 := baseC_le8 caps i hlen
            rw [baseC_succ caps i (by omega), Int.toNat_natCast, wI_id (n := 2 * _) (by omega) (by omega), wI_id (n := 5 + _) (by omega) (by omega), wI_id (by omega) (by omega)]
          have e2 : wI ((i : Int) + 1) = ((i + 1 : Nat) : Int) := by rw [wI_id (by omega) (by omega)]; omega
          have := ih (i + 1) (by omega) (by omega)
          rw [← e1, ← e2] at this
          exact w_done (lp_pick [1, 2, 5, 6] [64] 100 rfl (clB_of rfl) this)
        · simp at h
          refine w_done (up_of (s0 := ⟨[(5, ri (baseC caps ch.toNat))], [], 100, 20⟩) [5] [] 100 ?_ trivial ⟨rfl, rfl⟩)
          have : i = ch.toNat := by omega
          subst this; rfl
    exact lp_pick [1, 2, 5, 6] [64] 100 (by rw [show ri (baseC caps 0) = ri 0 by rw [baseC_zero]]; rfl) (clB_of rfl) (loop caps.length 0 (by omega) (by omega))
  · rintro _ _ ⟨rfl, rfl⟩
    exact w_done (leafI rfl rfl)
theorem sp_r4Head (ch : Int) (hch : ch ≤ caps.length) : FSpec Tryz.prog 62 0 [] [cfD caps sts th, di ch] (ri (baseC caps ch.toNat + 1)) [] := by
  have := baseC_le8 caps ch.toNat hc.len
  refine (fspec_intro pk (fn := Tryz.f62) (fun _ _ => rfl) Tryz.func62 rfl (by decide) (cwp_ev pk ?_))
  refine w_call (sp_r4Tail hc sts th ch hch) rfl rfl rfl ?_
  exact w_done (leafI rfl (wI_id (by omega) (by omega)))
theorem sp_r4SlotSeq (ch seq : Int) (h0 : 0 ≤ ch) (hch : ch < caps.length) : FSpec Tryz.prog 65 0 [] [cfD caps sts th, di ch, du seq] (ri (wI (wI (baseC caps ch.toNat + 5) + wI (2 * seqSlot seq (sizeC (caps.getD ch.toNat 0)))))) [] := by
  have := sizeC_le (caps.getD ch.toNat 0)
  refine (fspec_intro pk (fn := Tryz.f65) (fun _ _ => rfl) Tryz.func65 rfl (by decide) (cwp_ev pk ?_))
  refine w_call (sp_r4Tail hc sts th ch (by omega)) rfl rfl rfl ?_
  refine w_call (sp_r4Size hc sts th ch h0 hch) rfl rfl rfl ?_
  refine w_call (sp_r1Slot seq _ (by omega)) rfl rfl rfl ?_
  refine w_chk ⟨by kernel_rfl, by kernel_rfl⟩ ?_
  exact w_done (leafI rfl rfl)
theorem sp_r4Claim (n : Int) : FSpec Tryz.prog 71 0 [] [cfD caps sts th, di n] (ri (wI (baseC caps caps.length + wI (n * 11)))) [] := by
  refine (fspec_intro pk (fn := Tryz.f71) (fun _ _ => rfl) Tryz.func71 rfl (by decide) (cwp_ev pk ?_))
  refine w_call (sp_r4Tail hc sts th (caps.length : Int) (by omega)) rfl rfl rfl ?_
  exact w_done (leafI rfl rfl)
theorem sp_r4Words : FSpec Tryz.prog 84 0 [] [cfD caps sts th] (ri (wI (baseC caps caps.length + wI (th * 11)))) [] := by
  refine (fspec_intro pk (fn := Tryz.f84) (fun _ _ => rfl) Tryz.func84 rfl (by decide) (cwp_ev pk ?_))
  refine w_call (sp_r4Claim hc sts th th) rfl rfl rfl ?_
  exact w_done (leafI rfl rfl)
end
theorem sp_one : FSpec Tryz.prog 56 0 [] [] (.d (cfD [1] (rowU [0]) 2)) [] := by
  refine (fspec_intro pk (fn := Tryz.f56) (fun _ _ => rfl) Tryz.func56 rfl (by decide) (cwp_ev pk ?_))
  exact w_done (done0 (.inr rfl) rfl (frT_agg (frLs_cons (fr_mc rfl) (frLs_cons (fr_mc rfl) (frLs_cons (fr_v rfl) frLs_nil)))))
end Gx
