import Derived.Test.YtnbiiphkefhkcaaGreatGyA
set_option linter.unusedVariables false
set_option linter.unusedSimpArgs false
set_option maxRecDepth 100000
namespace Gx
open Go Go.Proofs

/-! seqword.Size -/
def sizeC (c : Int) : Int := if c ≤ 0 then 1 else if c ≤ 2 then 2 else if c ≤ 4 then 4 else if c ≤ 8 then 8 else 16
theorem sp_Size (c : Int) (h0 : 0 ≤ c) (h1 : c ≤ 16) : FSpec Tryz.prog 177 0 [] [di c] (ri (sizeC c)) [] := by
  refine fspec_intro pk (fn := Tryz.f177) (fun _ _ => rfl) Tryz.func177 rfl (by decide) (cwp_ev pk ?_)
  refine w_br (fun h => by simp at h; omega) fun _ => ?_
  refine w_br (fun h => ?_) fun h => ?_
  · simp at h; subst h
    exact w_done (done0 (.inr rfl) rfl (frT_v rfl))
  simp at h
  refine w_code (J := fun e s => e = .exit 0 ∧ s = ⟨[(3, ri (sizeC c))], [], 100, 14⟩) (cwp_loop_up (n := 6) ?_) ?_
  · have round : ∀ (n : Nat) (k : Int), (k < c → Lp Tryz.prog (loopN Tryz.f177 0) n ⟨[(0, ri c), (3, ri (wI (k * 2 ^ (min 1 64))))], [], 100, 14⟩ (Up fun e s => e = .exit 0 ∧ s = ⟨[(3, ri (sizeC c))], [], 100, 14⟩)) → (c ≤ k → k = sizeC c) →
        Lp Tryz.prog (loopN Tryz.f177 0) (n + 1) ⟨[(0, ri c), (3, ri k)], [], 100, 14⟩ (Up fun e s => e = .exit 0 ∧ s = ⟨[(3, ri (sizeC c))], [], 100, 14⟩) := by
      intro n k h2 h3
      refine lp_step pk ?_
      refine w_br (fun h => ?_) fun h => ?_
      · simp at h
        refine w_chk (by decide) ?_
        exact w_done (lp_pick [0, 3] [] 100 rfl trivial (h2 h))
      · simp at h
        rw [← h3 h]
        exact w_done (up_of [3] [] 100 rfl trivial ⟨rfl, rfl⟩)
    refine lp_pick (s0 := ⟨[(0, ri c), (3, ri 1)], [], 100, 14⟩) [0, 3] [] 100 rfl trivial ?_
    refine round 5 1 (fun _ => round 4 2 (fun _ => round 3 4 (fun _ => round 2 8 (fun _ => round 1 16 (fun _ => by omega) ?_) ?_) ?_) ?_) ?_ <;> intro h <;> unfold sizeC <;> repeat' split <;> omega
  · rintro _ _ ⟨rfl, rfl⟩
    exact w_done (done0 (.inr rfl) rfl (frT_v rfl))

/-! layout -/
abbrev cfC (caps : List Int) (sts : V) (th : Int) : List S := [.v (rowI caps), .v sts, .v (i64 th)]
abbrev cfD (caps : List Int) (sts : V) (th : Int) : D := .agg (cfC caps sts th)
structure WfC (caps : List Int) : Prop where
  len : caps.length ≤ 8
  cap : ∀ c, c ∈ caps → 0 ≤ c ∧ c ≤ 16
theorem sizeC_le (c : Int) : 1 ≤ sizeC c ∧ sizeC c ≤ 16 := by unfold sizeC; repeat' split <;> omega
theorem WfC.get {caps : List Int} (h : WfC caps) (i : Nat) : 0 ≤ caps.getD i 0 ∧ caps.getD i 0 ≤ 16 := by
  rw [List.getD_eq_getElem?_getD]
  cases hi : caps[i]? with
  | none => simp
  | some c => simpa using h.cap c (List.mem_of_getElem? hi)
def baseC : List Int → Nat → Int
  | [], _ => 0
  | _, 0 => 0
  | c :: r, k + 1 => 5 + 2 * sizeC c + baseC r k
theorem baseC_zero (l : List Int) : baseC l 0 = 0 := by cases l <;> rfl
theorem baseC_succ : ∀ (l : List Int) (k : Nat), k < l.length → baseC l (k + 1) = baseC l k + (5 + 2 * sizeC (l.getD k 0))
  | [], k, h => by simp at h
  | c :: r, 0, h => by simp only [baseC, baseC_zero]; simp
  | c :: r, k + 1, h => by
    have := baseC_succ r k (by simpa using h)
    simp only [baseC] at this ⊢
    rw [this]
    simp only [List.getD_cons_succ]
    omega
theorem baseC_le : ∀ (l : List Int) (k : Nat), 0 ≤ baseC l k ∧ baseC l k ≤ 37 * k
  | [], k => by simp only [baseC]; omega
  | c :: r, 0 => by simp [baseC]
  | c :: r, k + 1 => by
    have := baseC_le r k
    have := sizeC_le c
    simp only [baseC]; omega
theorem baseC_big : ∀ (l : List Int) (k : Nat), l.length ≤ k → baseC l k = baseC l l.length
  | [], k, _ => rfl
  | c :: r, 0, h => by simp at h
  | c :: r, k + 1, h => by
    have := baseC_big r k (by simpa using h)
    simp only [baseC, List.length_cons, this]
theorem baseC_le8 (l : List Int) (k : Nat) (h : l.length ≤ 8) : 0 ≤ baseC l k ∧ baseC l k ≤ 296 := by
  by_cases hk : k ≤ 8
  · have := baseC_le l k; omega
  · rw [baseC_big l k (by omega)]; have := baseC_le l l.length; omega
theorem getI {l : List Int} {i : Nat} (h : i < l.length) : (l.map i64)[i * 1]? = some (i64 (l.getD i 0)) := by
  rw [Nat.mul_one, List.getElem?_map, List.getD_eq_getElem?_getD, List.getElem?_eq_getElem h]; rfl
theorem getU {l : List Int} {i : Nat} (h : i < l.length) : (l.map u64)[i * 1]? = some (u64 (l.getD i 0)) := by
  rw [Nat.mul_one, List.getElem?_map, List.getD_eq_getElem?_getD, List.getElem?_eq_getElem h]; rfl

theorem sp_lsize {caps : List Int} (hc : WfC caps) (sts : V) (th : Int) (i : Int) (h0 : 0 ≤ i) (h1 : i < caps.length) :
    FSpec Tryz.prog 140 0 [] [cfD caps sts th, di i] (ri (sizeC (caps.getD i.toNat 0))) [] := by
  refine fspec_intro pk (fn := Tryz.f140) (fun _ _ => rfl) Tryz.func140 rfl (by decide) (cwp_ev pk ?_)
  refine w_chk ⟨h0, h1⟩ ?_
  refine w_rdv (takeN_one (getI (i := i.toNat) (by omega))) ?_
  refine w_call (sp_Size _ (hc.get _).1 (hc.get _).2) rfl rfl rfl ?_
  exact w_done (done0 (.inr rfl) rfl (frT_v rfl))

theorem sp_base {caps : List Int} (hc : WfC caps) (sts : V) (th ch : Int) :
    FSpec Tryz.prog 176 0 [] [cfD caps sts th, di ch] (ri (baseC caps ch.toNat)) [] := by
  refine fspec_intro pk (fn := Tryz.f176) (fun _ _ => rfl) Tryz.func176 rfl (by decide) (cwp_ev pk ?_)
  refine w_code (J := fun e s => e = .exit 0 ∧ s = ⟨[(5, ri (baseC caps ch.toNat))], [], 100, 27⟩) (cwp_loop_up (n := caps.length + 1) ?_) ?_
  · have hlen := hc.len
    have loop : ∀ (n i : Nat), i + n = caps.length → i ≤ ch.toNat → Lp Tryz.prog (loopN Tryz.f176 0) (n + 1)
        ⟨[(1, ri ch), (2, .d (.sc (.ptr 64 0))), (5, ri (baseC caps i)), (6, ri i)], [(64, some (.var (cfC caps sts th)))], 100, 27⟩ (Up fun e s => e = .exit 0 ∧ s = ⟨[(5, ri (baseC caps ch.toNat))], [], 100, 27⟩) := by
      intro n
      induction n with
      | zero =>
        intro i hi hle
        refine lp_step pk (w_br (fun h => ?_) fun h => ?_)
        · repeat refine w_brT ?_
          refine w_br (fun h => ?_) fun h => ?_
          · simp at h; omega
          · refine w_done (up_of (s0 := ⟨[(5, ri (baseC caps ch.toNat))], [], 100, 27⟩) [5] [] 100 ?_ trivial ⟨rfl, rfl⟩)
            rw [baseC_big caps ch.toNat (by omega)]
            have : i = caps.length := by omega
            subst this; rfl
        · simp at h
          repeat refine w_brF ?_
          refine w_done (up_of (s0 := ⟨[(5, ri (baseC caps ch.toNat))], [], 100, 27⟩) [5] [] 100 ?_ trivial ⟨rfl, rfl⟩)
          have : i = ch.toNat := by omega
          subst this; rfl
      | succ n ih =>
        intro i hi hle
        refine lp_step pk (w_br (fun h => ?_) fun h => ?_)
        · simp at h
          repeat refine w_brT ?_
          refine w_br (fun h2 => ?_) fun h2 => by simp at h2; omega
          refine w_call (sp_lsize hc sts th i (by omega) (by omega)) rfl rfl rfl ?_
          have e1 : wI (baseC caps i + wI (5 + wI (2 * sizeC (caps.getD (i : Int).toNat 0)))) = baseC caps (i + 1) := by
            have h3 := sizeC_le (caps.getD i 0)
            have h4 := baseC_le8 caps i hlen
            rw [baseC_succ caps i (by omega), Int.toNat_natCast, wI_id (n := 2 * _) (by omega) (by omega), wI_id (n := 5 + _) (by omega) (by omega), wI_id (by omega) (by omega)]
          have e2 : wI ((i : Int) + 1) = ((i + 1 : Nat) : Int) := by rw [wI_id (by omega) (by omega)]; omega
          have := ih (i + 1) (by omega) (by omega)
          rw [← e1, ← e2] at this
          exact w_done (lp_pick [1, 2, 5, 6] [64] 100 rfl (clB_of rfl) this)
        · simp at h
          repeat refine w_brF ?_
          refine w_done (up_of (s0 := ⟨[(5, ri (baseC caps ch.toNat))], [], 100, 27⟩) [5] [] 100 ?_ trivial ⟨rfl, rfl⟩)
          have : i = ch.toNat := by omega
          subst this; rfl
    exact lp_pick [1, 2, 5, 6] [64] 100 (by rw [show ri (baseC caps 0) = ri 0 by rw [baseC_zero]]; rfl) (clB_of rfl) (loop caps.length 0 (by omega) (by omega))
  · rintro _ _ ⟨rfl, rfl⟩
    exact w_done (done0 (.inr rfl) rfl (frT_v rfl))
end Gx
