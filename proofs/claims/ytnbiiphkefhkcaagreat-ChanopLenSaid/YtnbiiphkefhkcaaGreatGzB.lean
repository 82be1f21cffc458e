import Derived.Test.YtnbiiphkefhkcaaGreatGzA
set_option linter.unusedVariables false
set_option linter.unusedSimpArgs false
set_option maxRecDepth 100000
set_option maxHeartbeats 2000000
namespace Gx
open Go Go.Proofs
attribute [local irreducible] WpT

/-! a configuration out of choices -/
theorem nxA_pos (l : List Int) (a : Int) (h : 0 ≤ a) : 0 ≤ nxA l a := by unfold nxA; split <;> omega
def stV (x y : Int) : Int := (wU (wU (wU x * 2 ^ (min 55 64)) + wU y)).tmod 9223372036854775808
abbrev zcf : Blk := .var [.xrow [] 0, .xrow [] 0, .v (i64 0)]
def clA (l : List S) : Prop := ∀ σ, ∀ x, x ∈ l → S.clk σ x = true
theorem clA_nil : clA [] := fun σ x h => by simp at h
theorem clA_app {l : List S} {y : V} (h : clA l) : clA (l ++ [.v y]) := fun σ x hx => by
  simp at hx
  rcases hx with hx | rfl
  · exact h σ x hx
  · rfl
abbrev wdN (l : List Int) (a v i : Int) : St :=
  ⟨[(0, .d (.sc (.ptr 0 0))), (2, .d (.sc (.ptr 64 0))), (3, .d (.sc (.ptr 68 0))), (4, ri i)], [(0, some (.var (cdC l a v))), (64, some zcf), (68, some zcf)], 1000, 37⟩
abbrev wdE (l : List Int) (a v i : Int) (n : Nat) (C X : List S) : St :=
  ⟨[(0, .d (.sc (.ptr 0 0))), (2, .d (.sc (.ptr 64 0))), (3, .d (.sc (.ptr 68 0))), (4, ri i)], [(0, some (.var (cdC l a v))), (64, some zcf), (68, some (.var [.mrow 1036 0 n none 1 false, .mrow 1096 0 n none 1 false, .v (i64 0)])), (1036, some (.arr C)), (1096, some (.arr X))], 2000, 37⟩
abbrev wdO (l : List Int) (a v i : Int) (n : Nat) (C X : List S) : St :=
  ⟨[(0, .d (.sc (.ptr 0 0))), (2, .d (.sc (.ptr 64 0))), (3, .d (.sc (.ptr 68 0))), (4, ri i)], [(0, some (.var (cdC l a v))), (64, some zcf), (68, some (.var [.mrow 2036 0 n none 1 false, .mrow 2096 0 n none 1 false, .v (i64 0)])), (2036, some (.arr C)), (2096, some (.arr X))], 1000, 37⟩
noncomputable abbrev wdL : Code := loopN Tryz.f17 0
abbrev a2' (l : List Int) (a : Int) : Int := nxA l (nxA l a)
abbrev a3' (l : List Int) (a : Int) : Int := nxA l (nxA l (nxA l a))
abbrev a4' (l : List Int) (a : Int) : Int := nxA l (nxA l (nxA l (nxA l a)))
abbrev wcV (l : List Int) (a : Int) : Int := nxV l (nxA l a) 17
abbrev wsV (l : List Int) (a : Int) : Int := stV (nxV l (a2' l a) 256) (nxV l (a3' l a) 256)
theorem wdNE (l : List Int) (a v i : Int) (h0 : 0 ≤ a) (hl : l.length ≤ 100) (ho : i < nxV l a 9) (J : Ex → St → Prop) (m : Nat)
    (h : Lp Tryz.prog wdL m (wdE l (a4' l a) v (wI (i + 1)) 1 [S.v (i64 (wcV l a))] [S.v (u64 (wsV l a))]) J) : Lp Tryz.prog wdL (m + 1) (wdN l a v i) J := by
  have h1 := nxA_pos l _ h0
  have h2 := nxA_pos l _ h1
  have h3 := nxA_pos l _ h2
  refine lp_step pk ?_
  refine w_call1 0 (sp_DNext l a v 9 h0 hl (by decide)) rfl rfl rfl rfl rfl rfl ?_
  refine w_br (fun _ => ?_) fun h => by simp at h; omega
  refine w_call1 0 (sp_DNext l (nxA l a) v 17 h1 hl (by decide)) rfl rfl rfl rfl rfl rfl ?_
  refine w_rd (cs := [.v (i64 (wcV l a))]) rfl ?_
  refine w_chk ⟨by decide, by decide⟩ ?_
  refine w_chkK (true = true ∧ true = true) (by kernel_rfl) (by kernel_rfl) ⟨rfl, rfl⟩ ?_
  refine w_call1 0 (sp_DNext l (a2' l a) v 256 h2 hl (by decide)) rfl rfl rfl rfl rfl rfl ?_
  refine w_chk (by decide) ?_
  refine w_call1 0 (sp_DNext l (a3' l a) v 256 h3 hl (by decide)) rfl rfl rfl rfl rfl rfl ?_
  refine w_chk (by decide) ?_
  refine w_rd (cs := [.v (u64 (wsV l a))]) rfl ?_
  refine w_chk ⟨by decide, by decide⟩ ?_
  refine w_chkK (true = true ∧ true = true) (by kernel_rfl) (by kernel_rfl) ⟨rfl, rfl⟩ ?_
  exact w_done (lp_pick (s0 := wdE l (a4' l a) v (wI (i + 1)) 1 [S.v (i64 (wcV l a))] [S.v (u64 (wsV l a))]) [0, 2, 3, 4] [0, 64, 68, 1036, 1096] 2000 (by kernel_rfl) ⟨clk_all rfl, clk_all rfl, clk_all rfl, clk_all rfl, clk_all rfl, trivial⟩ h)
theorem wdEO (l : List Int) (a v i : Int) (h0 : 0 ≤ a) (hl : l.length ≤ 100) (n : Nat) (C X : List S) (hn : n < 20) (hC : C.length = n) (hX : X.length = n) (kC : clA C) (kX : clA X) (ho : i < nxV l a 9) (J : Ex → St → Prop) (m : Nat)
    (h : Lp Tryz.prog wdL m (wdO l (a4' l a) v (wI (i + 1)) (n + 1) (C ++ [S.v (i64 (wcV l a))]) (X ++ [S.v (u64 (wsV l a))])) J) : Lp Tryz.prog wdL (m + 1) (wdE l a v i n C X) J := by
  have h1 := nxA_pos l _ h0
  have h2 := nxA_pos l _ h1
  have h3 := nxA_pos l _ h2
  refine lp_step pk ?_
  refine w_call1 0 (sp_DNext l a v 9 h0 hl (by decide)) rfl rfl rfl rfl rfl rfl ?_
  refine w_br (fun _ => ?_) fun h => by simp at h; omega
  refine w_call1 0 (sp_DNext l (nxA l a) v 17 h1 hl (by decide)) rfl rfl rfl rfl rfl rfl ?_
  refine w_rd (cs := [.v (i64 (wcV l a))]) rfl ?_
  refine w_chk ⟨fun x hx => by simp at hx; subst hx; rfl, rfl, by show C.length = n * 1; omega, by show (n + 1) * 8 ≤ _; omega, by show n + 1 ≤ _; omega⟩ ?_
  refine w_chkK (true = true ∧ true = true) (by kernel_rfl) (by kernel_rfl) ⟨rfl, rfl⟩ ?_
  refine w_call1 0 (sp_DNext l (a2' l a) v 256 h2 hl (by decide)) rfl rfl rfl rfl rfl rfl ?_
  refine w_chk (by decide) ?_
  refine w_call1 0 (sp_DNext l (a3' l a) v 256 h3 hl (by decide)) rfl rfl rfl rfl rfl rfl ?_
  refine w_chk (by decide) ?_
  refine w_rd (cs := [.v (u64 (wsV l a))]) rfl ?_
  refine w_chk ⟨fun x hx => by simp at hx; subst hx; rfl, rfl, by show X.length = n * 1; omega, by show (n + 1) * 8 ≤ _; omega, by show n + 1 ≤ _; omega⟩ ?_
  refine w_chkK (true = true ∧ true = true) (by kernel_rfl) (by kernel_rfl) ⟨rfl, rfl⟩ ?_
  exact w_done (lp_pick (s0 := wdO l (a4' l a) v (wI (i + 1)) (n + 1) (C ++ [S.v (i64 (wcV l a))]) (X ++ [S.v (u64 (wsV l a))])) [0, 2, 3, 4] [0, 64, 68, 2036, 2096] 1000 (by kernel_rfl) ⟨clk_all rfl, clk_all rfl, clk_all rfl, clA_app (y := i64 (wcV l a)) kC _, clA_app (y := u64 (wsV l a)) kX _, trivial⟩ h)
theorem wdOE (l : List Int) (a v i : Int) (h0 : 0 ≤ a) (hl : l.length ≤ 100) (n : Nat) (C X : List S) (hn : n < 20) (hC : C.length = n) (hX : X.length = n) (kC : clA C) (kX : clA X) (ho : i < nxV l a 9) (J : Ex → St → Prop) (m : Nat)
    (h : Lp Tryz.prog wdL m (wdE l (a4' l a) v (wI (i + 1)) (n + 1) (C ++ [S.v (i64 (wcV l a))]) (X ++ [S.v (u64 (wsV l a))])) J) : Lp Tryz.prog wdL (m + 1) (wdO l a v i n C X) J := by
  have h1 := nxA_pos l _ h0
  have h2 := nxA_pos l _ h1
  have h3 := nxA_pos l _ h2
  refine lp_step pk ?_
  refine w_call1 0 (sp_DNext l a v 9 h0 hl (by decide)) rfl rfl rfl rfl rfl rfl ?_
  refine w_br (fun _ => ?_) fun h => by simp at h; omega
  refine w_call1 0 (sp_DNext l (nxA l a) v 17 h1 hl (by decide)) rfl rfl rfl rfl rfl rfl ?_
  refine w_rd (cs := [.v (i64 (wcV l a))]) rfl ?_
  refine w_chk ⟨fun x hx => by simp at hx; subst hx; rfl, rfl, by show C.length = n * 1; omega, by show (n + 1) * 8 ≤ _; omega, by show n + 1 ≤ _; omega⟩ ?_
  refine w_chkK (true = true ∧ true = true) (by kernel_rfl) (by kernel_rfl) ⟨rfl, rfl⟩ ?_
  refine w_call1 0 (sp_DNext l (a2' l a) v 256 h2 hl (by decide)) rfl rfl rfl rfl rfl rfl ?_
  refine w_chk (by decide) ?_
  refine w_call1 0 (sp_DNext l (a3' l a) v 256 h3 hl (by decide)) rfl rfl rfl rfl rfl rfl ?_
  refine w_chk (by decide) ?_
  refine w_rd (cs := [.v (u64 (wsV l a))]) rfl ?_
  refine w_chk ⟨fun x hx => by simp at hx; subst hx; rfl, rfl, by show X.length = n * 1; omega, by show (n + 1) * 8 ≤ _; omega, by show n + 1 ≤ _; omega⟩ ?_
  refine w_chkK (true = true ∧ true = true) (by kernel_rfl) (by kernel_rfl) ⟨rfl, rfl⟩ ?_
  exact w_done (lp_pick (s0 := wdE l (a4' l a) v (wI (i + 1)) (n + 1) (C ++ [S.v (i64 (wcV l a))]) (X ++ [S.v (u64 (wsV l a))])) [0, 2, 3, 4] [0, 64, 68, 1036, 1096] 2000 (by kernel_rfl) ⟨clk_all rfl, clk_all rfl, clk_all rfl, clA_app (y := i64 (wcV l a)) kC _, clA_app (y := u64 (wsV l a)) kX _, trivial⟩ h)
abbrev wxN (l : List Int) (a v : Int) : St := { wdN l a v 0 with t := [(0, .d (.sc (.ptr 0 0))), (2, .d (.sc (.ptr 64 0))), (3, .d (.sc (.ptr 68 0)))] }
theorem wdNx (l : List Int) (a v i : Int) (h0 : 0 ≤ a) (hl : l.length ≤ 100) (ho : ¬ i < nxV l a 9) (J : Ex → St → Prop) (m : Nat) (h : J (.exit 0) (wxN l (nxA l a) v)) : Lp Tryz.prog wdL (m + 1) (wdN l a v i) (Up J) := by
  refine lp_step pk ?_
  refine w_call1 0 (sp_DNext l a v 9 h0 hl (by decide)) rfl rfl rfl rfl rfl rfl ?_
  refine w_br (fun h => by simp at h; omega) fun _ => ?_
  exact w_done (up_of (s0 := wxN l (nxA l a) v) [0, 2, 3] [0, 64, 68] 1000 (by kernel_rfl) (clB_of rfl) h)
abbrev wxE (l : List Int) (a v : Int) (n : Nat) (C X : List S) : St := { wdE l a v 0 n C X with t := [(0, .d (.sc (.ptr 0 0))), (2, .d (.sc (.ptr 64 0))), (3, .d (.sc (.ptr 68 0)))] }
theorem wdEx (l : List Int) (a v i : Int) (h0 : 0 ≤ a) (hl : l.length ≤ 100) (n : Nat) (C X : List S) (kC : clA C) (kX : clA X) (ho : ¬ i < nxV l a 9) (J : Ex → St → Prop) (m : Nat) (h : J (.exit 0) (wxE l (nxA l a) v n C X)) : Lp Tryz.prog wdL (m + 1) (wdE l a v i n C X) (Up J) := by
  refine lp_step pk ?_
  refine w_call1 0 (sp_DNext l a v 9 h0 hl (by decide)) rfl rfl rfl rfl rfl rfl ?_
  refine w_br (fun h => by simp at h; omega) fun _ => ?_
  exact w_done (up_of (s0 := wxE l (nxA l a) v n C X) [0, 2, 3] [0, 64, 68, 1036, 1096] 2000 (by kernel_rfl) ⟨clk_all rfl, clk_all rfl, clk_all rfl, kC _, kX _, trivial⟩ h)
abbrev wxO (l : List Int) (a v : Int) (n : Nat) (C X : List S) : St := { wdO l a v 0 n C X with t := [(0, .d (.sc (.ptr 0 0))), (2, .d (.sc (.ptr 64 0))), (3, .d (.sc (.ptr 68 0)))] }
theorem wdOx (l : List Int) (a v i : Int) (h0 : 0 ≤ a) (hl : l.length ≤ 100) (n : Nat) (C X : List S) (kC : clA C) (kX : clA X) (ho : ¬ i < nxV l a 9) (J : Ex → St → Prop) (m : Nat) (h : J (.exit 0) (wxO l (nxA l a) v n C X)) : Lp Tryz.prog wdL (m + 1) (wdO l a v i n C X) (Up J) := by
  refine lp_step pk ?_
  refine w_call1 0 (sp_DNext l a v 9 h0 hl (by decide)) rfl rfl rfl rfl rfl rfl ?_
  refine w_br (fun h => by simp at h; omega) fun _ => ?_
  exact w_done (up_of (s0 := wxO l (nxA l a) v n C X) [0, 2, 3] [0, 64, 68, 2036, 2096] 1000 (by kernel_rfl) ⟨clk_all rfl, clk_all rfl, clk_all rfl, kC _, kX _, trivial⟩ h)

def wideM : Nat → List Int → Int → Int → List Int → List Int → List Int × List Int × Int
  | 0, l, _, a, cs, ss => (cs, ss, nxA l a)
  | k + 1, l, i, a, cs, ss => if i < nxV l a 9 then wideM k l (i + 1) (a4' l a) (cs ++ [wcV l a]) (ss ++ [wsV l a]) else (cs, ss, nxA l a)
def vU (l : List Int) : List S := (l.map u64).map S.v
theorem vU_clA (l : List Int) : clA (vU l) := fun σ x hx => by
  simp only [vU, List.mem_map] at hx
  obtain ⟨a, ⟨b, _, rfl⟩, rfl⟩ := hx
  rfl
theorem vI_clA (l : List Int) : clA (vI l) := fun σ => vI_clk σ l
theorem nxV_lt (l : List Int) (a n : Int) (hb : ∀ x, x ∈ l → 0 ≤ x ∧ x < 256) (h0 : 0 < n) : 0 ≤ nxV l a n ∧ nxV l a n < n := by
  unfold nxV
  split
  · have hx : 0 ≤ l.getD a.toNat 0 ∧ l.getD a.toNat 0 < 256 := by
      rw [List.getD_eq_getElem?_getD]
      cases hg : l[a.toNat]? with
      | none => simp
      | some c => simpa using hb c (List.mem_of_getElem? hg)
    rw [wI_id (by omega) (by omega)]
    rw [Int.tmod_eq_emod_of_nonneg hx.1]
    exact ⟨Int.emod_nonneg _ (by omega), Int.emod_lt_of_pos _ h0⟩
  · omega
def wdJ (l : List Int) (v : Int) (X : List Int × List Int × Int) (e : Ex) (s : St) : Prop :=
  e = .exit 0 ∧ X.1.length = X.2.1.length ∧ X.1.length < 20 ∧ ((X.1 = [] ∧ s = wxN l X.2.2 v) ∨ s = wxE l X.2.2 v X.1.length (vI X.1) (vU X.2.1) ∨ s = wxO l X.2.2 v X.1.length (vI X.1) (vU X.2.1))
theorem wd_loop (l : List Int) (v : Int) (hl : l.length ≤ 100) (hb : ∀ x, x ∈ l → 0 ≤ x ∧ x < 256) : ∀ (k : Nat) (i a : Int) (cs ss : List Int), 0 ≤ a → 0 ≤ i → i + k = 9 → cs.length = i → ss.length = i → 0 < i → ∀ b : Bool,
    Lp Tryz.prog wdL (k + 1) (if b then wdE l a v i cs.length (vI cs) (vU ss) else wdO l a v i cs.length (vI cs) (vU ss)) (Up (wdJ l v (wideM k l i a cs ss))) := by
  intro k
  induction k with
  | zero =>
    intro i a cs ss h0 hi hk hc hs h1 b
    have := nxV_lt l a 9 hb (by decide)
    cases b with
    | true => exact wdEx l a v i h0 hl _ _ _ (vI_clA _) (vU_clA _) (by omega) _ _ ⟨rfl, by show cs.length = ss.length; omega, by show cs.length < 20; omega, .inr (.inl rfl)⟩
    | false => exact wdOx l a v i h0 hl _ _ _ (vI_clA _) (vU_clA _) (by omega) _ _ ⟨rfl, by show cs.length = ss.length; omega, by show cs.length < 20; omega, .inr (.inr rfl)⟩
  | succ k ih =>
    intro i a cs ss h0 hi hk hc hs h1 b
    have h4 : 0 ≤ a4' l a := nxA_pos _ _ (nxA_pos _ _ (nxA_pos _ _ (nxA_pos _ _ h0)))
    have ew : wI (i + 1) = i + 1 := wI_id (by omega) (by omega)
    by_cases ho : i < nxV l a 9
    · have e : wideM (k + 1) l i a cs ss = wideM k l (i + 1) (a4' l a) (cs ++ [wcV l a]) (ss ++ [wsV l a]) := by
        conv => lhs; unfold wideM
        rw [if_pos ho]
      rw [e]
      have e1 : vI (cs ++ [wcV l a]) = vI cs ++ [S.v (i64 (wcV l a))] := by simp [vI]
      have e2 : vU (ss ++ [wsV l a]) = vU ss ++ [S.v (u64 (wsV l a))] := by simp [vU]
      have e3 : (cs ++ [wcV l a]).length = cs.length + 1 := by simp
      cases b with
      | true =>
        have := ih (i + 1) (a4' l a) (cs ++ [wcV l a]) (ss ++ [wsV l a]) h4 (by omega) (by omega) (by simp; omega) (by simp; omega) (by omega) false
        rw [e1, e2, e3] at this
        exact wdEO l a v i h0 hl _ _ _ (by omega) (by simp [vI]) (by simp [vU]; omega) (vI_clA _) (vU_clA _) ho _ _ (by rw [ew]; exact this)
      | false =>
        have := ih (i + 1) (a4' l a) (cs ++ [wcV l a]) (ss ++ [wsV l a]) h4 (by omega) (by omega) (by simp; omega) (by simp; omega) (by omega) true
        rw [e1, e2, e3] at this
        exact wdOE l a v i h0 hl _ _ _ (by omega) (by simp [vI]) (by simp [vU]; omega) (vI_clA _) (vU_clA _) ho _ _ (by rw [ew]; exact this)
    · have e : wideM (k + 1) l i a cs ss = (cs, ss, nxA l a) := by
        conv => lhs; unfold wideM
        rw [if_neg ho]
      rw [e]
      cases b with
      | true => exact wdEx l a v i h0 hl _ _ _ (vI_clA _) (vU_clA _) ho _ _ ⟨rfl, by show cs.length = ss.length; omega, by show cs.length < 20; omega, .inr (.inl rfl)⟩
      | false => exact wdOx l a v i h0 hl _ _ _ (vI_clA _) (vU_clA _) ho _ _ ⟨rfl, by show cs.length = ss.length; omega, by show cs.length < 20; omega, .inr (.inr rfl)⟩
theorem wd_loop0 (l : List Int) (v : Int) (hl : l.length ≤ 100) (hb : ∀ x, x ∈ l → 0 ≤ x ∧ x < 256) (a : Int) (h0 : 0 ≤ a) : Lp Tryz.prog wdL 10 (wdN l a v 0) (Up (wdJ l v (wideM 9 l 0 a [] []))) := by
  unfold wideM
  split
  · rename_i ho
    have := wd_loop l v hl hb 8 1 (a4' l a) [wcV l a] [wsV l a] (nxA_pos _ _ (nxA_pos _ _ (nxA_pos _ _ (nxA_pos _ _ h0)))) (by decide) (by decide) rfl rfl (by decide) true
    exact wdNE l a v 0 h0 hl ho _ _ this
  · rename_i ho
    exact wdNx l a v 0 h0 hl ho _ _ ⟨rfl, rfl, by show ([] : List Int).length < 20; decide, .inl ⟨rfl, rfl⟩⟩
theorem wide_wf (l : List Int) (hb : ∀ x, x ∈ l → 0 ≤ x ∧ x < 256) : ∀ (k : Nat) (i a : Int) (cs ss : List Int), 0 ≤ a → cs.length = i → i ≤ 8 → (∀ c, c ∈ cs → 0 ≤ c ∧ c ≤ 16) → WfC (wideM k l i a cs ss).1 ∧ 0 ≤ (wideM k l i a cs ss).2.2 := by
  intro k
  induction k with
  | zero =>
    intro i a cs ss h0 hi h8 hc
    exact ⟨⟨by show cs.length ≤ 8; omega, hc⟩, nxA_pos l a h0⟩
  | succ k ih =>
    intro i a cs ss h0 hi h8 hc
    unfold wideM
    split
    · rename_i ho
      have h1 := nxV_lt l a 9 hb (by decide)
      have h2 := nxV_lt l (nxA l a) 17 hb (by decide)
      refine ih (i + 1) _ _ _ (nxA_pos _ _ (nxA_pos _ _ (nxA_pos _ _ (nxA_pos _ _ h0)))) (by simp; omega) (by omega) fun c h => ?_
      simp at h
      rcases h with h | rfl
      · exact hc c h
      · show 0 ≤ nxV l (nxA l a) 17 ∧ nxV l (nxA l a) 17 ≤ 16
        omega
    · exact ⟨⟨by show cs.length ≤ 8; omega, hc⟩, nxA_pos l a h0⟩
abbrev wideX (l : List Int) (a : Int) : List Int × List Int × Int := wideM 9 l 0 a [] []
theorem sp_Wide (l : List Int) (v : Int) (hl : l.length ≤ 100) (hb : ∀ x, x ∈ l → 0 ≤ x ∧ x < 256) (a : Int) (h0 : 0 ≤ a) :
    FSpec Tryz.prog 17 1 (cdB l a v) [sp0] (.d (cfD (wideX l a).1 (rowU (wideX l a).2.1) (1 + nxV l (wideX l a).2.2 8))) (cdB l (nxA l (wideX l a).2.2) v) := by
  have ha : 0 ≤ (wideX l a).2.2 := (wide_wf l hb 9 0 a [] [] h0 rfl (by decide) (fun c h => by simp at h)).2
  refine (fspec_intro pk (fn := Tryz.f17) (fun _ _ => rfl) Tryz.func17 rfl (by decide) (cwp_ev pk ?_))
  refine w_code (J := wdJ l v (wideX l a)) (cwp_loop_up (n := 10) (lp_pick (s0 := wdN l a v 0) [0, 2, 3, 4] [0, 64, 68] 1000 rfl (clB_of rfl) (wd_loop0 l v hl hb a h0))) ?_
  generalize wideX l a = X at *
  have h8 := nxV_lt l X.2.2 8 hb (by decide)
  have e8 : wI (1 + nxV l X.2.2 8) = 1 + nxV l X.2.2 8 := wI_id (by omega) (by omega)
  obtain ⟨cs, ss, a1⟩ := X
  dsimp only at *
  rintro e s ⟨rfl, hx, hlt, ⟨hn, rfl⟩ | rfl | rfl⟩
  · dsimp only at *
    subst hn
    have hs : ss = [] := List.length_eq_zero_iff.1 hx.symm
    subst hs
    refine w_call1 0 (sp_DNext l a1 v 8 ha hl (by decide)) rfl rfl rfl rfl rfl rfl ?_
    rw [← e8]
    exact w_done (leafNF (.inr rfl) rfl (frT_agg (frLs_cons (fr_x rfl) (frLs_cons (fr_x rfl) (frLs_cons (fr_v rfl) frLs_nil)))) ⟨rfl, trivial⟩ (clB_of rfl) rfl)
  · dsimp only at *
    refine w_call1 0 (sp_DNext l a1 v 8 ha hl (by decide)) rfl rfl rfl rfl rfl rfl ?_
    rw [← e8]
    exact w_done (leafNF (.inr rfl) rfl (frT_agg (frLs_cons (fr_mw (cs.map i64) (bl := .arr (vI cs)) rfl rfl rfl (by simp) (fun h => by intro e; simp at e; subst e; simp at h) rfl) (frLs_cons (fr_mw (ss.map u64) (bl := .arr (vU ss)) rfl rfl rfl (by simp [hx]) (fun h => by intro e; simp at e; subst e; simp at hx; subst hx; simp at h) (by simp [rowU, hx])) (frLs_cons (fr_v rfl) frLs_nil)))) ⟨rfl, trivial⟩ (clB_of rfl) rfl)
  · dsimp only at *
    refine w_call1 0 (sp_DNext l a1 v 8 ha hl (by decide)) rfl rfl rfl rfl rfl rfl ?_
    rw [← e8]
    exact w_done (leafNF (.inr rfl) rfl (frT_agg (frLs_cons (fr_mw (cs.map i64) (bl := .arr (vI cs)) rfl rfl rfl (by simp) (fun h => by intro e; simp at e; subst e; simp at h) rfl) (frLs_cons (fr_mw (ss.map u64) (bl := .arr (vU ss)) rfl rfl rfl (by simp [hx]) (fun h => by intro e; simp at e; subst e; simp at hx; subst hx; simp at h) (by simp [rowU, hx])) (frLs_cons (fr_v rfl) frLs_nil)))) ⟨rfl, trivial⟩ (clB_of rfl) rfl)
end Gx
