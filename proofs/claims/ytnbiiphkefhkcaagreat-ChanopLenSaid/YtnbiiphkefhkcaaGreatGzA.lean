import Derived.Test.YtnbiiphkefhkcaaGreatGyY
set_option linter.unusedVariables false
set_option linter.unusedSimpArgs false
set_option maxRecDepth 100000
set_option maxHeartbeats 2000000
namespace Gx
open Go Go.Proofs
attribute [local irreducible] WpT

/-! choices -/
abbrev u8 (n : Int) : V := .int .u8 n
def rowB (l : List Int) : V := .row (l.map u8) l.length
abbrev cdC (l : List Int) (a v : Int) : List S := [.v (rowB l), .v (i64 a), .v (u64 v)]
abbrev cdB (l : List Int) (a v : Int) : List (Nat × Option Blk) := [(0, some (.var (cdC l a v)))]
theorem sp_DNewA (l : List Int) (h : l.length ≤ 60) : FSpec Tryz.prog 16 0 [] [.sc (.v (rowB l)), di 60] (.d (.sc (.ptr 92 0))) [(92, some (.var (cdC l 0 0)))] := by
  refine (fspec_intro pk (fn := Tryz.f16) (fun _ _ => rfl) Tryz.func16 rfl (by decide) (cwp_ev pk ?_))
  refine w_br (fun h => by simp at h; omega) fun _ => ?_
  exact w_done (leafN (.inr rfl) rfl ⟨rfl, trivial⟩ rfl (clB_of rfl) rfl)
theorem sp_DNewB (l : List Int) (h : 60 < l.length) : FSpec Tryz.prog 16 0 [] [.sc (.v (rowB l)), di 60] (.d (.sc (.ptr 108 0))) [(108, some (.var (cdC (l.take 60) 0 0)))] := by
  refine (fspec_intro pk (fn := Tryz.f16) (fun _ _ => rfl) Tryz.func16 rfl (by decide) (cwp_ev pk ?_))
  refine w_br (fun _ => ?_) fun h => by simp at h; omega
  refine w_chk ⟨by decide, by show (0 : Int) ≤ 60; decide, by show (60 : Int) ≤ l.length; omega, by simp [tyI5], by decide, fun q h => by cases h⟩ ?_
  have e : V.row (((l.map u8).drop ((0 : Int).toNat * 1)).take (((60 : Int).toNat - (0 : Int).toNat) * 1)) ((60 : Int).toNat - (0 : Int).toNat) = rowB (l.take 60) := by
    simp [rowB]
    omega
  exact w_done (leafN' (σ' := [(108, some (.var [.v (.row (((l.map u8).drop ((0 : Int).toNat * 1)).take (((60 : Int).toNat - (0 : Int).toNat) * 1)) ((60 : Int).toNat - (0 : Int).toNat)), .v (i64 0), .v (u64 0)]))]) (.inr rfl) rfl (by rw [e]) ⟨rfl, trivial⟩ rfl (clB_of rfl) rfl)
theorem sp_Left (l : List Int) (a v : Int) : FSpec Tryz.prog 60 1 (cdB l a v) [sp0] (rb (decide (a < l.length))) (cdB l a v) := by
  refine (fspec_intro pk (fn := Tryz.f60) (fun _ _ => rfl) Tryz.func60 rfl (by decide) (cwp_ev pk ?_))
  refine w_chk ⟨by kernel_rfl, by kernel_rfl⟩ ?_
  exact w_done (leafN (.inr rfl) rfl ⟨rfl, trivial⟩ rfl (clB_of rfl) rfl)
def nxV (l : List Int) (a n : Int) : Int := if a < l.length then (wI (l.getD a.toNat 0)).tmod n else 0
def nxA (l : List Int) (a : Int) : Int := if a < l.length then a + 1 else a
theorem getB {l : List Int} {i : Nat} (h : i < l.length) : (l.map u8)[i * 1]? = some (u8 (l.getD i 0)) := by
  rw [Nat.mul_one, List.getElem?_map, List.getD_eq_getElem?_getD, List.getElem?_eq_getElem h]; rfl
theorem sp_DNext (l : List Int) (a v n : Int) (h0 : 0 ≤ a) (hl : l.length ≤ 100) (hn : n ≠ 0) : FSpec Tryz.prog 23 1 (cdB l a v) [sp0, di n] (ri (nxV l a n)) (cdB l (nxA l a) v) := by
  refine (fspec_intro pk (fn := Tryz.f23) (fun _ _ => rfl) Tryz.func23 rfl (by decide) (cwp_ev pk ?_))
  refine w_call1 0 (sp_Left l a v) rfl rfl rfl rfl rfl rfl ?_
  by_cases h : a < l.length
  · have e1 : nxV l a n = (wI (l.getD a.toNat 0)).tmod n := if_pos h
    have e2 : nxA l a = a + 1 := if_pos h
    rw [e1, e2]
    refine w_br (fun h2 => by simp at h2; omega) fun _ => ?_
    have e3 : IntKind.i64.wrap (IntKind.i64.wrap (a + 1) - 1) = a := by
      show wI (wI (a + 1) - 1) = a
      rw [wI_id (n := a + 1) (by omega) (by omega), wI_id (by omega) (by omega)]; omega
    have e4 : wI (a + 1) = a + 1 := wI_id (by omega) (by omega)
    refine w_chk ⟨by rw [e3]; exact h0, by rw [e3]; exact h⟩ ?_
    refine w_rdv (takeN_one (x := u8 (l.getD a.toNat 0)) (by show _[_ * 1]? = _; rw [e3]; exact getB (by omega))) ?_
    refine w_chk hn ?_
    refine w_chk ⟨by kernel_rfl, by kernel_rfl⟩ ?_
    exact w_done (leafN' (σ' := cdB l (wI (a + 1)) v) (.inr rfl) rfl (by rw [e4]) ⟨rfl, trivial⟩ rfl (clB_of rfl) rfl)
  · have e1 : nxV l a n = 0 := if_neg h
    have e2 : nxA l a = a := if_neg h
    rw [e1, e2]
    refine w_br (fun _ => ?_) fun h2 => by simp at h2; omega
    exact w_done (leafN (.inr rfl) rfl ⟨rfl, trivial⟩ rfl (clB_of rfl) rfl)
def modI (x n : Int) : Int := if x.tmod n < 0 then x.tmod n + n else x.tmod n
theorem sp_Mod (x n : Int) (h0 : 0 < n) (h1 : n < 1000) : FSpec Tryz.prog 18 0 [] [di x, di n] (ri (modI x n)) [] := by
  refine (fspec_intro pk (fn := Tryz.f18) (fun _ _ => rfl) Tryz.func18 rfl (by decide) (cwp_ev pk ?_))
  refine w_chk (by omega) ?_
  have h2 := Int.tmod_lt_of_pos x h0
  have h3 := Int.lt_tmod_of_pos x h0
  refine w_br (fun h => ?_) fun h => ?_
  · simp at h
    have e : modI x n = x.tmod n + n := if_pos h
    rw [e]
    exact w_done (leafI rfl (wI_id (by omega) (by omega)))
  · simp at h
    have e : modI x n = x.tmod n := if_neg (by omega)
    rw [e]
    exact w_done (leafI rfl rfl)
theorem modI_le (x n : Int) (h0 : 0 < n) : 0 ≤ modI x n ∧ modI x n < n := by
  unfold modI
  have h1 := Int.tmod_lt_of_pos x h0
  have h2 := Int.lt_tmod_of_pos x h0
  split <;> omega
end Gx
