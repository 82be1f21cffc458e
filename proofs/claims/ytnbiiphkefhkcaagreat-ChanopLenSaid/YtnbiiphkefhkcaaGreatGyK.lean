import Derived.Test.YtnbiiphkefhkcaaGreatGyJ
set_option linter.unusedVariables false
set_option linter.unusedSimpArgs false
set_option maxRecDepth 100000
set_option maxHeartbeats 1000000
namespace Gx
open Go Go.Proofs

/-! the channels of an operation that is no select -/
theorem sp_LocksF (caps : List Int) (sts : V) (th n : Int) : FSpec Tryz.prog 254 1 [(0, some (.var (cfC caps sts th)))] [di n, .sc (.ptr 0 0)] (rb (!decide (0 ≤ n ∧ n < caps.length))) [(0, some (.var (cfC caps sts th)))] := by
  refine (fspec_intro pk (fn := Tryz.f254) (fun _ _ => rfl) Tryz.func254 rfl (by decide) (cwp_ev pk ?_))
  refine w_call (sp_Exists _ _ _ _) rfl rfl rfl ?_
  exact w_done (leafN (.inr rfl) rfl ⟨rfl, trivial⟩ rfl (clB_of rfl) rfl)
abbrev lkσ (l : List S) (caps : List Int) (sts : V) (th : Int) : List (Nat × Option Blk) := [(0, some (.arr l)), (1, some (.var (cfC caps sts th)))]
theorem sp_IndexFunc1 (caps : List Int) (sts : V) (th a : Int) : FSpec Tryz.prog 291 2 (lkσ [.v (i64 a)] caps sts th) [.sc (.mrow 0 0 1 none 1 true), .sc (.clo 254 [1])]
    (ri (if 0 ≤ a ∧ a < caps.length then -1 else 0)) (lkσ [.v (i64 a)] caps sts th) := by
  refine (fspec_intro pk (fn := Tryz.f291) (fun _ _ => rfl) Tryz.func291 rfl (by decide) (cwp_ev pk ?_))
  refine w_loop 2 (lp_step pk ?_)
  refine w_brT ?_
  refine w_chk (by decide) ?_
  refine w_rd (cs := [.v (i64 a)]) rfl ?_
  refine w_call1 1 (sp_LocksF caps sts th a) rfl rfl rfl rfl rfl rfl ?_
  refine w_br (fun h => ?_) fun h => ?_
  · simp at h
    rw [if_neg (by omega)]
    exact w_done (w_done (leafN (.inr rfl) rfl ⟨rfl, rfl, trivial⟩ rfl (clB_of rfl) rfl))
  · simp at h
    rw [if_pos (by omega)]
    refine w_done (lp_step pk ?_)
    refine w_brF ?_
    exact w_done (w_done (leafN (.inr rfl) rfl ⟨rfl, rfl, trivial⟩ rfl (clB_of rfl) rfl))
theorem sp_DeleteFunc1a (caps : List Int) (sts : V) (th a : Int) (h : 0 ≤ a ∧ a < caps.length) : FSpec Tryz.prog 253 2 (lkσ [.v (i64 a)] caps sts th) [.sc (.mrow 0 0 1 none 1 true), .sc (.clo 254 [1])]
    (.d (.sc (.mrow 0 0 1 none 1 true))) (lkσ [.v (i64 a)] caps sts th) := by
  refine (fspec_intro pk (fn := Tryz.f253) (fun _ _ => rfl) Tryz.func253 rfl (by decide) (cwp_ev pk ?_))
  have hs := sp_IndexFunc1 caps sts th a
  rw [if_pos h] at hs
  refine w_callN [(0, 0), (1, 1)] hs rfl ⟨⟨0, _, rfl, rfl, rfl, rfl⟩, ⟨1, _, rfl, rfl, rfl, rfl⟩, trivial⟩ rfl rfl rfl rfl rfl rfl rfl rfl rfl rfl ?_
  refine w_brT ?_
  exact w_done (leafN (.inr rfl) rfl ⟨rfl, rfl, trivial⟩ rfl (clB_of rfl) rfl)
theorem sp_DeleteFunc1b (caps : List Int) (sts : V) (th a : Int) (h : ¬ (0 ≤ a ∧ a < caps.length)) : FSpec Tryz.prog 253 2 (lkσ [.v (i64 a)] caps sts th) [.sc (.mrow 0 0 1 none 1 true), .sc (.clo 254 [1])]
    (.d (.sc (.v (.row [] 0)))) (lkσ [.v (i64 0)] caps sts th) := by
  refine (fspec_intro pk (fn := Tryz.f253) (fun _ _ => rfl) Tryz.func253 rfl (by decide) (cwp_ev pk ?_))
  have hs := sp_IndexFunc1 caps sts th a
  rw [if_neg h] at hs
  refine w_callN [(0, 0), (1, 1)] hs rfl ⟨⟨0, _, rfl, rfl, rfl, rfl⟩, ⟨1, _, rfl, rfl, rfl, rfl⟩, trivial⟩ rfl rfl rfl rfl rfl rfl rfl rfl rfl rfl ?_
  refine w_brF ?_
  refine w_loop 1 (lp_step pk ?_)
  refine w_brF ?_
  refine w_done ?_
  show WpT _ _ _
  refine w_chk ⟨by decide, by decide, by decide, fun q h => by cases h⟩ ?_
  refine w_brF ?_
  refine w_chk (by decide) ?_
  refine w_chk (Nat.le_of_ble_eq_true rfl) ?_
  refine w_chk ⟨by decide, by decide, by decide, fun q h => by cases h⟩ ?_
  refine w_brT ?_
  exact w_done (leafN (.inr rfl) rfl ⟨rfl, rfl, trivial⟩ rfl (clB_of rfl) rfl)

theorem sp_Len64 (n : Int) (h0 : 0 ≤ n) (h1 : n < 256) : ∃ r, FSpec Tryz.prog 307 0 [] [du n] (ri r) [] := by
  exact ⟨_, by
    refine (fspec_intro pk (fn := Tryz.f307) (fun _ _ => rfl) Tryz.func307 rfl (by decide) (cwp_ev pk ?_))
    refine w_br (fun h => by simp at h; omega) fun _ => ?_
    refine w_br (fun h => by simp at h; omega) fun _ => ?_
    refine w_br (fun h => by simp at h; omega) fun _ => ?_
    refine w_chk ?_ ?_
    · rw [IntKind.wrap_u8]
      refine ⟨by omega, ?_⟩
      have h2 : (n % 256).toNat < 256 := by omega
      exact Nat.lt_of_lt_of_le h2 (Nat.le_of_ble_eq_true (by kernel_rfl))
    exact w_done (leafI rfl rfl)⟩
theorem sp_Len (n : Int) (h0 : 0 ≤ n) (h1 : n < 256) : ∃ r, FSpec Tryz.prog 293 0 [] [du n] (ri r) [] := by
  obtain ⟨r, hr⟩ := sp_Len64 n h0 h1
  refine ⟨r, ?_⟩
  refine (fspec_intro pk (fn := Tryz.f293) (fun _ _ => rfl) Tryz.func293 rfl (by decide) (cwp_ev pk ?_))
  refine w_brF ?_
  refine w_call hr rfl rfl rfl ?_
  exact w_done (leafI rfl rfl)
/-! sorting at most one number -/
theorem clB1 {l : List S} (hp : l.all S.plB = true) : ClB [(0, some (.arr l))] [(0, some (.arr l))] := by
  refine ⟨fun x hx => ?_, trivial⟩
  rw [List.all_eq_true] at hp
  exact clk_pl (hp x hx)
abbrev mr1 : D := .sc (.mrow 0 0 1 none 1 true)
abbrev ar1 (a : Int) : List (Nat × Option Blk) := [(0, some (.arr [.v (i64 a)]))]
abbrev row0 : D := .sc (.v (.row [] 0))
theorem sp_insSort1 (a : Int) : FSpec Tryz.prog 297 1 (ar1 a) [mr1, di 0, di 1] unitT (ar1 a) := by
  refine (fspec_intro pk (fn := Tryz.f297) (fun _ _ => rfl) Tryz.func297 rfl (by decide) (cwp_ev pk ?_))
  refine w_loop 1 (lp_step pk (w_brF ?_))
  exact w_done (w_done (leafN (.inl rfl) rfl ⟨rfl, trivial⟩ rfl (clB1 rfl) rfl))
theorem sp_insSort0 : FSpec Tryz.prog 297 0 [] [row0, di 0, di 0] unitT [] := by
  refine (fspec_intro pk (fn := Tryz.f297) (fun _ _ => rfl) Tryz.func297 rfl (by decide) (cwp_ev pk ?_))
  refine w_loop 1 (lp_step pk (w_brF ?_))
  exact w_done (w_done (done_eq (.inl rfl) rfl rfl rfl))
theorem sp_pdqsort1 (a lim : Int) : FSpec Tryz.prog 292 1 (ar1 a) [mr1, di 0, di 1, di lim] unitT (ar1 a) := by
  refine (fspec_intro pk (fn := Tryz.f292) (fun _ _ => rfl) Tryz.func292 rfl (by decide) (cwp_ev pk ?_))
  refine w_loop 1 (lp_step pk (w_brT ?_))
  refine w_call1 0 (sp_insSort1 a) rfl rfl rfl rfl rfl rfl ?_
  exact w_done (w_done (leafN (.inr rfl) rfl ⟨rfl, trivial⟩ rfl (clB1 rfl) rfl))
theorem sp_pdqsort0 (lim : Int) : FSpec Tryz.prog 292 0 [] [row0, di 0, di 0, di lim] unitT [] := by
  refine (fspec_intro pk (fn := Tryz.f292) (fun _ _ => rfl) Tryz.func292 rfl (by decide) (cwp_ev pk ?_))
  refine w_loop 1 (lp_step pk (w_brT ?_))
  refine w_call sp_insSort0 rfl rfl rfl ?_
  exact w_done (w_done (done_eq (.inr rfl) rfl rfl rfl))
theorem sp_Sort1 (a : Int) : FSpec Tryz.prog 255 1 (ar1 a) [mr1] unitT (ar1 a) := by
  obtain ⟨r, hr⟩ := sp_Len 1 (by decide) (by decide)
  refine (fspec_intro pk (fn := Tryz.f255) (fun _ _ => rfl) Tryz.func255 rfl (by decide) (cwp_ev pk ?_))
  refine w_call hr rfl rfl rfl ?_
  refine w_call1 0 (sp_pdqsort1 a r) rfl rfl rfl rfl rfl rfl ?_
  exact w_done (leafN (.inl rfl) rfl ⟨rfl, trivial⟩ rfl (clB1 rfl) rfl)
theorem sp_Sort0 : FSpec Tryz.prog 255 0 [] [row0] unitT [] := by
  obtain ⟨r, hr⟩ := sp_Len 0 (by decide) (by decide)
  refine (fspec_intro pk (fn := Tryz.f255) (fun _ _ => rfl) Tryz.func255 rfl (by decide) (cwp_ev pk ?_))
  refine w_call hr rfl rfl rfl ?_
  refine w_call (sp_pdqsort0 r) rfl rfl rfl ?_
  exact w_done (done_eq (.inl rfl) rfl rfl rfl)
theorem sp_Compact1 (a : Int) : FSpec Tryz.prog 256 1 (ar1 a) [mr1] (.d mr1) (ar1 a) := by
  refine (fspec_intro pk (fn := Tryz.f256) (fun _ _ => rfl) Tryz.func256 rfl (by decide) (cwp_ev pk ?_))
  refine w_brT ?_
  exact w_done (leafN (.inr rfl) rfl ⟨rfl, trivial⟩ rfl (clB1 rfl) rfl)
theorem sp_Compact0 : FSpec Tryz.prog 256 0 [] [row0] (.d row0) [] := by
  refine (fspec_intro pk (fn := Tryz.f256) (fun _ _ => rfl) Tryz.func256 rfl (by decide) (cwp_ev pk ?_))
  refine w_brT ?_
  exact w_done (done_eq (.inr rfl) rfl rfl rfl)
def locks1 (caps : List Int) (ch : Int) : List Int := if 0 ≤ ch ∧ ch < caps.length then [ch] else []
abbrev opD (kind mode ch val dl : Int) (cases : List Cs) (draws : List Int) : D := .agg [.v (i64 kind), .v (i64 mode), .v (i64 ch), .v (u64 val), .v (i64 dl), .v (rowC cases), .v (rowI draws)]
theorem sp_Locks1 (caps : List Int) (sts : V) (th : Int) (kind mode ch val dl : Int) (cases : List Cs) (draws : List Int) (hk : kind ≠ 4) :
    FSpec Tryz.prog 180 0 [] [cfD caps sts th, opD kind mode ch val dl cases draws] (.d (.sc (.v (rowI (locks1 caps ch))))) [] := by
  refine (fspec_intro pk (fn := Tryz.f180) (fun _ _ => rfl) Tryz.func180 rfl (by decide) (cwp_ev pk ?_))
  refine w_br (fun h => by simp at h; exact absurd h hk) fun _ => ?_
  by_cases he : 0 ≤ ch ∧ ch < caps.length
  · rw [show locks1 caps ch = [ch] from if_pos he]
    refine w_callN [(0, 84), (1, 64)] (sp_DeleteFunc1a caps sts th ch he) rfl ⟨⟨84, _, rfl, rfl, rfl, rfl⟩, ⟨64, _, rfl, rfl, rfl, rfl⟩, trivial⟩ rfl rfl rfl rfl rfl rfl rfl rfl rfl rfl ?_
    refine w_call1 84 (sp_Sort1 ch) rfl rfl rfl rfl rfl rfl ?_
    refine w_call1 84 (sp_Compact1 ch) rfl rfl rfl rfl rfl rfl ?_
    exact w_done (done0 (.inr rfl) rfl (frT_s (fr_mc rfl)))
  · rw [show locks1 caps ch = [] from if_neg he]
    refine w_callN [(0, 84), (1, 64)] (sp_DeleteFunc1b caps sts th ch he) rfl ⟨⟨84, _, rfl, rfl, rfl, rfl⟩, ⟨64, _, rfl, rfl, rfl, rfl⟩, trivial⟩ rfl rfl rfl rfl rfl rfl rfl rfl rfl rfl ?_
    refine w_call sp_Sort0 rfl rfl rfl ?_
    refine w_call sp_Compact0 rfl rfl rfl ?_
    exact w_done (done0 (.inr rfl) rfl (frT_v rfl))
end Gx
