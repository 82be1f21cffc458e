import Derived.Test.YtnbiiphkefhkcaaGreatGyK
import Derived.Test.YtnbiiphkefhkcaaGreatGxX
set_option linter.unusedVariables false
set_option linter.unusedSimpArgs false
set_option maxRecDepth 100000
set_option maxHeartbeats 1000000
namespace Gx
open Go Go.Proofs

/-! the closures that write a frame's list -/
def vI (l : List Int) : List S := (l.map i64).map S.v
theorem vI_app (xs ys : List Int) : vI (xs ++ ys) = vI xs ++ vI ys := by simp [vI]
theorem vI_len (xs : List Int) : (vI xs).length = xs.length := by simp [vI]
theorem vI_clk (σ : List (Nat × Option Blk)) (xs : List Int) : ∀ x, x ∈ vI xs → x.clk σ = true := by
  intro x hx
  simp only [vI, List.mem_map] at hx
  obtain ⟨a, ⟨b, _, rfl⟩, rfl⟩ := hx
  rfl
theorem vI_st (xs : List Int) : ∀ x, x ∈ vI xs → x.st = true := by
  intro x hx
  simp only [vI, List.mem_map] at hx
  obtain ⟨a, ⟨b, _, rfl⟩, rfl⟩ := hx
  rfl
theorem clk_all {σ : List (Nat × Option Blk)} {l : List S} (h : l.all (S.clk σ) = true) : ∀ x, x ∈ l → x.clk σ = true := List.all_eq_true.1 h
abbrev fB (L : S) : Blk := .var [.keep 0 0, .keep 0 1, .keep 0 2, L, .keep 0 4]
theorem sp_put0 (ys : List Int) (hy : ys.length < 1000000) : FSpec Tryz.prog 153 1 [(0, some (fB (.xrow [] 0)))] [.sc (.v (rowI ys)), .sc (.ptr 0 0)] unitT
    [(0, some (fB (.mrow 76 0 ys.length none 1 false))), (76, some (.arr (vI ys)))] := by
  refine (fspec_intro pk (fn := Tryz.f153) (fun _ _ => rfl) Tryz.func153 rfl (by decide) (cwp_ev pk ?_))
  refine w_chk (by simp [tyI3]) ?_
  refine w_chk ⟨by show ys.length * 8 ≤ _; omega, by omega⟩ ?_
  have e0 : (0 + ys.length) = ys.length := Nat.zero_add _
  refine w_done (leafN (.inl rfl) rfl ⟨?_, ?_, trivial⟩ rfl ⟨clk_all rfl, vI_clk _ ys, trivial⟩ rfl)
  · rfl
  · rfl
theorem sp_put1 (xs ys : List Int) (hy : xs.length + ys.length < 1000000) : FSpec Tryz.prog 153 2 [(0, some (fB (.mrow 1 0 xs.length none 1 false))), (1, some (.arr (vI xs)))] [.sc (.v (rowI ys)), .sc (.ptr 0 0)] unitT
    [(0, some (fB (.mrow 76 0 (xs ++ ys).length none 1 false))), (1, none), (76, some (.arr (vI (xs ++ ys))))] := by
  refine (fspec_intro pk (fn := Tryz.f153) (fun _ _ => rfl) Tryz.func153 rfl (by decide) (cwp_ev pk ?_))
  refine w_chk (by simp [tyI3]) ?_
  refine w_chk ⟨vI_st ys, rfl, by show (vI xs).length = _; rw [vI_len]; omega, by show (xs.length + ys.length) * 8 ≤ _; omega, by omega⟩ ?_
  rw [vI_app, List.length_append]
  refine w_done (leafN (.inl rfl) rfl ⟨?_, ?_, ?_, trivial⟩ rfl ⟨clk_all rfl, fun x hx => ?_, trivial⟩ rfl)
  · rfl
  · rfl
  · rfl
  · rw [← vI_app] at hx
    exact vI_clk _ _ x hx
theorem zipK_vI (rn : List (Nat × Nat)) (b : Nat) : ∀ (i : Nat) (xs : List Int), zipK rn b i (vI xs) (vI xs) = vI xs
  | _, [] => rfl
  | i, x :: xs => by
    show S.v (i64 x) :: zipK rn b (i + 1) (vI xs) (vI xs) = _
    rw [zipK_vI rn b (i + 1) xs]; rfl
theorem clKs_vI (σ : List (Nat × Option Blk)) (b : Nat) : ∀ (i : Nat) (xs : List Int), clKs σ b i (vI xs) = true
  | _, [] => rfl
  | i, x :: xs => clKs_vI σ b (i + 1) xs
theorem rnk_vI (rn : List (Nat × Nat)) (σ : List (Nat × Option Blk)) (xs : List Int) : (Blk.arr (vI xs)).rnk rn σ = .arr (vI xs) := by
  show Blk.arr ((vI xs).map _) = _
  congr 1
  induction xs with
  | nil => rfl
  | cons x xs ih => exact congrArg (S.v (i64 x) :: ·) ih
abbrev fB1 (L : S) : Blk := .var [.keep 1 0, .keep 1 1, .keep 1 2, L, .keep 1 4]
abbrev pB (f : Nat) : Blk := .var [.clo 153 [f]]
theorem sp_listc (xs ys : List Int) (hy : xs.length + 1 + ys.length < 1000000) : FSpec Tryz.prog 154 3 [(0, some (pB 1)), (1, some (fB1 (.mrow 2 0 xs.length none 1 false))), (2, some (.arr (vI xs)))] [.sc (.v (rowI ys)), .sc (.ptr 0 0)] unitT
    [(0, some (pB 1)), (1, some (fB1 (.mrow 92 0 (xs ++ [(ys.length : Int)] ++ ys).length none 1 false))), (2, none), (92, some (.arr (vI (xs ++ [(ys.length : Int)] ++ ys))))] := by
  refine (fspec_intro pk (fn := Tryz.f154) (fun _ _ => rfl) Tryz.func154 rfl (by decide) (cwp_ev pk ?_))
  refine w_callK [(0, 1), (1, 2), (76, 80)] (sp_put1 xs [(ys.length : Int)] (by simp; omega)) rfl rfl
    ⟨⟨1, _, rfl, rfl, rfl, rfl, rfl⟩, ⟨2, _, rfl, rfl, zipK_vI _ _ _ _, rfl, clKs_vI _ _ _ _⟩, trivial⟩ rfl rfl rfl rfl rfl rfl rfl rfl rfl rfl (σ1 := [(1, some (fB1 (.mrow 80 0 (xs ++ [(ys.length : Int)]).length none 1 false))), (2, none), (80, some (.arr (vI (xs ++ [(ys.length : Int)]))))]) (by simp only [rnσk, List.map_cons, List.map_nil, Option.map, rnk_vI]; rfl) rfl ?_
  refine w_callK [(0, 1), (1, 80), (76, 92)] (sp_put1 (xs ++ [(ys.length : Int)]) ys (by simp; omega)) rfl rfl
    ⟨⟨1, _, rfl, rfl, rfl, rfl, rfl⟩, ⟨80, _, rfl, rfl, zipK_vI _ _ _ _, rfl, clKs_vI _ _ _ _⟩, trivial⟩ rfl rfl rfl rfl rfl rfl rfl rfl rfl rfl (σ1 := [(1, some (fB1 (.mrow 92 0 (xs ++ [(ys.length : Int)] ++ ys).length none 1 false))), (80, none), (92, some (.arr (vI (xs ++ [(ys.length : Int)] ++ ys))))]) (by simp only [rnσk, List.map_cons, List.map_nil, Option.map, rnk_vI]; rfl) rfl ?_
  exact w_done (leafN (.inl rfl) rfl ⟨rfl, rfl, rfl, rfl, trivial⟩ rfl ⟨clk_all rfl, clk_all rfl, vI_clk _ _, trivial⟩ rfl)
end Gx
