import Derived.Test.YtnbiiphkefhkcaaGreatGyC
set_option linter.unusedVariables false
set_option linter.unusedSimpArgs false
set_option maxRecDepth 100000
namespace Gx
open Go Go.Proofs

theorem repS_one (n : Nat) (z : S) : repS n [z] = List.replicate n z := by
  induction n with
  | zero => rfl
  | succ n ih => simp only [repS, List.replicate_succ, List.flatten_cons] at ih ⊢; rw [ih]; rfl
theorem withL_put (g : Int → S) (ws : List Int) (i n : Nat) (w : Int) (hn : n = max ws.length (i + 1)) :
    putN (putN (List.replicate n (g 0)) 0 (ws.map g)) i [g w] = (withL ws i w).map g := by
  apply List.ext_getElem?
  intro j
  have l1 : (putN (List.replicate n (g 0)) 0 (ws.map g)).length = n := by unfold putN; simp; omega
  rw [putN_get _ _ _ (by rw [l1]; simp; omega), putN_get _ _ _ (by simp; omega)]
  unfold withL
  conv => rhs; rw [List.getElem?_map, List.getElem?_set]
  simp only [List.length_cons, List.length_nil, List.length_map, List.length_append, List.length_replicate]
  by_cases h1 : j < i
  · rw [if_pos h1, if_neg (show ¬ j < 0 by omega), if_neg (show ¬ i = j by omega)]
    by_cases h2 : j < ws.length
    · rw [if_pos (by omega), List.getElem?_map, List.getElem?_append_left h2]; rfl
    · rw [if_neg (by omega), List.getElem?_append_right (by omega), List.getElem?_replicate, List.getElem?_replicate, if_pos (by omega), if_pos (by omega)]; rfl
  · rw [if_neg h1]
    by_cases h3 : i = j
    · subst h3
      rw [if_pos (show i < i + (0 + 1) by omega), if_pos rfl, if_pos (show i < ws.length + (i + 1 - ws.length) by omega)]; simp
    · rw [if_neg (show ¬ j < i + (0 + 1) by omega), if_neg (show ¬ j < 0 by omega), if_neg h3]
      by_cases h2 : j < ws.length
      · rw [if_pos (by omega), List.getElem?_map, List.getElem?_append_left h2]; rfl
      · rw [if_neg (by omega), List.getElem?_replicate, if_neg (by omega), List.getElem?_eq_none (by simp; omega)]; rfl
theorem withL_length (ws : List Int) (i : Nat) (w : Int) : (withL ws i w).length = max ws.length (i + 1) := by
  unfold withL; simp; omega

theorem sp_With (code pc i w : Int) (ws ls : List Int) (up : V) (hi : 0 ≤ i) (hi2 : i < 1000) (hw : ws.length < 1000) : FSpec Tryz.prog 269 0 [] [frD code pc ws ls up, di i, du w] (.d (frD code pc (withL ws i.toNat w) ls up)) [] := by
  have hm : (if IntKind.i64.wrap (i + 1) > (ws.length : Int) then IntKind.i64.wrap (i + 1) else (ws.length : Int)) = ((max ws.length (i.toNat + 1) : Nat) : Int) := by
    rw [show IntKind.i64.wrap (i + 1) = i + 1 from wI_id (by omega) (by omega)]
    split <;> omega
  refine (fspec_intro pk (fn := Tryz.f269) (fun _ _ => rfl) Tryz.func269 rfl (by decide) (cwp_ev pk ?_))
  refine w_chk ?_ ?_
  · rw [hm]; refine ⟨rfl, by omega, by omega, ?_⟩
    show _ * (8 : Int) ≤ _
    omega
  refine w_chk (by simp [tyI23]) ?_
  refine w_chk ?_ ?_
  · rw [hm]; refine ⟨?_, by omega, by omega⟩
    intro x hx
    simp at hx
    obtain ⟨a, _, rfl⟩ := hx
    rfl
  refine w_chk ?_ ?_
  · rw [hm]
    show 0 + _ ≤ (repS _ [S.v (u64 0)]).length
    rw [repS_length]; simp; omega
  refine w_chk ?_ ?_
  · rw [hm]; omega
  refine w_chk ?_ ?_
  · rw [hm]
    show 0 + i.toNat * 1 + 1 ≤ (putN (repS _ [S.v (u64 0)]) 0 _).length
    rw [repS_one]
    unfold putN
    simp; omega
  refine w_done (done0 (.inr rfl) rfl (frT_agg (frLs_cons (fr_v rfl) (frLs_cons (fr_v rfl) (frLs_cons (fr_mw ((withL ws i.toNat w).map u64) rfl rfl ?_ ?_ ?_ ?_) (frLs_cons (fr_v rfl) (frLs_cons (fr_v rfl) frLs_nil)))))))
  · rw [hm]
    show putN (putN (repS _ [S.v (u64 0)]) 0 _) (0 + i.toNat * 1) [S.v (u64 w)] = _
    rw [repS_one, List.map_map, List.map_map, Nat.zero_add, Nat.mul_one]
    exact withL_put (fun n => S.v (u64 n)) ws i.toNat _ w (by omega)
  · rw [hm]
    show _ * 1 = _
    rw [List.length_map, withL_length]; omega
  · intro _ hn
    have := congrArg List.length hn
    rw [List.length_map, withL_length] at this
    simp at this
  · rw [hm]
    unfold rowU
    rw [withL_length]; simp
end Gx
