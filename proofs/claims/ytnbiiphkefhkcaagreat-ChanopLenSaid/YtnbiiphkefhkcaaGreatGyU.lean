import Derived.Test.YtnbiiphkefhkcaaGreatGyT
set_option linter.unusedVariables false
set_option linter.unusedSimpArgs false
set_option maxRecDepth 100000
set_option maxHeartbeats 2000000
namespace Gx
open Go Go.Proofs
attribute [local irreducible] WpT

/-! the document's memory: words -/
abbrev memD (ws : List Int) (L : V) (tick : Int) : D := .agg [.v (rowU ws), .v L, .v (i64 tick)]
theorem sp_rword (ws : List Int) (L : V) (tick n : Int) : FSpec Tryz.prog 85 0 [] [memD ws L tick, di n] (rb (decide (0 ≤ n ∧ n < ws.length))) [] := by
  refine (fspec_intro pk (fn := Tryz.f85) (fun _ _ => rfl) Tryz.func85 rfl (by decide) (cwp_ev pk ?_))
  refine w_br (fun h => ?_) fun h => ?_
  · simp at h
    repeat refine w_brT ?_
    exact w_done (leafB rfl (by simp [h]))
  · simp at h
    repeat refine w_brF ?_
    exact w_done (leafB rfl (by simp; omega))
theorem sp_GrantedN (ws : List Int) (L : V) (tick : Int) (a : Acc) (h4 : a.kind ≠ 4) : FSpec Tryz.prog 31 0 [] [memD ws L tick, a.d] (rb (decide (1 ≤ a.kind ∧ a.kind ≤ 9))) [] := by
  obtain ⟨k, ad, o, nw, ti⟩ := a
  dsimp only at h4
  refine (fspec_intro pk (fn := Tryz.f31) (fun _ _ => rfl) Tryz.func31 rfl (by decide) (cwp_ev pk ?_))
  refine w_br (fun h => by simp at h; exact absurd h h4) fun _ => ?_
  refine w_br (fun h => ?_) fun h => ?_
  · simp at h
    repeat refine w_brT ?_
    exact w_done (leafB rfl (by simp; omega))
  · simp at h
    repeat refine w_brF ?_
    exact w_done (leafB rfl (by simp; omega))
theorem putN_set (g : Int → S) (ws : List Int) (i : Nat) (w : Int) (hi : i < ws.length) : putN (ws.map g) i [g w] = (ws.set i w).map g := by
  apply List.ext_getElem?
  intro j
  rw [putN_get _ _ _ (by simp; omega)]
  conv => rhs; rw [List.getElem?_map, List.getElem?_set]
  simp only [List.length_cons, List.length_nil]
  by_cases h1 : j < i
  · rw [if_pos h1, if_neg (show ¬ i = j by omega), List.getElem?_map]
  · rw [if_neg h1]
    by_cases h3 : i = j
    · subst h3
      rw [if_pos (by omega), if_pos rfl, if_pos (by omega)]; simp
    · rw [if_neg (show ¬ j < i + (0 + 1) by omega), if_neg h3, List.getElem?_map]
theorem sp_rset (ws : List Int) (L : V) (tick n w : Int) (h0 : 0 ≤ n) (h1 : n < ws.length) (hl : ws.length < 100000) : FSpec Tryz.prog 127 0 [] [memD ws L tick, di n, du w] (.d (memD (ws.set n.toNat w) L tick)) [] := by
  refine (fspec_intro pk (fn := Tryz.f127) (fun _ _ => rfl) Tryz.func127 rfl (by decide) (cwp_ev pk ?_))
  refine w_chk (by show (ws.map u64).length = ws.length * 1; simp) ?_
  refine w_chk ⟨by show ws.length * 8 ≤ _; omega, by omega⟩ ?_
  refine w_chk ⟨h0, h1⟩ ?_
  refine w_chk (by show 0 + n.toNat * 1 + 1 ≤ ((ws.map u64).map S.v).length; simp; omega) ?_
  refine w_done (done0 (.inr rfl) rfl (frT_agg (frLs_cons (fr_mw ((ws.set n.toNat w).map u64) rfl rfl ?_ ?_ ?_ ?_) (frLs_cons (fr_v rfl) (frLs_cons (fr_v rfl) frLs_nil)))))
  · show putN ((ws.map u64).map S.v) (0 + n.toNat * 1) [S.v (u64 w)] = _
    rw [List.map_map, List.map_map, Nat.zero_add, Nat.mul_one]
    exact putN_set (fun n => S.v (u64 n)) ws n.toNat w (by omega)
  · simp [tyI23]
  · intro h
    have : ws ≠ [] := by rintro rfl; simp at h
    simpa using this
  · show V.row ((ws.set n.toNat w).map u64) ws.length = rowU (ws.set n.toNat w)
    simp [rowU]
def zAns : Ans := ⟨0, false, false, []⟩
def applyW (ws : List Int) (a : Acc) : List Int × Ans × Bool :=
  if ¬ (1 ≤ a.kind ∧ a.kind ≤ 9) then (ws, zAns, false)
  else if ¬ (0 ≤ a.addr ∧ a.addr < ws.length) then (ws, zAns, true)
  else if a.kind = 2 ∨ a.kind = 6 then (ws.set a.addr.toNat a.new, zAns, true)
  else if a.kind = 3 then if ws.getD a.addr.toNat 0 ≠ a.old then (ws, ⟨ws.getD a.addr.toNat 0, false, false, []⟩, true) else (ws.set a.addr.toNat a.new, ⟨ws.getD a.addr.toNat 0, true, false, []⟩, true)
  else (ws, ⟨ws.getD a.addr.toNat 0, false, false, []⟩, true)
theorem getUm {l : List Int} {i : Nat} (h : i < l.length) : (l.map u64)[i * 1]? = some (u64 (l.getD i 0)) := by
  rw [Nat.mul_one, List.getElem?_map, List.getD_eq_getElem?_getD, List.getElem?_eq_getElem h]; rfl
theorem leafAp {ti : TypeId → Option TI} {rs : List ResultVar} {s : St} {ws : List Int} {L : V} {tick v : Int} {ok late ok2 : Bool} {y : List Int × Ans × Bool} (h : resT ti s rs = some (.tup [memD ws L tick, .agg [.v (u64 v), .v (.bool ok), .v (.bool late), .xrow [] 0], db ok2]))
    (hx : (ws, (⟨v, ok, late, []⟩ : Ans), ok2) = y) : Done ti rs 0 (.tup [memD y.1 L tick, y.2.1.d, db y.2.2]) [] .ret s := by
  subst hx
  exact done0 (.inr rfl) h (frT_tup (frDs_agg (frLs_cons (fr_v rfl) (frLs_cons (fr_v rfl) (frLs_cons (fr_v rfl) frLs_nil))) (frDs_agg (frLs_cons (fr_v rfl) (frLs_cons (fr_v rfl) (frLs_cons (fr_v rfl) (frLs_cons (fr_x rfl) frLs_nil)))) (frDs_s (fr_v rfl) frDs_nil))))
theorem sp_ApplyN (ws : List Int) (L : V) (tick : Int) (a : Acc) (h7 : a.kind < 7) (h4 : a.kind ≠ 4) (hl : ws.length < 100000) :
    FSpec Tryz.prog 82 0 [] [memD ws L tick, a.d] (.tup [memD (applyW ws a).1 L tick, (applyW ws a).2.1.d, db (applyW ws a).2.2]) [] := by
  refine (fspec_intro pk (fn := Tryz.f82) (fun _ _ => rfl) Tryz.func82 rfl (by decide) (cwp_ev pk ?_))
  refine w_call (sp_GrantedN ws L tick a h4) rfl rfl rfl ?_
  refine w_br (fun hg => ?_) fun hg => ?_
  · simp only [Bool.not_eq_true', decide_eq_false_iff_not] at hg
    exact w_done (leafAp rfl (by unfold applyW; rw [if_pos hg]; rfl))
  simp only [Bool.not_eq_false', decide_eq_true_eq] at hg
  refine w_br (fun h => by simp at h; omega) fun _ => ?_
  refine w_call (sp_rword ws L tick a.addr) rfl rfl rfl ?_
  refine w_br (fun h2 => ?_) fun h2 => ?_
  · simp only [Bool.not_eq_true', decide_eq_false_iff_not] at h2
    exact w_done (leafAp rfl (by unfold applyW; rw [if_neg (not_not_intro hg), if_pos h2]; rfl))
  simp only [Bool.not_eq_false', decide_eq_true_eq] at h2
  refine w_chk h2 ?_
  refine w_rdv (takeN_one (getUm (i := a.addr.toNat) (by omega))) ?_
  repeat' (try conv => arg 2; whnf) <;> first
    | refine w_brT ?_
    | refine w_brF ?_
    | refine w_bT (by assumption) ?_
    | refine w_bF (by assumption) ?_
    | refine w_br (fun h => ?_) (fun h => ?_)
    | refine w_chk ⟨by kernel_rfl, by kernel_rfl⟩ ?_
    | refine w_call (sp_rset ws L tick a.addr a.new h2.1 h2.2 hl) rfl rfl rfl ?_
  all_goals refine w_done ?_
  all_goals simp only [beq_iff_eq, beq_eq_false_iff_ne, bne_iff_ne, bne_eq_false_iff_eq, ne_eq] at *
  all_goals exact leafAp rfl (by unfold applyW; rw [if_neg (not_not_intro hg), if_neg (not_not_intro h2)]; repeat' split
                                 all_goals first | rfl | (exfalso; simp_all; done) | (exfalso; omega))
theorem sp_CResume (m : MS) (a : Ans) (m' : MS) (hcs : m.cases = []) (hf : m.inner.fit) (hrun : m.pc ≠ -1 → (m.inner.go a).2.2 = true → MSpec 123 [rzD (m.inner.go a).2.1] unitT { m with depth := 0 } m' ∧ m'.cases = [] ∧ m'.len) :
    FSpec Tryz.prog 28 0 [] [m.fd, a.d] (.d (m.resu a m').fd) [] := by
  refine (fspec_intro pk (fn := Tryz.f28) (fun _ _ => rfl) Tryz.func28 rfl (by decide) (cwp_ev pk ?_))
  refine w_call (sp_Resume0 m a m' hcs hf hrun) rfl rfl rfl ?_
  exact w_done (done_eq (.inr rfl) rfl rfl rfl)
end Gx
