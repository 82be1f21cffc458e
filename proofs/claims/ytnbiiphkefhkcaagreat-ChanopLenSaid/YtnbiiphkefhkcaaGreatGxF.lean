import Derived.Test.YtnbiiphkefhkcaaGreatGxE
import Derived.Laws.Cover3
set_option linter.unusedVariables false
set_option linter.unusedSimpArgs false
namespace Gx
open Go

theorem RelL.toList {cx : Cx} {w : World} {μ : Nat → Option (Option Nat)} {M : Nat → Prop} {l : List S} {arr : Array Value} (h : RelL cx w μ M l arr) :
    ∀ (i : Nat) x, l[i]? = some x → ∃ u, arr.toList[i]? = some u ∧ RelS cx w μ M x u := fun i x hi => (h i x hi).imp fun u hu => ⟨by simpa using hu.1, hu.2⟩

theorem row_slice {w : World} {M : Nat → Prop} {cs : List V} {n : Nat} {u : Value} (h : RelV w M (.row cs n) u) : ∃ a cap, u = .slice a n cap ∧ (a = none → n = 0) := by
  cases h with
  | nilRow => exact ⟨_, _, rfl, fun _ => rfl⟩
  | row => exact ⟨_, _, rfl, fun h => by cases h⟩

theorem stBin_ok {P : Program} {ti : TypeId → Option TI} (hti : ∀ t x, ti t = some x → TIok P t x) {t : List (Nat × T)} {op : BinOp} {ty yt : TypeId} {x y : Operand} {k : T → Tree} {Q : Ex → St → Prop}
    (h : WpT P (stBin ti t op ty x y k) Q) : ∃ r, PureOK P (.binOp op ty x y yt) t r ∧ WpT P (k r) Q := by
  have cx_ : ∀ t2, (∀ j, Operand.tmp j ∈ (Op.binOp op ty x y yt).operands → look t2 j = look t j) → opd t2 x = opd t x ∧ opd t2 y = opd t y := fun t2 ht =>
    ⟨opd_congr fun j hj => ht j (by subst hj; simp [Op.operands]), opd_congr fun j hj => ht j (by subst hj; simp [Op.operands])⟩
  have hnil : isNilSlice y = true → ∀ A : Act, A.eval y = .slice none 0 0 := by
    intro hy A
    unfold isNilSlice at hy
    split at hy
    · rfl
    · cases hy
  have nilcase : ∀ n, (∀ (cx : Cx) (w : World) μ M (A : Act), ∀ t2, (∀ j, Operand.tmp j ∈ (Op.binOp op ty x y yt).operands → look t2 j = look t j) → Tmps cx w μ M t2 A → ∃ a cap, A.eval x = .slice a n cap ∧ (a = none → n = 0)) →
      ∀ e, TDok P ty (.slice e) → isNilSlice y = true → WpT P (nilOf op n k) Q → ∃ r, PureOK P (.binOp op ty x y yt) t r ∧ WpT P (k r) Q := by
    intro n hx e hte hy hq
    unfold nilOf at hq
    split at hq
    · refine ⟨_, fun t2 ht cx w μ M A hA o ho => ?_, hq⟩
      obtain ⟨a, cap, ea, ha⟩ := hx cx w μ M A t2 ht hA
      refine ⟨.bool a.isNone, ?_, a.isNone, rfl, fun hn => ha (by cases a <;> simp_all)⟩
      simp only [execOp, ho, ea, hnil hy A, Sem.run_bind, eqGuard_at_slice, Sem.run_pure, Result.andThen_ok]
      have hrun : (binOp .eql ty (.slice a n cap) (.slice none 0 0)).run P w = .ok (.bool a.isNone) w := by
        simp only [binOp]
        simp [run_equal_slice_nil w ty e a n cap hte]
      rw [hrun]
      rfl
    · exact hq.elim
  unfold stBin at h
  split at h
  · rename_i k1 a k2 b hx hy
    have ev : ∀ t2, (∀ j, Operand.tmp j ∈ (Op.binOp op ty x y yt).operands → look t2 j = look t j) → ∀ (cx : Cx) (w : World) μ M (A : Act), Tmps cx w μ M t2 A → A.eval x = .int k1 a ∧ A.eval y = .int k2 b := by
      intro t2 ht cx w μ M A hA
      exact ⟨RelV.int_inv (opd_rel hA ((cx_ t2 ht).1.trans hx)), RelV.int_inv (opd_rel hA ((cx_ t2 ht).2.trans hy))⟩
    split at h
    · obtain ⟨h0, h⟩ := h
      refine ⟨_, fun t2 ht cx w μ M A hA o ho => ⟨_, ?_, mkInt _ _⟩, h⟩
      obtain ⟨e1, e2⟩ := ev t2 ht cx w μ M A hA
      simp only [execOp, ho, e1, e2, Sem.run_bind, eqGuard_at_int, Sem.run_pure, Result.andThen_ok, binOp_shl, Op.shift]
      rw [if_neg (by omega)]
      simp
    · obtain ⟨h0, h⟩ := h
      refine ⟨_, fun t2 ht cx w μ M A hA o ho => ⟨_, ?_, mkInt _ _⟩, h⟩
      obtain ⟨e1, e2⟩ := ev t2 ht cx w μ M A hA
      simp only [execOp, ho, e1, e2, Sem.run_bind, eqGuard_at_int, Sem.run_pure, Result.andThen_ok, binOp_shr, Op.shift]
      rw [if_neg (by omega)]
      simp
    · rename_i n1 n2
      split at h
      · rename_i hk
        subst hk
        obtain ⟨v, hv, h⟩ := binI_ok n1 n2 h
        refine ⟨_, fun t2 ht cx w μ M A hA o ho => ?_, h⟩
        obtain ⟨e1, e2⟩ := ev t2 ht cx w μ M A hA
        obtain ⟨u, hu, hr⟩ := hv ty w
        exact ⟨u, by simp [execOp, ho, e1, e2, eqGuard_at_int, hu], hr M⟩
      · exact h.elim
  · rename_i a b hx hy
    split at h
    · rename_i hte
      have htd : P.underlying ty = some .bool := (hti _ _ hte).td
      have ev : ∀ t2, (∀ j, Operand.tmp j ∈ (Op.binOp op ty x y yt).operands → look t2 j = look t j) → ∀ (cx : Cx) (w : World) μ M (A : Act), Tmps cx w μ M t2 A → A.eval x = .bool a ∧ A.eval y = .bool b := by
        intro t2 ht cx w μ M A hA
        exact ⟨RelV.bool_inv (opd_rel hA ((cx_ t2 ht).1.trans hx)), RelV.bool_inv (opd_rel hA ((cx_ t2 ht).2.trans hy))⟩
      split at h
      · refine ⟨_, fun t2 ht cx w μ M A hA o ho => ⟨.bool (a == b), ?_, mkBool _⟩, h⟩
        obtain ⟨e1, e2⟩ := ev t2 ht cx w μ M A hA
        simp [execOp, ho, e1, e2, eqGuard_at_bool, binOp, Op.equal, Op.maxDepth, run_equalIn_bool' w _ ty a b htd]
      · refine ⟨_, fun t2 ht cx w μ M A hA o ho => ⟨.bool (!(a == b)), ?_, mkBool _⟩, h⟩
        obtain ⟨e1, e2⟩ := ev t2 ht cx w μ M A hA
        simp [execOp, ho, e1, e2, eqGuard_at_bool, binOp, Op.equal, Op.maxDepth, run_equalIn_bool' w _ ty a b htd]
      · exact h.elim
    · exact h.elim
  · rename_i l l' hx hy
    split at h
    · rename_i sz by_ ag z und hte
      have htk := hti _ _ hte
      obtain ⟨ks, hks, hgd, hag, zl, hzl1, hzl2⟩ := htk.eq rfl
      have hagg := htk.agg
      dsimp only at hag hagg
      subst hag
      split at h
      · rename_i r r' hr hr'
        have run : ∀ t2, (∀ j, Operand.tmp j ∈ (Op.binOp op ty x y yt).operands → look t2 j = look t j) → ∀ (cx : Cx) (w : World) μ M (A : Act), Tmps cx w μ M t2 A →
            ∃ xs ys, A.eval x = .agg xs ∧ A.eval y = .agg ys ∧ (Op.equalIn 10000 ty (.agg xs) (.agg ys)).run P w = .ok r w := by
          intro t2 ht cx w μ M A hA
          obtain ⟨xs, ex, sx, rx⟩ := opd_rel hA ((cx_ t2 ht).1.trans hx)
          obtain ⟨ys, ey, sy, ry⟩ := opd_rel hA ((cx_ t2 ht).2.trans hy)
          refine ⟨xs, ys, ex, ey, ?_⟩
          have e := eqCells_sound (us := xs.toList) (vs := ys.toList) hr (by simpa using sx) (by simpa using sy) rx.toList ry.toList
          have fx : listFit ks xs.toList := eqCells_fit hr' hzl1 hzl2 (by simpa using sx) rx.toList
          have fy : listFit ks ys.toList := eqCells_fit2 hr fx (by simpa using sx) (by simpa using sy) rx.toList ry.toList
          have := (eq_sound P w 20).1 ty ks hks (.agg xs) (.agg ys) (by simp only [fitT, hagg]; exact ⟨xs.toList, by simp, fx⟩) (by simp only [fitT, hagg]; exact ⟨ys.toList, by simp, fy⟩) 9980
          simp only [Value.cells] at this
          rw [e] at this
          exact this
        split at h
        · refine ⟨_, fun t2 ht cx w μ M A hA o ho => ⟨.bool r, ?_, mkBool _⟩, h⟩
          obtain ⟨xs, ys, e1, e2, hrun⟩ := run t2 ht cx w μ M A hA
          simp only [execOp, ho, e1, e2, Sem.run_bind, run_eqGuard_agg w _ ty x y xs ys hgd, Result.andThen_ok, run_eql_struct, hrun, Sem.run_pure]
        · refine ⟨_, fun t2 ht cx w μ M A hA o ho => ⟨.bool (!r), ?_, mkBool _⟩, h⟩
          obtain ⟨xs, ys, e1, e2, hrun⟩ := run t2 ht cx w μ M A hA
          simp only [execOp, ho, e1, e2, Sem.run_bind, run_eqGuard_agg w _ ty x y xs ys hgd, Result.andThen_ok, run_neq_struct, hrun, Sem.run_pure]
        · exact h.elim
      · exact h.elim
    · exact h.elim
  · rename_i cs n hx
    split at h
    · rename_i sz by_ ag eq z e hte
      split at h
      · rename_i hy
        refine nilcase n (fun cx w μ M A t2 ht hA => ?_) e (hti _ _ hte).td hy h
        exact row_slice (opd_rel hA ((cx_ t2 ht).1.trans hx))
      · exact h.elim
    · exact h.elim
  · rename_i cs n hx
    split at h
    · rename_i sz by_ ag eq z e hte
      split at h
      · rename_i hy
        refine nilcase n (fun cx w μ M A t2 ht hA => ?_) e (hti _ _ hte).td hy h
        exact row_slice (opd_rel hA ((cx_ t2 ht).1.trans hx)).1
      · exact h.elim
    · exact h.elim
  · rename_i b off n sp es ex hx
    split at h
    · rename_i sz by_ ag eq z e hte
      split at h
      · rename_i hy
        refine nilcase n (fun cx w μ M A t2 ht hA => ?_) e (hti _ _ hte).td hy h
        rcases opd_rel hA ((cx_ t2 ht).1.trans hx) with ⟨h1, _, _, _, a, h5⟩ | ⟨k', cap, _, h2, _⟩
        · subst h1; exact ⟨a, 0, h5, fun _ => rfl⟩
        · exact ⟨_, cap, h2, fun h => by cases h⟩
      · exact h.elim
    · exact h.elim
  · exact h.elim
end Gx
