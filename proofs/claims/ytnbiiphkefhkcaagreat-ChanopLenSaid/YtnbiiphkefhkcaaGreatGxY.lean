import Derived.Test.YtnbiiphkefhkcaaGreatGxS
import Derived.Recover
set_option linter.unusedVariables false
set_option linter.unusedSimpArgs false
namespace Gx
open Go

/-! ### A function that defers one call of a closure, which looks for a panic -/
def cxD (cx : Cx) (d : Deferred) : Cx := { cx with df := [d] }
theorem goodB_df {cx : Cx} {d : Deferred} {μ : Nat → Option (Option Nat)} {σ : List (Nat × Option Blk)} {w : World} (g : GoodB cx μ σ w) : GoodB (cxD cx d) μ σ w :=
  ⟨g.blks, g.inj, g.disj, g.own, g.fresh, g.dom, g.ext, g.xlt, g.evo⟩
theorem goodB_fd {cx : Cx} {d : Deferred} {μ : Nat → Option (Option Nat)} {σ : List (Nat × Option Blk)} {w : World} (g : GoodB (cxD cx d) μ σ w) : GoodB cx μ σ w :=
  ⟨g.blks, g.inj, g.disj, g.own, g.fresh, g.dom, g.ext, g.xlt, g.evo⟩
def dfr (g : FuncId) (v1 v2 : Value) : Deferred := { target := .fn (.func g) #[v1, v2], args := #[] }
section
variable {P : Program} {ti : TypeId → Option TI}
theorem fspec_defer (hP : PK P ti) {f g : FuncId} {fn : Func} {r0 r1 c2 : Code} {k : Nat} {σ σ' : List (Nat × Option Blk)} {args : List D} {res : T} {s1 : St} (he : EnterOK P f)
    (hf : P.funcs[f]? = some fn) (hb : fn.body = some (.seq r0 (.seq r1 c2))) (hk : k ≤ 64) (j i1 i2 b1 b2 : Nat)
    (h0 : WpT P (ev ti r0 (entrySt fn σ args) fun e s => .done e s) fun e s => e = .normal ∧ s = s1)
    (ht1 : look s1.t i1 = some (.d (.sc (.ptr b1 0)))) (ht2 : look s1.t i2 = some (.d (.sc (.ptr b2 0)))) (hj : look s1.t j = none) (hm : j < s1.m)
    (h1 : ∀ (A : Act) (w : World) (v1 v2 : Value) (Q : Exit → Act → World → Prop), A.tmps[i1]? = some v1 → A.tmps[i2]? = some v2 → j < A.tmps.size →
      Q .normal { A with tmps := A.tmps.setIfInBounds j (.func (.func g) #[] #[v1, v2]), defers := dfr g v1 v2 :: A.defers } w → r1.wp P Q A w)
    (h2 : CWp P c2 s1 (Done ti fn.results.toList k res σ'))
    (hi : ∀ v1 v2 w, (invoke (.fn (.func g) #[v1, v2]) #[]).run P w = .ok (.enter g #[v1, v2]) w)
    (hc : ∀ v1 v2 w, CallsD P g #[v1, v2] .returning w fun e u' w' => e = .returned (.tuple #[]) ∧ u' = .returning ∧ w' = w) : FSpec P f k σ args res σ' := by
  refine ⟨he, fun cx w vs hw hck hdf gg hr R hR => ?_⟩
  refine calls_of_wp_defers hf hb ?_
  have gd : Good cx cx.μ0 (entrySt fn σ args) { tmps := vs ++ Array.replicate (fn.ntmps - vs.size) undef, defers := [] } w := by
    refine ⟨gg, hdf.symm, by simp [entrySt, hr.1], fun i x hx => ?_⟩
    obtain ⟨_, y, h1, rfl⟩ := look_enum hx
    obtain ⟨u, h2, h3⟩ := hr.2 _ _ h1
    refine ⟨u, ?_, h3⟩
    simp only [Nat.sub_zero] at h2
    have : i < vs.size := by
      rw [Array.getElem?_eq_some_iff] at h2; exact h2.1
    simp [Array.getElem?_append_left this, h2]
  refine wp_seq ((ev_ok hP r0 _ _ h0) cx (by omega) cx.μ0 _ w gd _ fun e s μ A w1 hs g1 => ?_)
  obtain ⟨rfl, rfl⟩ := hs
  show (Code.seq r1 c2).wp P _ A w1
  refine wp_seq ?_
  obtain ⟨v1, a1, k1, m1, e1⟩ := g1.temps _ _ ht1
  obtain ⟨v2, a2, k2, m2, e2⟩ := g1.temps _ _ ht2
  refine h1 A w1 v1 v2 _ a1 a2 (by rw [g1.size]; exact hm) ?_
  show c2.wp P _ _ w1
  have hde : A.defers = [] := g1.defers.trans hdf
  have g2 : Good (cxD cx (dfr g v1 v2)) μ s { A with tmps := A.tmps.setIfInBounds j (.func (.func g) #[] #[v1, v2]), defers := dfr g v1 v2 :: A.defers } w1 := by
    refine ⟨goodB_df g1.toGoodB, by rw [hde]; rfl, by simpa using g1.size, fun i x hx => ?_⟩
    obtain ⟨u, h3, h4⟩ := g1.temps i x hx
    refine ⟨u, ?_, h4⟩
    have : j ≠ i := by rintro rfl; rw [hj] at hx; cases hx
    rw [Array.getElem?_setIfInBounds_ne this]; exact h3
  refine h2 (cxD cx (dfr g v1 v2)) (by show cx.k ≤ 64; omega) μ _ w1 g2 _ ?_
  rintro e s' μ' A' w' ⟨hex, r0, q1, q2, q3⟩ g'
  have hl : ∀ b, live σ' b → live s'.σ b := fun b ⟨l, hb⟩ => (q3.blk b l hb).elim fun bl hbl => ⟨bl, hbl.1⟩
  obtain ⟨u, hu, hru⟩ := resT_ok hP.ty g' q1
  have fin : Leaves P fn A'.tmps R A'.defers .returning w' := by
    have : A'.defers = [dfr g v1 v2] := g'.defers
    rw [this]
    refine leaves_cons (by simp) (hi v1 v2 w') ((hc v1 v2 w').mono ?_)
    rintro e u' w'' ⟨rfl, rfl, rfl⟩
    exact ⟨u, hu, hR u _ w'' (goodB_fd (goodB_frz g'.toGoodB q3.blk q3.dead fun b hb => q3.low b (Nat.lt_of_lt_of_eq (show b < cx.k from hb) hck))) (frT_rel g'.toGoodB hl q2 hru)⟩
  rcases hex with rfl | rfl
  · exact fin
  · exact fin
end
end Gx
