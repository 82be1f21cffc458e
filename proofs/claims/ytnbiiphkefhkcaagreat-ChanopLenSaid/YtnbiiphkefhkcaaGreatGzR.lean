import Derived.Test.YtnbiiphkefhkcaaGreatGzA
import Derived.ProofKit
import Derived.Below
set_option linter.unusedVariables false
set_option linter.unusedSimpArgs false
namespace Gx
open Go Go.RowKit

/-! From a function's spec to a call from outside -/
def cx0 (w : World) : Cx := { w0 := w, μ0 := fun _ => none, k := 0, X := fun _ => False, df := [] }
theorem cx0_mut (w : World) (k : Nat) : ¬ Mut (cx0 w) (cx0 w).μ0 [] k := by
  rintro (h | ⟨b, ⟨l, h⟩, _⟩)
  · exact h
  · simp [look] at h
theorem cx0_good (w : World) : GoodB (cx0 w) (cx0 w).μ0 [] w := by
  refine ⟨fun b l h => by simp [look] at h, fun b b' k h => ?_, fun b k h => ?_, fun b k h => ?_, fun b h => rfl, fun b h => absurd h (Nat.not_lt_zero _), fun b h => absurd h (Nat.not_lt_zero _), fun k h => h.elim, Evo.refl _ _⟩
  all_goals (obtain ⟨l, h⟩ := h; simp [look] at h)
theorem law_calls {P : Program} {f : FuncId} {args : List D} {vs : Array Value} (h : FSpec P f 0 [] args (.d (.sc (.v (.bool true)))) []) (w : World) (hr : RelDs (cx0 w) w (cx0 w).μ0 (Mut (cx0 w) (cx0 w).μ0 []) args vs) :
    Calls P f vs w fun e w' => e = .returned (.bool true) ∧ Below w.heap.size w w' := by
  refine h.2 (cx0 w) w vs rfl rfl rfl (cx0_good w) hr _ fun u μ' w' g hu => ?_
  have hu' : RelV w' (Mut (cx0 w) μ' []) (.bool true) u := hu
  cases hu'
  refine ⟨rfl, g.evo.os, g.evo.tape, g.evo.output, g.evo.size, fun k hk => ?_⟩
  have hs : w.heap[k]? = some w.heap[k] := by rw [Array.getElem?_eq_some_iff]; exact ⟨hk, rfl⟩
  rw [hs]
  exact g.evo.same k _ hs fun ⟨b, hb, _⟩ => absurd hb (Nat.not_lt_zero _)
def IsRow (k : IntKind) (w : World) (a : Option Addr) (len cap : Nat) (zs : List Int) : Prop :=
  (a = none ∧ len = 0 ∧ cap = 0 ∧ zs = []) ∨
  ∃ x, a = some x ∧ len ≤ cap ∧ cap ≤ maxLen ∧ zs.length = cap ∧ (∀ i, i < zs.length → w.cell? (x.add i) = some (.int k (zs.getD i 0))) ∧ ∀ n ∈ zs, (Lit.int k n).wf = true
theorem spot_of_cell {w : World} {a : Addr} {u : Value} (h : w.cell? a = some u) : a.spot = none := by
  unfold World.cell? at h
  split at h
  · split at h
    · cases h
    · rename_i hs; simpa using hs
  · cases h
theorem relV_row {k : IntKind} {w : World} {M : Nat → Prop} (hM : ∀ j, ¬ M j) {a : Option Addr} {len cap : Nat} {zs : List Int} (h : IsRow k w a len cap zs) : RelV w M (.row ((zs.take len).map (V.int k)) (zs.take len).length) (.slice a len cap) := by
  rcases h with ⟨rfl, rfl, rfl, rfl⟩ | ⟨x, rfl, h1, h2, h3, h4, h5⟩
  · exact .nilRow
  · have hl : (zs.take len).length = len := by simp; omega
    have hne : (zs.take len).map (V.int k) ≠ [] → 0 < zs.length := by
      intro h
      rcases Nat.eq_zero_or_pos zs.length with e | e
      · have : zs = [] := List.length_eq_zero_iff.1 e
        subst this; simp at h
      · exact e
    have hsp : (zs.take len).map (V.int k) ≠ [] → x.spot = none := fun h => spot_of_cell (a := x.add 0) (h4 0 (hne h))
    have get : ∀ (i : Nat) y, ((zs.take len).map (V.int k))[i]? = some y → i < zs.length ∧ y = .int k (zs.getD i 0) := by
      intro i y hi
      rw [List.getElem?_map] at hi
      cases hz : (zs.take len)[i]? with
      | none => rw [hz] at hi; cases hi
      | some z =>
        rw [hz] at hi; injection hi with hi
        rw [List.getElem?_take] at hz
        split at hz
        · have hlt : i < zs.length := by
            rw [List.getElem?_eq_some_iff] at hz; exact hz.1
          exact ⟨hlt, by rw [← hi, List.getD_eq_getElem?_getD, hz]; rfl⟩
        · cases hz
    rw [hl]
    refine .row _ _ x cap (fun i => .int k (zs.getD i 0)) h1 (fun h => ?_) (fun h => ⟨hsp h, hM _⟩) (fun i y hi => ?_) (fun i y hi => ?_)
    · intro e
      have : (zs.take len).length = 0 := by simpa using congrArg List.length e
      omega
    · have hlt := (get i y hi).1
      have hn : (zs.take len).map (V.int k) ≠ [] := by intro e; rw [e] at hi; simp at hi
      have := h4 i hlt
      have e : x.add i = ⟨x.block, x.off + i, none⟩ := by
        have hs := hsp hn
        cases x
        simp only at hs
        subst hs
        simp [Addr.add]
      rw [e] at this
      exact this
    · rw [(get i y hi).2]; exact .int k _
theorem bytes_of {w : World} {a : Option Addr} {len cap : Nat} {zs : List Int} (h : IsRow .u8 w a len cap zs) : ∀ x, x ∈ zs.take len → 0 ≤ x ∧ x < 256 := by
  intro x hx
  have hx' := List.mem_of_mem_take hx
  rcases h with ⟨_, _, _, rfl⟩ | ⟨_, _, _, _, _, _, h5⟩
  · simp at hx'
  · have := h5 x hx'
    simp [Lit.wf, IntKind.min, IntKind.max, IntKind.signed, IntKind.bits] at this
    omega
end Gx
