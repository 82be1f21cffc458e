import Derived.Test.YtnbiiphkefhkcaaGreatGxG
set_option linter.unusedVariables false
set_option linter.unusedSimpArgs false
namespace Gx
open Go

/-! ### Cells written into a row -/
def putN {α : Type} (l : List α) (off : Nat) (cs : List α) : List α := l.take off ++ cs ++ l.drop (off + cs.length)
theorem putN_get {α : Type} (l : List α) (off : Nat) (cs : List α) (h : off + cs.length ≤ l.length) (i : Nat) :
    (putN l off cs)[i]? = if i < off then l[i]? else if i < off + cs.length then cs[i - off]? else l[i]? := by
  unfold putN
  have h1 : (l.take off).length = off := by simp; omega
  by_cases a : i < off
  · rw [if_pos a, List.append_assoc, List.getElem?_append_left (by omega), List.getElem?_take, if_pos a]
  · rw [if_neg a]
    by_cases b : i < off + cs.length
    · rw [if_pos b, List.append_assoc, List.getElem?_append_right (by omega), List.getElem?_append_left (by omega), h1]
    · rw [if_neg b, List.getElem?_append_right (by simp; omega), List.getElem?_drop]
      congr 1
      simp; omega
theorem putN_length {α : Type} (l : List α) (off : Nat) (cs : List α) (h : off + cs.length ≤ l.length) : (putN l off cs).length = l.length := by
  unfold putN; simp; omega

structure WrAt (arr arr' : Array Value) (off : Nat) (us : List Value) : Prop where
  size : arr'.size = arr.size
  get : ∀ i : Nat, arr'[i]? = if off ≤ i ∧ i < off + us.length then us[i - off]? else arr[i]?

section
variable {cx : Cx} {w : World} {μ : Nat → Option (Option Nat)} {M : Nat → Prop}
theorem RelL.put {l cs : List S} {arr arr' : Array Value} {off : Nat} {us : List Value} (h : RelL cx w μ M l arr) (hw : WrAt arr arr' off us) (hl : cs.length = us.length)
    (hc : ∀ (i : Nat) x, cs[i]? = some x → ∃ u, us[i]? = some u ∧ RelS cx w μ M x u) (hb : off + cs.length ≤ l.length) : RelL cx w μ M (putN l off cs) arr' := by
  intro i x hi
  rw [putN_get l off cs hb] at hi
  rw [hw.get]
  split at hi
  · rw [if_neg (by omega)]; exact h i x hi
  · split at hi
    · rw [if_pos (by omega)]; exact hc _ x hi
    · rw [if_neg (by omega)]; exact h i x hi
end

theorem foldl_wrAt (off : Nat) : ∀ (us : List Value) (k : Nat) (arr : Array Value), off + k + us.length ≤ arr.size →
    WrAt arr ((us.zipIdx k).foldl (fun cs p => cs.setIfInBounds (off + p.2) p.1) arr) (off + k) us
  | [], k, arr, h => ⟨rfl, fun i => by rw [if_neg (by simp)]; rfl⟩
  | u :: us, k, arr, h => by
    simp only [List.length_cons] at h
    have ih := foldl_wrAt off us (k + 1) (arr.setIfInBounds (off + k) u) (by simp; omega)
    refine ⟨by simpa [List.zipIdx_cons] using ih.size, fun i => ?_⟩
    simp only [List.zipIdx_cons, List.foldl_cons]
    rw [ih.get i]
    simp only [List.length_cons]
    by_cases a : i = off + k
    · subst a
      rw [if_neg (by omega), if_pos (by omega)]
      have : off + k < arr.size := by omega
      simp [this]
    · by_cases b : off + (k + 1) ≤ i ∧ i < off + (k + 1) + us.length
      · rw [if_pos b, if_pos (by omega)]
        have e : i - (off + k) = (i - (off + (k + 1))) + 1 := by omega
        rw [e]; rfl
      · rw [if_neg b, if_neg (by omega), Array.getElem?_setIfInBounds_ne (by omega)]

def S.st : S → Bool
  | .keep _ _ => false
  | .any => false
  | _ => true
def D.cells : D → List S
  | .sc s => [s]
  | .agg l => l
def D.st : D → Bool
  | .sc s => s.st
  | .agg _ => true
theorem st_one {cx : Cx} {w : World} {μ : Nat → Option (Option Nat)} {M : Nat → Prop} {s : S} {u : Value} (h : s.st = true) (hu : RelS cx w μ M s u) : u.oneCell' = true ∧ u.cells = #[u] := by
  have key : ∀ v : Value, v.oneCell' = true → v.cells = #[v] := fun v hv => by cases v <;> first | rfl | cases hv
  have k2 : u.oneCell' = true := by
    cases s with
    | v x => cases hu <;> rfl
    | xrow cs n => obtain ⟨h1, _⟩ := hu; cases h1 <;> rfl
    | ptr b off => obtain ⟨k, _, rfl⟩ := hu; rfl
    | eptr cs off => obtain ⟨a, rfl, _⟩ := hu; rfl
    | mrow => rcases hu with ⟨_, _, _, _, a, rfl⟩ | ⟨k, cap, _, rfl, _⟩ <;> rfl
    | clo f bs => obtain ⟨ks, _, _, rfl⟩ := hu; rfl
    | keep => cases h
    | ub p => obtain ⟨b, rfl, _⟩ := hu; rfl
    | any => cases h
  exact ⟨k2, key u k2⟩
theorem cells_rel {cx : Cx} {w : World} {μ : Nat → Option (Option Nat)} {M : Nat → Prop} {d : D} {u : Value} (h : d.st = true) (hu : RelD cx w μ M d u) :
    u.cells.size = d.cells.length ∧ ∀ (i : Nat) x, d.cells[i]? = some x → ∃ v, u.cells.toList[i]? = some v ∧ RelS cx w μ M x v := by
  cases d with
  | sc s =>
    obtain ⟨_, h2⟩ := st_one h hu
    rw [h2]
    refine ⟨rfl, fun i x hi => ?_⟩
    cases i with
    | zero => simp [D.cells] at hi; subst hi; exact ⟨u, rfl, hu⟩
    | succ i => simp [D.cells] at hi
  | agg l =>
    obtain ⟨arr, rfl, hs, hr⟩ := hu
    exact ⟨hs, hr.toList⟩

def fillS (place : Nat → Option (Nat × Nat)) (cells : List S) : List (Nat × D) → Option (List S)
  | [] => some cells
  | (i, d) :: rest => match place i with
    | none => none
    | some (off, size) => if d.st && Nat.beq d.cells.length size && Nat.ble (off + size) cells.length then fillS place (putN cells off d.cells) rest else none

theorem fill_rel {cx : Cx} {w : World} {μ : Nat → Option (Option Nat)} {M : Nat → Prop} {place : Nat → Option (Nat × Nat)} : ∀ {parts : List (Nat × D)} {vs : List (Nat × Value)} {l r : List S} {arr : Array Value},
    fillS place l parts = some r → RelL cx w μ M l arr → l.length = arr.size → vs.map (·.1) = parts.map (·.1) → (∀ (i : Nat) p v, parts[i]? = some p → vs[i]? = some v → RelD cx w μ M p.2 v.2) →
    ∃ arr', Instr.fill place arr vs = some arr' ∧ RelL cx w μ M r arr' ∧ arr'.size = arr.size ∧ r.length = l.length
  | [], [], l, r, arr, h, hr, hl, _, _ => by simp only [fillS] at h; injection h with h; subst h; exact ⟨arr, rfl, hr, rfl, rfl⟩
  | [], _ :: _, _, _, _, _, _, _, hm, _ => by simp at hm
  | _ :: _, [], _, _, _, _, _, _, hm, _ => by simp at hm
  | (i, d) :: parts, (i', v) :: vs, l, r, arr, h, hr, hl, hm, hp => by
    simp only [List.map_cons, List.cons.injEq] at hm
    obtain ⟨rfl, hm⟩ := hm
    simp only [fillS] at h
    split at h
    · cases h
    · rename_i off size hpl
      split at h
      · rename_i hc
        simp only [Bool.and_eq_true] at hc
        obtain ⟨⟨c1, c2⟩, c3⟩ := hc
        have c2' : d.cells.length = size := Nat.eq_of_beq_eq_true c2
        have c3' := Nat.le_of_ble_eq_true c3
        have hd := hp 0 (i', d) (i', v) rfl rfl
        obtain ⟨e1, e2⟩ := cells_rel c1 hd
        dsimp only at e1 e2
        have hw := foldl_wrAt off v.cells.toList 0 arr (by simp; omega)
        rw [Nat.add_zero] at hw
        have hr' := hr.put hw (by simp; omega) e2 (by omega)
        have hlen : (putN l off d.cells).length = l.length := putN_length _ _ _ (by omega)
        obtain ⟨arr', f1, f2, f3, f4⟩ := fill_rel h hr' (by rw [hlen, hl, hw.size]) hm (fun j p u h1 h2 => hp (j + 1) p u (by simpa using h1) (by simpa using h2))
        refine ⟨arr', ?_, f2, f3.trans hw.size, f4.trans hlen⟩
        simp only [Instr.fill, hpl]
        rw [if_neg (by simp; omega)]
        rw [← f1]
        congr 1
        rw [← Array.foldl_toList]
        simp
      · cases h

/-! storing -/
theorem run_storeCells_row {P : Program} {k : Nat} {ty : TypeId} {off : Nat} : ∀ (us : List Value) (i : Nat) (w : World) (arr : Array Value), w.heap[k]? = some (Obj.cells arr ty (0, 0)) → off + i + us.length ≤ arr.size →
    (∀ u ∈ us, u.oneCell' = true) → ∃ w' arr', (storeCells ⟨k, off, none⟩ us i).run P w = .ok () w' ∧ WSet w w' k arr' ty ∧ WrAt arr arr' (off + i) us
  | [], i, w, arr, hk, hb, ho => ⟨w, arr, rfl, ⟨hk, fun _ _ => rfl, rfl, rfl, rfl, rfl⟩, ⟨rfl, fun j => by rw [if_neg (by simp)]⟩⟩
  | u :: us, i, w, arr, hk, hb, ho => by
    simp only [List.length_cons] at hb
    have hlt : off + i < arr.size := by omega
    have hu : u.oneCell' = true := ho u (by simp)
    have hc : w.cell? ⟨k, off + i, none⟩ = some arr[off + i] := by
      rw [cell_of_row w k (off + i) arr ty (0, 0) hk]; simp [hlt]
    have hf : w.frozen? ⟨k, off + i, none⟩ = false := frozen_of_row w k (off + i) arr ty hk
    have hk' : (w.setCell ⟨k, off + i, none⟩ u).heap[k]? = some (Obj.cells (arr.setIfInBounds (off + i) u) ty (0, 0)) := heap_setCell_same w k (off + i) arr ty u hk
    obtain ⟨w', arr', h1, h2, h3⟩ := run_storeCells_row (P := P) (k := k) (ty := ty) (off := off) us (i + 1) (w.setCell ⟨k, off + i, none⟩ u) (arr.setIfInBounds (off + i) u) hk' (by simp; omega) fun v hv => ho v (by simp [hv])
    have e : (⟨k, off, none⟩ : Addr).add i = ⟨k, off + i, none⟩ := Addr.add_lit ..
    refine ⟨w', arr', ?_, ⟨h2.here, fun j hj => ?_, ?_, h2.os, h2.tape, h2.output⟩, ⟨?_, fun j => ?_⟩⟩
    · simp only [storeCells, Sem.run_bind, e, run_store P w _ u _ hu, hc, hf, Bool.false_eq_true, if_false, Result.andThen_ok, h1]
    · rw [h2.there j hj, heap_setCell_other w _ j u hj]
    · rw [h2.size]; simp [World.setCell]
    · rw [h3.size]; simp
    · rw [h3.get j]
      simp only [List.length_cons]
      by_cases a : j = off + i
      · subst a
        rw [if_neg (by omega), if_pos (by omega)]
        simp [hlt]
      · by_cases b : off + (i + 1) ≤ j ∧ j < off + (i + 1) + us.length
        · rw [if_pos b, if_pos (by omega)]
          have e2 : j - (off + i) = (j - (off + (i + 1))) + 1 := by omega
          rw [e2]; rfl
        · rw [if_neg b, if_neg (by omega), Array.getElem?_setIfInBounds_ne (by omega)]
end Gx
