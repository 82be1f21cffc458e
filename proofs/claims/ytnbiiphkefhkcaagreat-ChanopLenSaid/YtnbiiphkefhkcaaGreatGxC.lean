import Derived.Test.YtnbiiphkefhkcaaGreatGxB
import Derived.Laws.StructEq
import Derived.Laws.Append
import Derived.Laws.Rows
import Derived.Laws.World
set_option linter.unusedVariables false
set_option linter.unusedSimpArgs false
namespace Gx
open Go

/-! ### How a state goes on -/
theorem good_step {cx : Cx} {μ μ' : Nat → Option (Option Nat)} {s : St} {σ' : List (Nat × Option Blk)} {A : Act} {w w' : World}
    (g : Good cx μ s A w) (g' : GoodB cx μ' σ' w') (st : Stab w w' (Mut cx μ s.σ) (Mut cx μ' σ')) (sh : Shape w w') (ex : Ext μ μ') :
    Good cx μ' { s with σ := σ' } A w' :=
  ⟨g', g.defers, g.size, fun i x hx => (g.temps i x hx).imp fun u hu => ⟨hu.1, hu.2.stab st sh ex⟩⟩

theorem put_size (A : Act) (d : Option Nat) (u : Value) : (A.put d u).tmps.size = A.tmps.size := by cases d <;> simp [Act.put]
theorem put_defers (A : Act) (d : Option Nat) (u : Value) : (A.put d u).defers = A.defers := by cases d <;> rfl

theorem good_put {cx : Cx} {μ : Nat → Option (Option Nat)} {s : St} {A : Act} {w : World} {d : Nat} {x : T} {u : Value}
    (g : Good cx μ s A w) (hd : d < s.m) (hx : RelT cx w μ (Mut cx μ s.σ) x u) : Good cx μ { s with t := (d, x) :: s.t } (A.put (some d) u) w := by
  refine ⟨g.toGoodB, (put_defers ..).trans g.defers, (put_size ..).trans g.size, fun i y hy => ?_⟩
  have hs : d < A.tmps.size := by rw [g.size]; exact hd
  rw [look_cons] at hy
  by_cases h : d = i
  · subst h
    rw [if_pos rfl] at hy
    injection hy with hy
    subst hy
    exact ⟨u, by simp [Act.put, hs], hx⟩
  · rw [if_neg h] at hy
    obtain ⟨v, h1, h2⟩ := g.temps i y hy
    exact ⟨v, by simp [Act.put, Array.getElem?_setIfInBounds, h, h1], h2⟩

/-- One block, and no other thing, is another. -/
structure WSet (w w' : World) (k : Nat) (arr' : Array Value) (ty : TypeId) : Prop where
  here : w'.heap[k]? = some (Obj.cells arr' ty (0, 0))
  there : ∀ j, j ≠ k → w'.heap[j]? = w.heap[j]?
  size : w'.heap.size = w.heap.size
  os : w'.os = w.os
  tape : w'.tape = w.tape
  output : w'.output = w.output
structure WNew (w w' : World) (arr : Array Value) (ty : TypeId) : Prop where
  heap : w'.heap = w.heap.push (Obj.cells arr ty (0, 0))
  os : w'.os = w.os
  tape : w'.tape = w.tape
  output : w'.output = w.output

theorem WNew.old {w w' : World} {arr : Array Value} {ty : TypeId} (h : WNew w w' arr ty) {k : Nat} (hk : k < w.heap.size) : w'.heap[k]? = w.heap[k]? := by
  rw [h.heap, Array.getElem?_push, if_neg (by omega)]
theorem WNew.new {w w' : World} {arr : Array Value} {ty : TypeId} (h : WNew w w' arr ty) : w'.heap[w.heap.size]? = some (Obj.cells arr ty (0, 0)) := by
  rw [h.heap, Array.getElem?_push, if_pos rfl]
theorem WNew.same {w w' : World} {arr : Array Value} {ty : TypeId} (h : WNew w w' arr ty) (k : Nat) (o : Obj) (hk : w.heap[k]? = some o) : w'.heap[k]? = some o := by
  rw [h.old (Array.getElem?_eq_some_iff.1 hk).1]; exact hk
theorem WNew.shape {w w' : World} {arr : Array Value} {ty : TypeId} (h : WNew w w' arr ty) : Shape w w' := fun k a t hk => ⟨a, h.same k _ hk, rfl⟩
theorem WSet.shape {w w' : World} {k : Nat} {arr arr' : Array Value} {ty : TypeId} (h : WSet w w' k arr' ty) (hk : w.heap[k]? = some (Obj.cells arr ty (0, 0))) (hs : arr'.size = arr.size) : Shape w w' := by
  intro j a t hj
  by_cases e : j = k
  · subst e
    rw [hk] at hj; injection hj with hj; injection hj with h1 h2
    subst h1; subst h2
    exact ⟨arr', h.here, hs⟩
  · exact ⟨a, by rw [h.there j e]; exact hj, rfl⟩
theorem WSet.stab {w w' : World} {k : Nat} {arr' : Array Value} {ty : TypeId} (h : WSet w w' k arr' ty) {M M' : Nat → Prop} (hm : M k) (hM : ∀ j, M' j → M j) : Stab w w' M M' :=
  ⟨fun j o ho hj => by rw [h.there j (fun e => hj (e ▸ hm))]; exact ho, fun j o _ hj hj' => hj (hM j hj')⟩

theorem live_cons {σ : List (Nat × Option Blk)} {n b : Nat} {o : Option Blk} : live ((n, o) :: σ) b ↔ (n = b ∧ o.isSome = true) ∨ (n ≠ b ∧ live σ b) := by
  unfold live
  simp only [look_cons]
  by_cases h : n = b
  · subst h; simp [Option.isSome_iff_exists]
  · simp [h]

/-- A store into a block: its content is another one. -/
theorem goodB_set {cx : Cx} {μ : Nat → Option (Option Nat)} {σ : List (Nat × Option Blk)} {w w' : World} {b k : Nat} {arr arr' : Array Value} {ty : TypeId} {bl : Blk}
    (g : GoodB cx μ σ w) (hb : live σ b) (hμ : μ b = some (some k)) (hk : w.heap[k]? = some (Obj.cells arr ty (0, 0))) (h : WSet w w' k arr' ty) (hs : arr'.size = arr.size)
    (hl : bl.l.length ≤ arr'.size) (hr : RelL cx w μ (Mut cx μ σ) bl.l arr') :
    GoodB cx μ ((b, some bl) :: σ) w' ∧ Stab w w' (Mut cx μ σ) (Mut cx μ ((b, some bl) :: σ)) := by
  have hlive : ∀ b', live ((b, some bl) :: σ) b' ↔ live σ b' := by
    intro b'
    rw [live_cons]
    constructor
    · rintro (⟨rfl, _⟩ | ⟨_, h⟩)
      · exact hb
      · exact h
    · intro h'
      by_cases e : b = b'
      · exact .inl ⟨e, rfl⟩
      · exact .inr ⟨e, h'⟩
  have hM : Mut cx μ ((b, some bl) :: σ) = Mut cx μ σ := by funext j; unfold Mut; simp only [hlive]
  have hmk : Mut cx μ σ k := .inr ⟨b, hb, hμ⟩
  have st : Stab w w' (Mut cx μ σ) (Mut cx μ σ) := h.stab hmk fun _ x => x
  have sh := h.shape hk hs
  rw [hM]
  refine ⟨⟨fun b' l hb' => ?_, fun b1 b2 k' h1 h2 => g.inj b1 b2 k' ((hlive _).1 h1) ((hlive _).1 h2), fun b1 k' h1 => g.disj b1 k' ((hlive _).1 h1), fun b1 k' h1 => g.own b1 k' ((hlive _).1 h1), fun b1 h1 => ?_, fun b1 h1 => ?_, g.ext, g.xlt, ?_⟩, st⟩
  · rw [hM]
    rw [look_cons] at hb'
    by_cases e : b = b'
    · subst e
      rw [if_pos rfl] at hb'
      injection hb' with hb'; injection hb' with hb'; subst hb'
      exact .inr ⟨k, arr', ty, hμ, h.here, hl, hr.stab st sh (Ext.refl _)⟩
    · rw [if_neg e] at hb'
      rcases g.blks b' l hb' with h' | ⟨k', a2, t2, h1, h2, h3, h4⟩
      · exact .inl h'
      · have : k' ≠ k := fun e' => e (g.inj b b' k hb ⟨l, hb'⟩ hμ (e' ▸ h1))
        exact .inr ⟨k', a2, t2, h1, by rw [h.there k' this]; exact h2, h3, h4.stab st sh (Ext.refl _)⟩
  · rw [look_cons] at h1
    by_cases e : b = b1
    · rw [if_pos e] at h1; cases h1
    · rw [if_neg e] at h1; exact g.fresh b1 h1
  · rw [look_cons]
    by_cases e : b = b1
    · rw [if_pos e]; simp
    · rw [if_neg e]; exact g.dom b1 h1
  · have hfoot : k < cx.w0.heap.size → Foot cx k := g.own b k hb hμ
    refine ⟨h.os.trans g.evo.os, h.tape.trans g.evo.tape, h.output.trans g.evo.output, by rw [h.size]; exact g.evo.size, g.evo.shape.trans sh, fun j o hj hnf => ?_⟩
    have hjk : j ≠ k := by
      rintro rfl
      exact hnf (hfoot (Array.getElem?_eq_some_iff.1 hj).1)
    rw [h.there j hjk]
    exact g.evo.same j o hj hnf

def upd (μ : Nat → Option (Option Nat)) (n : Nat) (x : Option Nat) : Nat → Option (Option Nat) := fun b => if b = n then some x else μ b
theorem upd_same (μ : Nat → Option (Option Nat)) (n : Nat) (x : Option Nat) : upd μ n x n = some x := by simp [upd]
theorem upd_other {μ : Nat → Option (Option Nat)} {n b : Nat} {x : Option Nat} (h : b ≠ n) : upd μ n x b = μ b := by simp [upd, h]
theorem ext_upd {μ : Nat → Option (Option Nat)} {n : Nat} {x : Option Nat} (h : μ n = none) : Ext μ (upd μ n x) := fun b y hb => by
  by_cases e : b = n
  · subst e; rw [h] at hb; cases hb
  · rw [upd_other e]; exact hb

/-- A new block. -/
theorem goodB_new {cx : Cx} {μ : Nat → Option (Option Nat)} {σ : List (Nat × Option Blk)} {w w' : World} {n : Nat} {arr : Array Value} {ty : TypeId} {bl : Blk}
    (g : GoodB cx μ σ w) (hn : look σ n = none) (h : WNew w w' arr ty) (hl : bl.l.length ≤ arr.size) (hr : RelL cx w μ (Mut cx μ σ) bl.l arr) :
    GoodB cx (upd μ n (some w.heap.size)) ((n, some bl) :: σ) w' ∧ Stab w w' (Mut cx μ σ) (Mut cx (upd μ n (some w.heap.size)) ((n, some bl) :: σ)) ∧ Ext μ (upd μ n (some w.heap.size)) := by
  have hμn := g.fresh n hn
  have ex := ext_upd (x := some w.heap.size) hμn
  have hnl : ¬ live σ n := by rintro ⟨l, h'⟩; rw [hn] at h'; cases h'
  have hlive : ∀ b', live ((n, some bl) :: σ) b' ↔ n = b' ∨ live σ b' := by
    intro b'
    rw [live_cons]
    constructor
    · rintro (⟨rfl, _⟩ | ⟨_, h⟩)
      · exact .inl rfl
      · exact .inr h
    · rintro (rfl | h')
      · exact .inl ⟨rfl, rfl⟩
      · exact .inr ⟨fun e => hnl (e ▸ h'), h'⟩
  have hold : ∀ b k, live σ b → μ b = some (some k) → k < w.heap.size := by
    rintro b k ⟨l, hb⟩ hk
    rcases g.blks b l hb with ⟨h', _⟩ | ⟨k', a2, t2, h1, h2, _⟩
    · rw [hk] at h'; cases h'
    · rw [hk] at h1; injection h1 with h1; injection h1 with h1; subst h1
      exact (Array.getElem?_eq_some_iff.1 h2).1
  have hsz : cx.w0.heap.size ≤ w.heap.size := g.evo.size
  have st : Stab w w' (Mut cx μ σ) (Mut cx (upd μ n (some w.heap.size)) ((n, some bl) :: σ)) := by
    refine ⟨fun k o hk _ => h.same k o hk, fun k o hk hm hm' => ?_⟩
    have hlt := (Array.getElem?_eq_some_iff.1 hk).1
    rcases hm' with hx | ⟨b, hb, hbk⟩
    · exact hm (.inl hx)
    · by_cases e : b = n
      · subst e; rw [upd_same] at hbk; injection hbk with hbk; injection hbk with hbk; omega
      · rw [upd_other e] at hbk
        exact hm (.inr ⟨b, ((hlive b).1 hb).resolve_left (Ne.symm e), hbk⟩)
  have sh := h.shape
  refine ⟨⟨fun b' l hb' => ?_, fun b1 b2 k' h1 h2 e1 e2 => ?_, fun b1 k' h1 e1 hx => ?_, fun b1 k' h1 e1 hlt => ?_, fun b1 h1 => ?_, fun b1 h1 => ?_, fun b1 h1 => ?_, g.xlt, ?_⟩, st, ex⟩
  · rw [look_cons] at hb'
    by_cases e : n = b'
    · subst e
      rw [if_pos rfl] at hb'
      injection hb' with hb'; injection hb' with hb'; subst hb'
      exact .inr ⟨w.heap.size, arr, ty, upd_same .., h.new, hl, hr.stab st sh ex⟩
    · rw [if_neg e] at hb'
      rcases g.blks b' l hb' with h' | ⟨k', a2, t2, h1, h2, h3, h4⟩
      · exact .inl ⟨ex _ _ h'.1, h'.2⟩
      · exact .inr ⟨k', a2, t2, ex _ _ h1, h.same _ _ h2, h3, h4.stab st sh ex⟩
  · rw [hlive] at h1 h2
    by_cases a1 : b1 = n <;> by_cases a2 : b2 = n
    · exact a1.trans a2.symm
    · subst a1
      rw [upd_same] at e1; injection e1 with e1; injection e1 with e1
      rw [upd_other a2] at e2
      have := hold b2 k' (h2.resolve_left (Ne.symm a2)) e2
      omega
    · subst a2
      rw [upd_same] at e2; injection e2 with e2; injection e2 with e2
      rw [upd_other a1] at e1
      have := hold b1 k' (h1.resolve_left (Ne.symm a1)) e1
      omega
    · rw [upd_other a1] at e1; rw [upd_other a2] at e2
      exact g.inj b1 b2 k' (h1.resolve_left (Ne.symm a1)) (h2.resolve_left (Ne.symm a2)) e1 e2
  · rw [hlive] at h1
    by_cases a1 : b1 = n
    · subst a1
      rw [upd_same] at e1; injection e1 with e1; injection e1 with e1
      have := g.xlt _ hx; omega
    · rw [upd_other a1] at e1
      exact g.disj b1 k' (h1.resolve_left (Ne.symm a1)) e1 hx
  · rw [hlive] at h1
    by_cases a1 : b1 = n
    · subst a1
      rw [upd_same] at e1; injection e1 with e1; injection e1 with e1
      omega
    · rw [upd_other a1] at e1
      exact g.own b1 k' (h1.resolve_left (Ne.symm a1)) e1 hlt
  · rw [look_cons] at h1
    by_cases e : n = b1
    · rw [if_pos e] at h1; cases h1
    · rw [if_neg e] at h1; rw [upd_other (Ne.symm e)]; exact g.fresh b1 h1
  · rw [look_cons]
    by_cases e : n = b1
    · rw [if_pos e]; simp
    · rw [if_neg e]; exact g.dom b1 h1
  · have : b1 ≠ n := by rintro rfl; exact g.dom b1 h1 hn
    rw [upd_other this]; exact g.ext b1 h1
  · refine ⟨h.os.trans g.evo.os, h.tape.trans g.evo.tape, h.output.trans g.evo.output, ?_, g.evo.shape.trans sh, fun j o hj hnf => h.same j o (g.evo.same j o hj hnf)⟩
    rw [h.heap, Array.size_push]; omega

/-- A name without a block (an empty slice of nobody's). -/
theorem goodB_none {cx : Cx} {μ : Nat → Option (Option Nat)} {σ : List (Nat × Option Blk)} {w : World} {n : Nat} {bl : Blk}
    (g : GoodB cx μ σ w) (hn : look σ n = none) (hl : bl.l = []) :
    GoodB cx (upd μ n none) ((n, some bl) :: σ) w ∧ Stab w w (Mut cx μ σ) (Mut cx (upd μ n none) ((n, some bl) :: σ)) ∧ Ext μ (upd μ n none) := by
  have hμn := g.fresh n hn
  have ex := ext_upd (x := none) hμn
  have hnl : ¬ live σ n := by rintro ⟨l, h'⟩; rw [hn] at h'; cases h'
  have hlive : ∀ b', live ((n, some bl) :: σ) b' → n = b' ∨ live σ b' := by
    intro b'
    rw [live_cons]
    rintro (⟨rfl, _⟩ | ⟨_, h⟩)
    · exact .inl rfl
    · exact .inr h
  have key : ∀ b k, live ((n, some bl) :: σ) b → upd μ n none b = some (some k) → live σ b ∧ μ b = some (some k) := by
    intro b k hb hk
    by_cases e : b = n
    · subst e; rw [upd_same] at hk; cases hk
    · rw [upd_other e] at hk
      exact ⟨(hlive b hb).resolve_left (Ne.symm e), hk⟩
  have st : Stab w w (Mut cx μ σ) (Mut cx (upd μ n none) ((n, some bl) :: σ)) := by
    refine ⟨fun k o hk _ => hk, fun k o hk hm hm' => ?_⟩
    rcases hm' with hx | ⟨b, hb, hbk⟩
    · exact hm (.inl hx)
    · exact hm (.inr ⟨b, key b k hb hbk⟩)
  refine ⟨⟨fun b' l hb' => ?_, fun b1 b2 k' h1 h2 e1 e2 => ?_, fun b1 k' h1 e1 => ?_, fun b1 k' h1 e1 => ?_, fun b1 h1 => ?_, fun b1 h1 => ?_, fun b1 h1 => ?_, g.xlt, g.evo⟩, st, ex⟩
  · rw [look_cons] at hb'
    by_cases e : n = b'
    · subst e
      rw [if_pos rfl] at hb'
      injection hb' with hb'; injection hb' with hb'; subst hb'
      exact .inl ⟨upd_same .., hl⟩
    · rw [if_neg e] at hb'
      rcases g.blks b' l hb' with h' | ⟨k', a2, t2, h1, h2, h3, h4⟩
      · exact .inl ⟨ex _ _ h'.1, h'.2⟩
      · exact .inr ⟨k', a2, t2, ex _ _ h1, h2, h3, h4.stab st (Shape.refl _) ex⟩
  · obtain ⟨a1, c1⟩ := key _ _ h1 e1
    obtain ⟨a2, c2⟩ := key _ _ h2 e2
    exact g.inj b1 b2 k' a1 a2 c1 c2
  · obtain ⟨a1, c1⟩ := key _ _ h1 e1
    exact g.disj b1 k' a1 c1
  · obtain ⟨a1, c1⟩ := key _ _ h1 e1
    exact g.own b1 k' a1 c1
  · rw [look_cons] at h1
    by_cases e : n = b1
    · rw [if_pos e] at h1; cases h1
    · rw [if_neg e] at h1; rw [upd_other (Ne.symm e)]; exact g.fresh b1 h1
  · rw [look_cons]
    by_cases e : n = b1
    · rw [if_pos e]; simp
    · rw [if_neg e]; exact g.dom b1 h1
  · have : b1 ≠ n := by rintro rfl; exact g.dom b1 h1 hn
    rw [upd_other this]; exact g.ext b1 h1

/-- A block is given up. -/
theorem goodB_dead {cx : Cx} {μ : Nat → Option (Option Nat)} {σ : List (Nat × Option Blk)} {w : World} {n : Nat}
    (g : GoodB cx μ σ w) (hn : look σ n ≠ none) :
    GoodB cx μ ((n, none) :: σ) w ∧ Stab w w (Mut cx μ σ) (Mut cx μ ((n, none) :: σ)) := by
  have hlive : ∀ b', live ((n, none) :: σ) b' → n ≠ b' ∧ live σ b' := by
    intro b'
    rw [live_cons]
    rintro (⟨_, h⟩ | h)
    · cases h
    · exact h
  have st : Stab w w (Mut cx μ σ) (Mut cx μ ((n, none) :: σ)) := by
    refine ⟨fun k o hk _ => hk, fun k o hk hm hm' => ?_⟩
    rcases hm' with hx | ⟨b, hb, hbk⟩
    · exact hm (.inl hx)
    · exact hm (.inr ⟨b, (hlive b hb).2, hbk⟩)
  refine ⟨⟨fun b' l hb' => ?_, fun b1 b2 k' h1 h2 => g.inj b1 b2 k' (hlive _ h1).2 (hlive _ h2).2, fun b1 k' h1 => g.disj b1 k' (hlive _ h1).2, fun b1 k' h1 => g.own b1 k' (hlive _ h1).2, fun b1 h1 => ?_, fun b1 h1 => ?_, g.ext, g.xlt, g.evo⟩, st⟩
  · rw [look_cons] at hb'
    by_cases e : n = b'
    · rw [if_pos e] at hb'; cases hb'
    · rw [if_neg e] at hb'
      rcases g.blks b' l hb' with h' | ⟨k', a2, t2, h1, h2, h3, h4⟩
      · exact .inl h'
      · exact .inr ⟨k', a2, t2, h1, h2, h3, h4.stab st (Shape.refl _) (Ext.refl _)⟩
  · rw [look_cons] at h1
    by_cases e : n = b1
    · rw [if_pos e] at h1; cases h1
    · rw [if_neg e] at h1; exact g.fresh b1 h1
  · rw [look_cons]
    by_cases e : n = b1
    · rw [if_pos e]; simp
    · rw [if_neg e]; exact g.dom b1 h1
/-- A block goes on under another name, written anew. -/
theorem goodB_take {cx : Cx} {μ : Nat → Option (Option Nat)} {σ : List (Nat × Option Blk)} {w w' : World} {b n k : Nat} {arr arr' : Array Value} {ty : TypeId} {bl : Blk}
    (g : GoodB cx μ σ w) (hb : live σ b) (hμ : μ b = some (some k)) (hn : look σ n = none) (hk : w.heap[k]? = some (Obj.cells arr ty (0, 0))) (h : WSet w w' k arr' ty) (hs : arr'.size = arr.size)
    (hl : bl.l.length ≤ arr'.size) (hr : RelL cx w μ (Mut cx μ σ) bl.l arr') :
    GoodB cx (upd μ n (some k)) ((n, some bl) :: (b, none) :: σ) w' ∧ Stab w w' (Mut cx μ σ) (Mut cx (upd μ n (some k)) ((n, some bl) :: (b, none) :: σ)) ∧ Ext μ (upd μ n (some k)) := by
  have hμn := g.fresh n hn
  have ex := ext_upd (x := some k) hμn
  have hbn : b ≠ n := by rintro rfl; rw [hμ] at hμn; cases hμn
  have hnl : ¬ live σ n := by rintro ⟨l, h'⟩; rw [hn] at h'; cases h'
  have hmk : Mut cx μ σ k := .inr ⟨b, hb, hμ⟩
  have hlive : ∀ b', live ((n, some bl) :: (b, none) :: σ) b' → n = b' ∨ (n ≠ b' ∧ b ≠ b' ∧ live σ b') := by
    intro b'
    rw [live_cons, live_cons]
    rintro (⟨rfl, _⟩ | ⟨h0, ⟨_, h⟩ | h⟩)
    · exact .inl rfl
    · cases h
    · exact .inr ⟨h0, h⟩
  have key : ∀ b' k', live ((n, some bl) :: (b, none) :: σ) b' → upd μ n (some k) b' = some (some k') → (n = b' ∧ k' = k) ∨ (b ≠ b' ∧ live σ b' ∧ μ b' = some (some k')) := by
    intro b' k' h1 h2
    rcases hlive b' h1 with rfl | ⟨e1, e2, h3⟩
    · rw [upd_same] at h2; injection h2 with h2; injection h2 with h2; exact .inl ⟨rfl, h2.symm⟩
    · rw [upd_other (Ne.symm e1)] at h2; exact .inr ⟨e2, h3, h2⟩
  have hM : ∀ j, Mut cx (upd μ n (some k)) ((n, some bl) :: (b, none) :: σ) j → Mut cx μ σ j := by
    rintro j (hx | ⟨b', h1, h2⟩)
    · exact .inl hx
    · rcases key b' j h1 h2 with ⟨_, rfl⟩ | ⟨_, h3, h4⟩
      · exact hmk
      · exact .inr ⟨b', h3, h4⟩
  have st := h.stab hmk hM
  have sh := h.shape hk hs
  refine ⟨⟨fun b' l hb' => ?_, fun b1 b2 k' h1 h2 e1 e2 => ?_, fun b1 k' h1 e1 => ?_, fun b1 k' h1 e1 => ?_, fun b1 h1 => ?_, fun b1 h1 => ?_, fun b1 h1 => ?_, g.xlt, ?_⟩, st, ex⟩
  · rw [look_cons] at hb'
    by_cases e : n = b'
    · subst e
      rw [if_pos rfl] at hb'
      injection hb' with hb'; injection hb' with hb'; subst hb'
      exact .inr ⟨k, arr', ty, upd_same .., h.here, hl, hr.stab st sh ex⟩
    · rw [if_neg e, look_cons] at hb'
      by_cases e2 : b = b'
      · rw [if_pos e2] at hb'; cases hb'
      · rw [if_neg e2] at hb'
        rcases g.blks b' l hb' with h' | ⟨k', a2, t2, h1, h2, h3, h4⟩
        · exact .inl ⟨ex _ _ h'.1, h'.2⟩
        · have : k' ≠ k := fun e' => e2 (g.inj b b' k hb ⟨l, hb'⟩ hμ (e' ▸ h1))
          exact .inr ⟨k', a2, t2, ex _ _ h1, by rw [h.there k' this]; exact h2, h3, h4.stab st sh ex⟩
  · rcases key _ _ h1 e1 with ⟨a1, c1⟩ | ⟨a1, c1, d1⟩ <;> rcases key _ _ h2 e2 with ⟨a2, c2⟩ | ⟨a2, c2, d2⟩
    · exact a1.symm.trans a2
    · exact absurd (g.inj b b2 k hb c2 hμ (c1 ▸ d2)) a2
    · exact absurd (g.inj b b1 k hb c1 hμ (c2 ▸ d1)) a1
    · exact g.inj b1 b2 k' c1 c2 d1 d2
  · rcases key _ _ h1 e1 with ⟨a1, rfl⟩ | ⟨a1, c1, d1⟩
    · exact g.disj b k' hb hμ
    · exact g.disj b1 k' c1 d1
  · rcases key _ _ h1 e1 with ⟨a1, rfl⟩ | ⟨a1, c1, d1⟩
    · exact g.own b k' hb hμ
    · exact g.own b1 k' c1 d1
  · rw [look_cons] at h1
    by_cases e : n = b1
    · rw [if_pos e] at h1; cases h1
    · rw [if_neg e, look_cons] at h1
      by_cases e2 : b = b1
      · rw [if_pos e2] at h1; cases h1
      · rw [if_neg e2] at h1; rw [upd_other (Ne.symm e)]; exact g.fresh b1 h1
  · rw [look_cons]
    by_cases e : n = b1
    · rw [if_pos e]; simp
    · rw [if_neg e, look_cons]
      by_cases e2 : b = b1
      · rw [if_pos e2]; simp
      · rw [if_neg e2]; exact g.dom b1 h1
  · have : b1 ≠ n := by rintro rfl; exact g.dom b1 h1 hn
    rw [upd_other this]; exact g.ext b1 h1
  · refine ⟨h.os.trans g.evo.os, h.tape.trans g.evo.tape, h.output.trans g.evo.output, by rw [h.size]; exact g.evo.size, g.evo.shape.trans sh, fun j o hj hnf => ?_⟩
    have hjk : j ≠ k := by
      rintro rfl
      exact hnf (g.own b j hb hμ (Array.getElem?_eq_some_iff.1 hj).1)
    rw [h.there j hjk]
    exact g.evo.same j o hj hnf
end Gx
