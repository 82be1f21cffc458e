import Derived.Calls
import Derived.Orders
import Derived.Scope
import Derived.ScopeJumps
set_option linter.unusedVariables false
set_option linter.unusedSimpArgs false
namespace Gx
open Go

/-! ### Values -/
inductive V where
  | bool (b : Bool)
  | int (k : IntKind) (n : Int)
  | row (cs : List V) (n : Nat)
  | fn (f : FuncId)
  | nilFn
  | nilPtr
  | str

inductive S where
  | v (x : V)
  | xrow (cs : List V) (n : Nat)
  | ptr (b off : Nat)
  | eptr (cs : List V) (off : Nat)
  | mrow (b off len : Nat) (sp : Option Nat) (es : Nat) (ex : Bool)
  | clo (f : FuncId) (bs : List Nat)
  | keep (b off : Nat)
  | ub (p : Prop)
  | any

inductive D where
  | sc (s : S)
  | agg (l : List S)

inductive T where
  | d (x : D)
  | tup (l : List D)

inductive Blk where
  | var (l : List S)
  | arr (l : List S)
def Blk.l : Blk → List S
  | .var l => l
  | .arr l => l

/-- association lists -/
def look {α : Type} : List (Nat × α) → Nat → Option α
  | [], _ => none
  | (j, x) :: r, i => if Nat.beq j i then some x else look r i
theorem look_cons {α : Type} (j : Nat) (x : α) (r : List (Nat × α)) (i : Nat) : look ((j, x) :: r) i = if j = i then some x else look r i := by
  simp only [look]
  by_cases h : j = i
  · subst h; simp
  · have : Nat.beq j i = false := by
      cases hb : Nat.beq j i
      · rfl
      · exact absurd (Nat.eq_of_beq_eq_true hb) h
    simp [h, this]
theorem look_append {α : Type} (a r : List (Nat × α)) (i : Nat) : look (a ++ r) i = match look a i with | some x => some x | none => look r i := by
  induction a with
  | nil => simp [look]
  | cons p a ih =>
    obtain ⟨j, x⟩ := p
    rw [List.cons_append, look_cons, look_cons]
    split <;> simp_all

structure St where
  t : List (Nat × T)
  σ : List (Nat × Option Blk)
  nx : Nat
  m : Nat

def live (σ : List (Nat × Option Blk)) (b : Nat) : Prop := ∃ l, look σ b = some (some l)

/-- What is fixed while a function runs: the world in which it began, where its first blocks lay, how many they are, the blocks of others that may change, the deferred calls. -/
structure Cx where
  w0 : World
  μ0 : Nat → Option (Option Nat)
  k : Nat
  X : Nat → Prop
  df : List Deferred

inductive RelV (w : World) (M : Nat → Prop) : V → Value → Prop where
  | bool (b : Bool) : RelV w M (.bool b) (.bool b)
  | int (k : IntKind) (n : Int) : RelV w M (.int k n) (.int k n)
  | fn (f : FuncId) : RelV w M (.fn f) (.func (.func f) #[] #[])
  | nilFn : RelV w M .nilFn .nilFunc
  | nilPtr : RelV w M .nilPtr (.pointer none)
  | str (s : ByteArray) : RelV w M .str (.string s)
  | nilRow : RelV w M (.row [] 0) (.slice none 0 0)
  | row (cs : List V) (n : Nat) (a : Addr) (cap : Nat) (vals : Nat → Value) (hn : n ≤ cap) (hl : 0 < n → cs ≠ [])
      (ha : cs ≠ [] → a.spot = none ∧ ¬ M a.block)
      (hc : ∀ i x, cs[i]? = some x → w.cell? ⟨a.block, a.off + i, none⟩ = some (vals i))
      (hr : ∀ i x, cs[i]? = some x → RelV w M x (vals i)) : RelV w M (.row cs n) (.slice (some a) n cap)

/-- Nothing that is not in M has turned, and nothing of it has come into M'. -/
structure Stab (w w' : World) (M M' : Nat → Prop) : Prop where
  same : ∀ k o, w.heap[k]? = some o → ¬ M k → w'.heap[k]? = some o
  out : ∀ k o, w.heap[k]? = some o → ¬ M k → ¬ M' k

theorem cell_heap {w : World} {a : Addr} {u : Value} (h : w.cell? a = some u) : ∃ o, w.heap[a.block]? = some o := by
  unfold World.cell? at h
  split at h
  · rename_i c e f hh; exact ⟨_, hh⟩
  · cases h

theorem cell_same {w w' : World} {a : Addr} (h : w'.heap[a.block]? = w.heap[a.block]?) : w'.cell? a = w.cell? a := by
  unfold World.cell?; rw [h]

theorem Stab.cell {w w' : World} {M M' : Nat → Prop} (h : Stab w w' M M') {a : Addr} {u : Value} (hc : w.cell? a = some u) (hm : ¬ M a.block) : w'.cell? a = some u := by
  obtain ⟨o, ho⟩ := cell_heap hc
  have e : w'.heap[a.block]? = w.heap[a.block]? := by rw [h.same _ _ ho hm, ho]
  exact (cell_same e).trans hc

theorem RelV.stab {w w' : World} {M M' : Nat → Prop} (h : Stab w w' M M') {x : V} {u : Value} (hx : RelV w M x u) : RelV w' M' x u := by
  induction hx with
  | bool b => exact .bool b
  | int k n => exact .int k n
  | fn f => exact .fn f
  | nilFn => exact .nilFn
  | nilPtr => exact .nilPtr
  | str s => exact .str s
  | nilRow => exact .nilRow
  | row cs n a cap vals hn hl ha hc hr ih =>
    refine .row cs n a cap vals hn hl (fun hne => ?_) (fun i x hi => ?_) ih
    · obtain ⟨h1, h2⟩ := ha hne
      refine ⟨h1, ?_⟩
      obtain ⟨x, xs, rfl⟩ := List.exists_cons_of_ne_nil hne
      obtain ⟨o, ho⟩ := cell_heap (hc 0 x (by simp))
      exact h.out _ _ ho h2
    · have hne : cs ≠ [] := by rintro rfl; simp at hi
      exact h.cell (hc i x hi) (ha hne).2

/-- An address that leads into a row of values. -/
def RowAt (w : World) (M : Nat → Prop) (cs : List V) (a : Addr) : Prop :=
  (cs ≠ [] → ¬ M a.block) ∧ ∀ i x, cs[i]? = some x → ∃ u, w.cell? ⟨a.block, a.off + i, none⟩ = some u ∧ RelV w M x u

theorem RowAt.stab {w w' : World} {M M' : Nat → Prop} (h : Stab w w' M M') {cs : List V} {a : Addr} (hr : RowAt w M cs a) : RowAt w' M' cs a := by
  refine ⟨fun hne => ?_, fun i x hi => ?_⟩
  · obtain ⟨x, xs, rfl⟩ := List.exists_cons_of_ne_nil hne
    obtain ⟨u, hu, _⟩ := hr.2 0 x (by simp)
    obtain ⟨o, ho⟩ := cell_heap hu
    exact h.out _ _ ho (hr.1 hne)
  · have hne : cs ≠ [] := by rintro rfl; simp at hi
    obtain ⟨u, hu, hx⟩ := hr.2 i x hi
    exact ⟨u, h.cell hu (hr.1 hne), hx.stab h⟩

def isRow (w : World) (k n : Nat) : Prop := ∃ (arr : Array Value) (ty : TypeId), w.heap[k]? = some (Obj.cells arr ty (0, 0)) ∧ n ≤ arr.size

def RelS (c : Cx) (w : World) (μ : Nat → Option (Option Nat)) (M : Nat → Prop) : S → Value → Prop
  | .v x, u => RelV w M x u
  | .xrow cs n, u => RelV w M (.row cs n) u ∧ ∀ a l cp, u = .slice a l cp → cp = n
  | .ptr b off, u => ∃ k, μ b = some (some k) ∧ u = .pointer (some ⟨k, off, none⟩)
  | .eptr cs off, u => ∃ a : Addr, u = .pointer (some ⟨a.block, a.off + off, none⟩) ∧ RowAt w M cs a
  | .mrow b off len sp es ex, u =>
      (len = 0 ∧ sp = none ∧ off = 0 ∧ μ b = some none ∧ ∃ a, u = .slice a 0 0) ∨
      ∃ k cap, μ b = some (some k) ∧ u = .slice (some ⟨k, off, none⟩) len cap ∧ len + sp.getD 0 ≤ cap ∧ (ex = true → cap = len + sp.getD 0) ∧ isRow w k (off + cap * es)
  | .clo f bs, u => ∃ ks : List Nat, bs.length = ks.length ∧ (∀ (i b : Nat), bs[i]? = some b → ∃ k, ks[i]? = some k ∧ μ b = some (some k)) ∧
      u = .func (.func f) #[] (ks.map fun k => Value.pointer (some ⟨k, 0, none⟩)).toArray
  | .keep b off, u => ∃ k, c.μ0 b = some (some k) ∧ c.w0.cell? ⟨k, off, none⟩ = some u
  | .ub p, u => ∃ b : Bool, u = .bool b ∧ (b = true → p)
  | .any, _ => True

/-- All rows keep their shape. -/
def Shape (w w' : World) : Prop := ∀ (k : Nat) (arr : Array Value) (ty : TypeId), w.heap[k]? = some (Obj.cells arr ty (0, 0)) → ∃ arr' : Array Value, w'.heap[k]? = some (Obj.cells arr' ty (0, 0)) ∧ arr'.size = arr.size

theorem Shape.refl (w : World) : Shape w w := fun k arr ty h => ⟨arr, h, rfl⟩
theorem Shape.trans {w w1 w2 : World} (h : Shape w w1) (h' : Shape w1 w2) : Shape w w2 := fun k arr ty hk => by
  obtain ⟨a1, h1, e1⟩ := h k arr ty hk
  obtain ⟨a2, h2, e2⟩ := h' k a1 ty h1
  exact ⟨a2, h2, e2.trans e1⟩

theorem isRow.shape {w w' : World} (h : Shape w w') {k n : Nat} (hr : isRow w k n) : isRow w' k n := by
  obtain ⟨arr, ty, h1, h2⟩ := hr
  obtain ⟨a', h3, h4⟩ := h k arr ty h1
  exact ⟨a', ty, h3, by omega⟩

def Ext (μ μ' : Nat → Option (Option Nat)) : Prop := ∀ b x, μ b = some x → μ' b = some x
theorem Ext.refl (μ : Nat → Option (Option Nat)) : Ext μ μ := fun _ _ h => h

theorem RelS.stab {c : Cx} {w w' : World} {μ μ' : Nat → Option (Option Nat)} {M M' : Nat → Prop} (h : Stab w w' M M') (hs : Shape w w') (he : Ext μ μ')
    {s : S} {u : Value} (hx : RelS c w μ M s u) : RelS c w' μ' M' s u := by
  cases s with
  | v x => exact RelV.stab h hx
  | xrow cs n => exact ⟨RelV.stab h hx.1, hx.2⟩
  | ptr b off => obtain ⟨k, h1, h2⟩ := hx; exact ⟨k, he _ _ h1, h2⟩
  | eptr cs off => obtain ⟨a, h1, h2⟩ := hx; exact ⟨a, h1, h2.stab h⟩
  | mrow b off len sp es ex =>
    rcases hx with ⟨h1, h2, h3, h4, h5⟩ | ⟨k, cap, h1, h2, h3, h4, h5⟩
    · exact .inl ⟨h1, h2, h3, he _ _ h4, h5⟩
    · exact .inr ⟨k, cap, he _ _ h1, h2, h3, h4, h5.shape hs⟩
  | clo f bs =>
    obtain ⟨ks, h1, h2, h3⟩ := hx
    exact ⟨ks, h1, fun i b hb => (h2 i b hb).imp fun k hk => ⟨hk.1, he _ _ hk.2⟩, h3⟩
  | keep b off => exact hx
  | ub p => exact hx
  | any => trivial

def RelL (c : Cx) (w : World) (μ : Nat → Option (Option Nat)) (M : Nat → Prop) (l : List S) (arr : Array Value) : Prop :=
  ∀ (i : Nat) (x : S), l[i]? = some x → ∃ u, arr[i]? = some u ∧ RelS c w μ M x u

def RelD (c : Cx) (w : World) (μ : Nat → Option (Option Nat)) (M : Nat → Prop) : D → Value → Prop
  | .sc s, u => RelS c w μ M s u
  | .agg l, u => ∃ arr : Array Value, u = .agg arr ∧ arr.size = l.length ∧ RelL c w μ M l arr

def RelT (c : Cx) (w : World) (μ : Nat → Option (Option Nat)) (M : Nat → Prop) : T → Value → Prop
  | .d x, u => RelD c w μ M x u
  | .tup l, u => ∃ arr : Array Value, u = .tuple arr ∧ arr.size = l.length ∧ ∀ (i : Nat) (x : D), l[i]? = some x → ∃ u, arr[i]? = some u ∧ RelD c w μ M x u

section
variable {c : Cx} {w w' : World} {μ μ' : Nat → Option (Option Nat)} {M M' : Nat → Prop}
theorem RelL.stab (h : Stab w w' M M') (hs : Shape w w') (he : Ext μ μ') {l : List S} {arr : Array Value} (hx : RelL c w μ M l arr) : RelL c w' μ' M' l arr :=
  fun i x hi => (hx i x hi).imp fun u hu => ⟨hu.1, hu.2.stab h hs he⟩
theorem RelD.stab (h : Stab w w' M M') (hs : Shape w w') (he : Ext μ μ') {x : D} {u : Value} (hx : RelD c w μ M x u) : RelD c w' μ' M' x u := by
  cases x with
  | sc s => exact RelS.stab h hs he hx
  | agg l => obtain ⟨arr, h1, h2, h3⟩ := hx; exact ⟨arr, h1, h2, h3.stab h hs he⟩
theorem RelT.stab (h : Stab w w' M M') (hs : Shape w w') (he : Ext μ μ') {x : T} {u : Value} (hx : RelT c w μ M x u) : RelT c w' μ' M' x u := by
  cases x with
  | d s => exact RelD.stab h hs he hx
  | tup l => obtain ⟨arr, h1, h2, h3⟩ := hx; exact ⟨arr, h1, h2, fun i x hi => (h3 i x hi).imp fun u hu => ⟨hu.1, hu.2.stab h hs he⟩⟩
end

/-! ### States -/
def Mut (c : Cx) (μ : Nat → Option (Option Nat)) (σ : List (Nat × Option Blk)) (k : Nat) : Prop := c.X k ∨ ∃ b, live σ b ∧ μ b = some (some k)

structure Evo (w w' : World) (M : Nat → Prop) : Prop where
  os : w'.os = w.os
  tape : w'.tape = w.tape
  output : w'.output = w.output
  size : w.heap.size ≤ w'.heap.size
  shape : Shape w w'
  same : ∀ k o, w.heap[k]? = some o → ¬ M k → w'.heap[k]? = some o

theorem Evo.refl (w : World) (M : Nat → Prop) : Evo w w M := ⟨rfl, rfl, rfl, Nat.le_refl _, Shape.refl w, fun _ _ h _ => h⟩
theorem Evo.trans {w w1 w2 : World} {M M' : Nat → Prop} (h : Evo w w1 M) (h' : Evo w1 w2 M') (hM : ∀ k o, w.heap[k]? = some o → M' k → M k) : Evo w w2 M :=
  ⟨h'.os.trans h.os, h'.tape.trans h.tape, h'.output.trans h.output, Nat.le_trans h.size h'.size, h.shape.trans h'.shape,
    fun k o hk hm => h'.same k o (h.same k o hk hm) fun hx => hm (hM k o hk hx)⟩
theorem Evo.mono {w w' : World} {M M' : Nat → Prop} (h : Evo w w' M) (hM : ∀ k, M k → M' k) : Evo w w' M' :=
  ⟨h.os, h.tape, h.output, h.size, h.shape, fun k o hk hm => h.same k o hk fun hx => hm (hM k hx)⟩

def BlkOK (c : Cx) (μ : Nat → Option (Option Nat)) (M : Nat → Prop) (w : World) (b : Nat) (l : List S) : Prop :=
  (μ b = some none ∧ l = []) ∨
  ∃ (k : Nat) (arr : Array Value) (ty : TypeId), μ b = some (some k) ∧ w.heap[k]? = some (Obj.cells arr ty (0, 0)) ∧ l.length ≤ arr.size ∧ RelL c w μ M l arr

def Foot (c : Cx) (k : Nat) : Prop := ∃ b, b < c.k ∧ c.μ0 b = some (some k)

structure GoodB (c : Cx) (μ : Nat → Option (Option Nat)) (σ : List (Nat × Option Blk)) (w : World) : Prop where
  blks : ∀ b l, look σ b = some (some l) → BlkOK c μ (Mut c μ σ) w b l.l
  inj : ∀ b b' k, live σ b → live σ b' → μ b = some (some k) → μ b' = some (some k) → b = b'
  disj : ∀ b k, live σ b → μ b = some (some k) → ¬ c.X k
  own : ∀ b k, live σ b → μ b = some (some k) → k < c.w0.heap.size → Foot c k
  fresh : ∀ b, look σ b = none → μ b = none
  dom : ∀ b, b < c.k → look σ b ≠ none
  ext : ∀ b, b < c.k → μ b = c.μ0 b
  xlt : ∀ k, c.X k → k < c.w0.heap.size
  evo : Evo c.w0 w (Foot c)

structure Good (c : Cx) (μ : Nat → Option (Option Nat)) (s : St) (A : Act) (w : World) : Prop extends GoodB c μ s.σ w where
  defers : A.defers = c.df
  size : A.tmps.size = s.m
  temps : ∀ i x, look s.t i = some x → ∃ u, A.tmps[i]? = some u ∧ RelT c w μ (Mut c μ s.σ) x u

end Gx
