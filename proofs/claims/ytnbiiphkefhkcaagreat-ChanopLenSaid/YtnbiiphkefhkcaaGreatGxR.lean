import Derived.Test.YtnbiiphkefhkcaaGreatGxQ
set_option linter.unusedVariables false
set_option linter.unusedSimpArgs false
namespace Gx
open Go

/-! ### A call by a spec: the callee's names are read as the caller's -/
def rnN (rn : List (Nat × Nat)) (b : Nat) : Nat := match look rn b with | some x => x | none => b
def S.rn (rn : List (Nat × Nat)) : S → S
  | .ptr b off => .ptr (rnN rn b) off
  | .mrow b off len sp es ex => .mrow (rnN rn b) off len sp es ex
  | .clo f bs => .clo f (bs.map (rnN rn))
  | .keep _ _ => .any
  | s => s
def D.rn (rn : List (Nat × Nat)) : D → D
  | .sc s => .sc (s.rn rn)
  | .agg l => .agg (l.map (S.rn rn))
def T.rn (rn : List (Nat × Nat)) : T → T
  | .d x => .d (x.rn rn)
  | .tup l => .tup (l.map (D.rn rn))
def Blk.rn (rn : List (Nat × Nat)) : Blk → Blk
  | .var l => .var (l.map (S.rn rn))
  | .arr l => .arr (l.map (S.rn rn))
theorem Blk.rn_l (rn : List (Nat × Nat)) (b : Blk) : (b.rn rn).l = b.l.map (S.rn rn) := by cases b <;> rfl
def isL (σ : List (Nat × Option Blk)) (b : Nat) : Bool := match look σ b with | some _ => true | none => false
/-- Only names of σ, and nothing that is kept. -/
def S.cl (σ : List (Nat × Option Blk)) : S → Bool
  | .ptr b _ => isL σ b
  | .mrow b _ _ _ _ _ => isL σ b
  | .clo _ bs => bs.all (isL σ)
  | .keep _ _ => false
  | _ => true
def D.cl (σ : List (Nat × Option Blk)) : D → Bool
  | .sc s => s.cl σ
  | .agg l => l.all (S.cl σ)

section
variable {cx c2 : Cx} {rn : List (Nat × Nat)} {μ μ2 : Nat → Option (Option Nat)} {M M2 : Nat → Prop} {w : World} {σ : List (Nat × Option Blk)}

/-- Into the callee. -/
theorem rn_in (hM : ∀ k, M2 k → M k) (hμ : ∀ b x, isL σ b = true → μ (rnN rn b) = some x → μ2 b = some x) {s : S} {u : Value} (hc : s.cl σ = true) (h : RelS cx w μ M (s.rn rn) u) : RelS c2 w μ2 M2 s u := by
  have st : Stab w w M M2 := ⟨fun _ _ h _ => h, fun _ _ _ h h' => h (hM _ h')⟩
  cases s with
  | v x => exact RelV.stab st h
  | xrow cs n => exact ⟨RelV.stab st h.1, h.2⟩
  | ptr b off => obtain ⟨k, h1, h2⟩ := h; exact ⟨k, hμ b _ hc h1, h2⟩
  | eptr cs off => obtain ⟨a, h1, h2⟩ := h; exact ⟨a, h1, h2.stab st⟩
  | mrow b off len sp es ex =>
    rcases h with ⟨h1, h2, h3, h4, h5⟩ | ⟨k, cap, h1, h2, h3, h4, h5⟩
    · exact .inl ⟨h1, h2, h3, hμ b _ hc h4, h5⟩
    · exact .inr ⟨k, cap, hμ b _ hc h1, h2, h3, h4, h5⟩
  | clo f bs =>
    obtain ⟨ks, h1, h2, h3⟩ := h
    simp only [S.cl, List.all_eq_true] at hc
    refine ⟨ks, by simpa using h1, fun i b hb => ?_, h3⟩
    obtain ⟨k, h4, h5⟩ := h2 i (rnN rn b) (by rw [List.getElem?_map, hb]; rfl)
    exact ⟨k, h4, hμ b _ (hc b (List.mem_of_getElem? hb)) h5⟩
  | keep b off => cases hc
  | ub p => exact h
  | any => trivial
theorem rn_inD (hM : ∀ k, M2 k → M k) (hμ : ∀ b x, isL σ b = true → μ (rnN rn b) = some x → μ2 b = some x) {d : D} {u : Value} (hc : d.cl σ = true) (h : RelD cx w μ M (d.rn rn) u) : RelD c2 w μ2 M2 d u := by
  cases d with
  | sc s => exact rn_in hM hμ hc h
  | agg l =>
    obtain ⟨arr, h1, h2, h3⟩ := h
    simp only [D.cl, List.all_eq_true] at hc
    refine ⟨arr, h1, by simpa using h2, fun i x hi => ?_⟩
    obtain ⟨u, h4, h5⟩ := h3 i (x.rn rn) (by rw [List.getElem?_map, hi]; rfl)
    exact ⟨u, h4, rn_in hM hμ (hc x (List.mem_of_getElem? hi)) h5⟩

/-- Out of the callee. -/
theorem rn_out (hM : ∀ k, M k → M2 k) (hμ : ∀ b x, μ2 b = some x → μ (rnN rn b) = some x) {s : S} {u : Value} (h : RelS c2 w μ2 M2 s u) : RelS cx w μ M (s.rn rn) u := by
  have st : Stab w w M2 M := ⟨fun _ _ h _ => h, fun _ _ _ h h' => h (hM _ h')⟩
  cases s with
  | v x => exact RelV.stab st h
  | xrow cs n => exact ⟨RelV.stab st h.1, h.2⟩
  | ptr b off => obtain ⟨k, h1, h2⟩ := h; exact ⟨k, hμ b _ h1, h2⟩
  | eptr cs off => obtain ⟨a, h1, h2⟩ := h; exact ⟨a, h1, h2.stab st⟩
  | mrow b off len sp es ex =>
    rcases h with ⟨h1, h2, h3, h4, h5⟩ | ⟨k, cap, h1, h2, h3, h4, h5⟩
    · exact .inl ⟨h1, h2, h3, hμ b _ h4, h5⟩
    · exact .inr ⟨k, cap, hμ b _ h1, h2, h3, h4, h5⟩
  | clo f bs =>
    obtain ⟨ks, h1, h2, h3⟩ := h
    refine ⟨ks, by simpa using h1, fun i b hb => ?_, h3⟩
    rw [List.getElem?_map] at hb
    cases hb' : bs[i]? with
    | none => rw [hb'] at hb; cases hb
    | some b' =>
      rw [hb'] at hb; injection hb with hb; subst hb
      obtain ⟨k, h4, h5⟩ := h2 i b' hb'
      exact ⟨k, h4, hμ b' _ h5⟩
  | keep b off => trivial
  | ub p => exact h
  | any => trivial
theorem rn_outD (hM : ∀ k, M k → M2 k) (hμ : ∀ b x, μ2 b = some x → μ (rnN rn b) = some x) {d : D} {u : Value} (h : RelD c2 w μ2 M2 d u) : RelD cx w μ M (d.rn rn) u := by
  cases d with
  | sc s => exact rn_out hM hμ h
  | agg l =>
    obtain ⟨arr, h1, h2, h3⟩ := h
    refine ⟨arr, h1, by simpa using h2, fun i x hi => ?_⟩
    rw [List.getElem?_map] at hi
    cases hy : l[i]? with
    | none => rw [hy] at hi; cases hi
    | some y =>
      rw [hy] at hi; injection hi with hi; subst hi
      obtain ⟨u, h4, h5⟩ := h3 i y hy
      exact ⟨u, h4, rn_out hM hμ h5⟩
theorem rn_outT (hM : ∀ k, M k → M2 k) (hμ : ∀ b x, μ2 b = some x → μ (rnN rn b) = some x) {t : T} {u : Value} (h : RelT c2 w μ2 M2 t u) : RelT cx w μ M (t.rn rn) u := by
  cases t with
  | d x => exact rn_outD hM hμ h
  | tup l =>
    obtain ⟨arr, h1, h2, h3⟩ := h
    refine ⟨arr, h1, by simpa using h2, fun i x hi => ?_⟩
    rw [List.getElem?_map] at hi
    cases hy : l[i]? with
    | none => rw [hy] at hi; cases hi
    | some y =>
      rw [hy] at hi; injection hi with hi; subst hi
      obtain ⟨u, h4, h5⟩ := h3 i y hy
      exact ⟨u, h4, rn_outD hM hμ h5⟩
end

def swp (rn : List (Nat × Nat)) : List (Nat × Nat) := rn.map fun p => (p.2, p.1)
def rnσ (rn : List (Nat × Nat)) (σ : List (Nat × Option Blk)) : List (Nat × Option Blk) := σ.map fun p => (rnN rn p.1, p.2.map (Blk.rn rn))

/-- The names go one to one. -/
structure OneOne (rn : List (Nat × Nat)) : Prop where
  to : ∀ b b', look rn b = some b' → look (swp rn) b' = some b
  fro : ∀ b b', look (swp rn) b' = some b → look rn b = some b'

theorem look_mem {α : Type} : ∀ {l : List (Nat × α)} {b : Nat} {x : α}, look l b = some x → (b, x) ∈ l
  | [], _, _, h => by simp [look] at h
  | (j, y) :: r, b, x, h => by
    rw [look_cons] at h
    split at h
    · rename_i e; subst e; injection h with h; subst h; simp
    · exact List.mem_cons_of_mem _ (look_mem h)
theorem look_isSome_mem {α : Type} : ∀ {l : List (Nat × α)} {b : Nat} {x : α}, (b, x) ∈ l → look l b ≠ none
  | (j, y) :: r, b, x, h => by
    rw [look_cons]
    split
    · simp
    · rename_i hne
      rcases List.mem_cons.1 h with h | h
      · injection h with h1 _; exact absurd h1.symm hne
      · exact look_isSome_mem h

structure CallIn (rn : List (Nat × Nat)) (s : St) (k : Nat) (σ σ' : List (Nat × Option Blk)) : Prop where
  one : OneOne rn
  dom : ∀ b, look σ b ≠ none → ∃ bl b', look σ b = some (some bl) ∧ look rn b = some b' ∧ look s.σ b' = some (some (bl.rn rn)) ∧ ∀ x, x ∈ bl.l → x.cl σ = true
  out : ∀ b, look σ' b ≠ none → look rn b ≠ none
  nof : ∀ b b', look rn b = some b' → look σ b = none → look s.σ b' = none
  use : ∀ b b', look rn b = some b' → look σ b = none → look σ' b ≠ none
  foot : ∀ b, look σ b ≠ none ↔ b < k
  keep : ∀ b, look σ b ≠ none → look σ' b ≠ none

section
variable {P : Program} {f : FuncId} {k : Nat} {σ σ' : List (Nat × Option Blk)} {args : List D} {res : T} {rn : List (Nat × Nat)} {s : St}

theorem rnN_of {b b' : Nat} (h : look rn b = some b') : rnN rn b = b' := by unfold rnN; rw [h]

theorem look_rnσ (h1 : OneOne rn) (h2 : ∀ p, p ∈ σ' → look rn p.1 ≠ none) (b' : Nat) :
    look (rnσ rn σ') b' = match look (swp rn) b' with | some b => (look σ' b).map (Option.map (Blk.rn rn)) | none => none := by
  induction σ' with
  | nil => simp only [rnσ, List.map_nil, look]; split <;> rfl
  | cons p r ih =>
    obtain ⟨j, o⟩ := p
    have ih' := ih fun q hq => h2 q (List.mem_cons_of_mem _ hq)
    cases hj : look rn j with
    | none => exact absurd hj (h2 (j, o) (by simp))
    | some j' =>
      show look ((rnN rn j, o.map (Blk.rn rn)) :: rnσ rn r) b' = _
      rw [look_cons, rnN_of hj]
      have hs := h1.to j j' hj
      by_cases e : j' = b'
      · subst e
        rw [if_pos rfl, hs]
        simp only [look_cons, if_true, Option.map_some]
      · rw [if_neg e, ih']
        cases hb : look (swp rn) b' with
        | none => rfl
        | some b =>
          have : j ≠ b := by
            rintro rfl
            have := h1.fro _ _ hb
            rw [hj] at this; injection this with this; exact e this
          simp only [look_cons, if_neg this]

theorem callOK_of_spec (hs : FSpec P f k σ args res σ') (hi : CallIn rn s k σ σ') (ha : ∀ x, x ∈ args → x.cl σ = true) :
    CallOK P f (args.map (D.rn rn)) s (res.rn rn) (rnσ rn σ') (σ.map fun p => rnN rn p.1) := by
  refine ⟨hs.1, fun s2 hb hfr cx μ A w vs g hr R hR => ?_⟩
  -- the names of the footprint, in the caller
  have f1 : ∀ b, look σ b ≠ none → ∃ bl b', look σ b = some (some bl) ∧ look rn b = some b' ∧ look s2.σ b' = some (some (bl.rn rn)) ∧ ∀ x, x ∈ bl.l → x.cl σ = true := by
    intro b h
    obtain ⟨bl, b', h1, h2, h3, h4⟩ := hi.dom b h
    refine ⟨bl, b', h1, h2, (hb b' ?_).trans h3, h4⟩
    have := look_mem h1
    simp only [List.mem_map]
    exact ⟨_, this, rnN_of h2⟩
  -- the context of the callee
  let μ0 : Nat → Option (Option Nat) := fun b => match look σ b with | some _ => μ (rnN rn b) | none => none
  let F : Nat → Prop := fun j => ∃ b, look σ b ≠ none ∧ μ (rnN rn b) = some (some j)
  let c2 : Cx := { w0 := w, μ0 := μ0, k := k, X := fun j => Mut cx μ s2.σ j ∧ ¬ F j, df := [] }
  have μ0e : ∀ b, look σ b ≠ none → μ0 b = μ (rnN rn b) := fun b h => by
    show (match look σ b with | some _ => μ (rnN rn b) | none => none) = _
    split
    · rfl
    · rename_i hn; exact absurd hn h
  have μ0n : ∀ b, look σ b = none → μ0 b = none := fun b h => by
    show (match look σ b with | some _ => μ (rnN rn b) | none => none) = _
    rw [h]
  have liveσ : ∀ b, look σ b ≠ none → live σ b := fun b h => (f1 b h).elim fun bl h => h.elim fun _ h => ⟨bl, h.1⟩
  have live2 : ∀ b, look σ b ≠ none → live s2.σ (rnN rn b) := fun b h => by
    obtain ⟨bl, b', h1, h2, h3, _⟩ := f1 b h
    rw [rnN_of h2]; exact ⟨_, h3⟩
  have FM : ∀ j, F j → Mut cx μ s2.σ j := fun j ⟨b, h1, h2⟩ => .inr ⟨_, live2 b h1, h2⟩
  have MM : Mut c2 μ0 σ = Mut cx μ s2.σ := by
    funext j
    apply propext
    constructor
    · rintro (h | ⟨b, ⟨l, hl⟩, hj⟩)
      · exact h.1
      · have hne : look σ b ≠ none := by rw [hl]; simp
        exact FM j ⟨b, hne, by rw [← μ0e b hne]; exact hj⟩
    · intro h
      by_cases hF : F j
      · obtain ⟨b, h1, h2⟩ := hF
        exact .inr ⟨b, liveσ b h1, by rw [μ0e b h1]; exact h2⟩
      · exact .inl ⟨h, hF⟩
  have isL1 : ∀ b, isL σ b = true → look σ b ≠ none := fun b h => by
    unfold isL at h
    split at h
    · rename_i x hx; rw [hx]; simp
    · cases h
  have μin : ∀ b x, isL σ b = true → μ (rnN rn b) = some x → μ0 b = some x := fun b x h hx => by rw [μ0e b (isL1 b h)]; exact hx
  have heapOf : ∀ b j, live s2.σ b → μ b = some (some j) → ∃ o, w.heap[j]? = some o := fun b j ⟨l, hl⟩ hj => by
    rcases g.blks b l hl with ⟨h, _⟩ | ⟨k', arr, ty, h1, h2, _⟩
    · rw [hj] at h; cases h
    · rw [hj] at h1; injection h1 with h1; injection h1 with h1; subst h1; exact ⟨_, h2⟩
  have ltOf : ∀ j (o : Obj), w.heap[j]? = some o → j < w.heap.size := fun j o h => by
    rw [Array.getElem?_eq_some_iff] at h; exact h.1
  have gc : GoodB c2 c2.μ0 σ w := by
    refine ⟨fun b l hl => ?_, fun b b' j h1 h2 e1 e2 => ?_, fun b j h1 e1 => ?_, fun b j h1 e1 _ => ?_, fun b h => μ0n b h, fun b h => (hi.foot b).2 h, fun _ _ => rfl, fun j hj => ?_, Evo.refl _ _⟩
    · have hne : look σ b ≠ none := by rw [hl]; simp
      obtain ⟨bl, b', h1, h2, h3, h4⟩ := f1 b hne
      rw [hl] at h1; injection h1 with h1; injection h1 with h1; subst h1
      rcases g.blks b' _ h3 with ⟨h5, h6⟩ | ⟨j, arr, ty, h5, h6, h7, h8⟩
      · refine .inl ⟨(μ0e b hne).trans (by rw [rnN_of h2]; exact h5), ?_⟩
        rw [Blk.rn_l] at h6
        simpa using h6
      · rw [Blk.rn_l] at h7 h8
        refine .inr ⟨j, arr, ty, (μ0e b hne).trans (by rw [rnN_of h2]; exact h5), h6, by simpa using h7, fun i x hx => ?_⟩
        obtain ⟨u, h9, h10⟩ := h8 i (x.rn rn) (by rw [List.getElem?_map, hx]; rfl)
        exact ⟨u, h9, rn_in (fun j hj => by rw [MM] at hj; exact hj) μin (h4 x (List.mem_of_getElem? hx)) h10⟩
    · obtain ⟨l1, h1⟩ := h1; obtain ⟨l2, h2⟩ := h2
      have n1 : look σ b ≠ none := by rw [h1]; simp
      have n2 : look σ b' ≠ none := by rw [h2]; simp
      have := g.inj _ _ j (live2 b n1) (live2 b' n2) ((μ0e b n1).symm.trans e1) ((μ0e b' n2).symm.trans e2)
      obtain ⟨_, x1, _, y1, _⟩ := f1 b n1
      obtain ⟨_, x2, _, y2, _⟩ := f1 b' n2
      rw [rnN_of y1, rnN_of y2] at this
      subst this
      have a1 := hi.one.to _ _ y1
      have a2 := hi.one.to _ _ y2
      rw [a1] at a2; injection a2
    · obtain ⟨l1, h1⟩ := h1
      have n1 : look σ b ≠ none := by rw [h1]; simp
      exact fun hx => hx.2 ⟨b, n1, (μ0e b n1).symm.trans e1⟩
    · obtain ⟨l1, h1⟩ := h1
      have n1 : look σ b ≠ none := by rw [h1]; simp
      exact ⟨b, (hi.foot b).1 n1, e1⟩
    · rcases hj.1 with h | ⟨b, h1, h2⟩
      · exact Nat.lt_of_lt_of_le (g.xlt j h) g.evo.size
      · obtain ⟨o, ho⟩ := heapOf b j h1 h2; exact ltOf j o ho
  have hargs : RelDs c2 w c2.μ0 (Mut c2 c2.μ0 σ) args vs := by
    refine ⟨by simpa using hr.1, fun i x hx => ?_⟩
    obtain ⟨u, h1, h2⟩ := hr.2 i (x.rn rn) (by rw [List.getElem?_map, hx]; rfl)
    refine ⟨u, h1, rn_inD (M := Mut cx μ s2.σ) (fun j hj => ?_) μin (ha x (List.mem_of_getElem? hx)) h2⟩
    have : Mut c2 μ0 σ j := hj
    rw [MM] at this; exact this
  refine hs.2 c2 w vs rfl rfl rfl gc hargs R fun u μ' w' g' hu => ?_
  -- back in the caller
  have σ'm : ∀ p, p ∈ σ' → look rn p.1 ≠ none := fun p hp => hi.out p.1 (look_isSome_mem (x := p.2) hp)
  have lw := look_rnσ (σ' := σ') hi.one σ'm
  let μ2 : Nat → Option (Option Nat) := fun b' => match look (swp rn) b' with | some b => μ' b | none => μ b'
  have lk : ∀ b', look (rnσ rn σ' ++ s2.σ) b' = match look (rnσ rn σ') b' with | some x => some x | none => look s2.σ b' := fun b' => by
    rw [look_append]
    cases look (rnσ rn σ') b' <;> rfl
  -- a name of the caller is one of the callee, or goes on as it was
  have two : ∀ b', (∃ b, look rn b = some b' ∧ look (swp rn) b' = some b ∧ look σ' b ≠ none ∧ μ2 b' = μ' b ∧ look (rnσ rn σ' ++ s2.σ) b' = (look σ' b).map (Option.map (Blk.rn rn))) ∨
      (look (swp rn) b' = none ∧ μ2 b' = μ b' ∧ look (rnσ rn σ' ++ s2.σ) b' = look s2.σ b') := by
    intro b'
    cases hb' : look (swp rn) b' with
    | none =>
      refine .inr ⟨rfl, ?_, ?_⟩
      · show (match look (swp rn) b' with | some b => μ' b | none => μ b') = _; rw [hb']
      · rw [lk, lw, hb']
    | some b =>
      have h1 := hi.one.fro _ _ hb'
      have h2 : look σ' b ≠ none := by
        by_cases h : look σ b = none
        · exact hi.use b b' h1 h
        · exact hi.keep b h
      refine .inl ⟨b, h1, rfl, h2, ?_, ?_⟩
      · show (match look (swp rn) b' with | some b => μ' b | none => μ b') = _; rw [hb']
      · rw [lk, lw, hb']
        cases h3 : look σ' b with
        | none => exact absurd h3 h2
        | some x => simp only [h3, Option.map_some]
  have oldμ : ∀ b b', look rn b = some b' → look σ b ≠ none → μ' b = μ b' := fun b b' h1 h2 => by
    have := g'.ext b ((hi.foot b).1 h2)
    rw [this]
    have e : c2.μ0 b = μ (rnN rn b) := μ0e b h2
    rw [e, rnN_of h1]
  have newn : ∀ b b', look rn b = some b' → look σ b = none → look s2.σ b' = none := fun b b' h1 h2 => by
    refine hfr b' ?_ ?_
    · obtain ⟨x, hx⟩ := Option.ne_none_iff_exists'.1 (hi.use b b' h1 h2)
      have := look_mem hx
      simp only [rnσ, List.map_map, List.mem_map]
      exact ⟨_, this, rnN_of h1⟩
    · simp only [List.mem_map]
      rintro ⟨p, hp, e⟩
      have n1 : look σ p.1 ≠ none := look_isSome_mem (x := p.2) hp
      obtain ⟨_, x1, _, y1, _⟩ := f1 p.1 n1
      rw [rnN_of y1] at e
      subst e
      have a1 := hi.one.to _ _ y1
      have a2 := hi.one.to _ _ h1
      rw [a1] at a2; injection a2 with a2
      rw [a2] at n1; exact n1 h2
  have ext : Ext μ μ2 := by
    intro b' x hx
    rcases two b' with ⟨b, h1, h2, h3, h4, h5⟩ | ⟨h1, h2, h3⟩
    · rw [h4]
      by_cases hn : look σ b = none
      · rw [g.fresh b' (newn b b' h1 hn)] at hx; cases hx
      · rw [oldμ b b' h1 hn]; exact hx
    · rw [h2]; exact hx
  have notF : ∀ b' j, look (swp rn) b' = none → live s2.σ b' → μ b' = some (some j) → ¬ F j := by
    rintro b' j hs hl hj ⟨b, n1, e⟩
    have := g.inj _ _ j hl (live2 b n1) hj e
    obtain ⟨_, x1, _, y1, _⟩ := f1 b n1
    rw [rnN_of y1] at this; subst this
    rw [hi.one.to _ _ y1] at hs; cases hs
  have M2M' : ∀ j, Mut cx μ2 (rnσ rn σ' ++ s2.σ) j → Mut c2 μ' σ' j := by
    rintro j (h | ⟨b', ⟨l, hl⟩, hj⟩)
    · refine .inl ⟨.inl h, ?_⟩
      rintro ⟨b, n1, e⟩
      exact g.disj _ j (live2 b n1) e h
    · rcases two b' with ⟨b, h1, h2, h3, h4, h5⟩ | ⟨h1, h2, h3⟩
      · rw [h4] at hj
        rw [h5] at hl
        refine .inr ⟨b, ?_, hj⟩
        cases h6 : look σ' b with
        | none => exact absurd h6 h3
        | some o =>
          rw [h6] at hl
          cases o with
          | none => simp at hl
          | some bl => exact ⟨bl, h6⟩
      · rw [h2] at hj
        rw [h3] at hl
        exact .inl ⟨.inr ⟨b', ⟨l, hl⟩, hj⟩, notF b' j h1 ⟨l, hl⟩ hj⟩
  have outμ : ∀ b x, μ' b = some x → μ2 (rnN rn b) = some x := fun b x hx => by
    have : look σ' b ≠ none := fun h => by rw [g'.fresh b h] at hx; cases hx
    cases h1 : look rn b with
    | none => exact absurd h1 (hi.out b this)
    | some b' =>
      rw [rnN_of h1]
      show (match look (swp rn) b' with | some b => μ' b | none => μ b') = _
      rw [hi.one.to _ _ h1]; exact hx
  have footF : ∀ j, Foot c2 j → F j := by
    rintro j ⟨b, hb, e⟩
    have n1 := (hi.foot b).2 hb
    exact ⟨b, n1, (μ0e b n1).symm.trans e⟩
  have st : Stab w w' (Mut cx μ s2.σ) (Mut cx μ2 (rnσ rn σ' ++ s2.σ)) := by
    refine ⟨fun j o hj hm => g'.evo.same j o hj fun hf => hm (FM j (footF j hf)), fun j o hj hm hm' => ?_⟩
    rcases hm' with h | ⟨b', ⟨l, hl⟩, hjb⟩
    · exact hm (.inl h)
    · rcases two b' with ⟨b, h1, h2, h3, h4, h5⟩ | ⟨h1, h2, h3⟩
      · rw [h4] at hjb
        rw [h5] at hl
        have hlv : live σ' b := by
          cases h6 : look σ' b with
          | none => exact absurd h6 h3
          | some o =>
            rw [h6] at hl
            cases o with
            | none => simp at hl
            | some bl => exact ⟨bl, h6⟩
        exact hm (FM j (footF j (g'.own b j hlv hjb (ltOf j o hj))))
      · rw [h2] at hjb; rw [h3] at hl
        exact hm (.inr ⟨b', ⟨l, hl⟩, hjb⟩)
  have gB : GoodB cx μ2 (rnσ rn σ' ++ s2.σ) w' := by
    have liveC : ∀ b' b, look (swp rn) b' = some b → live (rnσ rn σ' ++ s2.σ) b' → live σ' b := by
      rintro b' b h2 ⟨l, hl⟩
      rcases two b' with ⟨b1, h1, h2', h3, h4, h5⟩ | ⟨h1, _, _⟩
      · rw [h2] at h2'; injection h2' with h2'; subst h2'
        rw [h5] at hl
        cases h6 : look σ' b with
        | none => exact absurd h6 h3
        | some o =>
          rw [h6] at hl
          cases o with
          | none => simp at hl
          | some bl => exact ⟨bl, h6⟩
      · rw [h2] at h1; cases h1
    have cross : ∀ b j b2, live σ' b → μ' b = some (some j) → look (swp rn) b2 = none → live s2.σ b2 → μ b2 = some (some j) → False := by
      intro b j b2 h1 h2 h3 h4 h5
      obtain ⟨o, ho⟩ := heapOf b2 j h4 h5
      exact notF b2 j h3 h4 h5 (footF j (g'.own b j h1 h2 (ltOf j o ho)))
    refine ⟨fun b' l hl => ?_, fun b1 b2 j l1 l2 e1 e2 => ?_, fun b' j hl hj => ?_, fun b' j hl hj hlt => ?_, fun b' hb' => ?_, fun b' hb' => ?_, fun b' hb' => ?_, g.xlt, ?_⟩
    · rcases two b' with ⟨b, h1, h2, h3, h4, h5⟩ | ⟨h1, h2, h3⟩
      · rw [h5] at hl
        cases h6 : look σ' b with
        | none => exact absurd h6 h3
        | some o =>
          rw [h6] at hl
          cases o with
          | none => simp at hl
          | some bl =>
            simp at hl; subst hl
            rcases g'.blks b bl h6 with ⟨e1, e2⟩ | ⟨j, arr, ty, e1, e2, e3, e4⟩
            · exact .inl ⟨h4.trans e1, by rw [Blk.rn_l, e2]; rfl⟩
            · refine .inr ⟨j, arr, ty, h4.trans e1, e2, by rw [Blk.rn_l]; simpa using e3, fun i x hx => ?_⟩
              rw [Blk.rn_l, List.getElem?_map] at hx
              cases hy : bl.l[i]? with
              | none => rw [hy] at hx; cases hx
              | some y =>
                rw [hy] at hx; injection hx with hx; subst hx
                obtain ⟨u, e5, e6⟩ := e4 i y hy
                exact ⟨u, e5, rn_out M2M' outμ e6⟩
      · rw [h3] at hl
        rcases g.blks b' l hl with ⟨e1, e2⟩ | ⟨j, arr, ty, e1, e2, e3, e4⟩
        · exact .inl ⟨h2.trans e1, e2⟩
        · refine .inr ⟨j, arr, ty, h2.trans e1, ?_, e3, e4.stab st g'.evo.shape ext⟩
          exact g'.evo.same j _ e2 fun hf => notF b' j h1 ⟨l, hl⟩ e1 (footF j hf)
    · rcases two b1 with ⟨a1, p1, p2, p3, p4, p5⟩ | ⟨p1, p2, p3⟩
      · rcases two b2 with ⟨a2, q1, q2, q3, q4, q5⟩ | ⟨q1, q2, q3⟩
        · have := g'.inj a1 a2 j (liveC _ _ p2 l1) (liveC _ _ q2 l2) (p4.symm.trans e1) (q4.symm.trans e2)
          subst this
          rw [p1] at q1; injection q1
        · obtain ⟨l, hl⟩ := l2
          rw [q3] at hl
          exact (cross a1 j b2 (liveC _ _ p2 l1) (p4.symm.trans e1) q1 ⟨l, hl⟩ (q2.symm.trans e2)).elim
      · obtain ⟨l, hl⟩ := l1
        rw [p3] at hl
        rcases two b2 with ⟨a2, q1, q2, q3, q4, q5⟩ | ⟨q1, q2, q3⟩
        · exact (cross a2 j b1 (liveC _ _ q2 l2) (q4.symm.trans e2) p1 ⟨l, hl⟩ (p2.symm.trans e1)).elim
        · obtain ⟨l', hl'⟩ := l2
          rw [q3] at hl'
          exact g.inj b1 b2 j ⟨l, hl⟩ ⟨l', hl'⟩ (p2.symm.trans e1) (q2.symm.trans e2)
    · intro hx
      rcases two b' with ⟨b, h1, h2, h3, h4, h5⟩ | ⟨h1, h2, h3⟩
      · have hF := footF j (g'.own b j (liveC _ _ h2 hl) (h4.symm.trans hj) (Nat.lt_of_lt_of_le (g.xlt j hx) g.evo.size))
        obtain ⟨b0, n1, e⟩ := hF
        exact g.disj _ j (live2 b0 n1) e hx
      · obtain ⟨l, hl⟩ := hl
        rw [h3] at hl
        exact g.disj b' j ⟨l, hl⟩ (h2.symm.trans hj) hx
    · rcases two b' with ⟨b, h1, h2, h3, h4, h5⟩ | ⟨h1, h2, h3⟩
      · have hF := footF j (g'.own b j (liveC _ _ h2 hl) (h4.symm.trans hj) (Nat.lt_of_lt_of_le hlt g.evo.size))
        obtain ⟨b0, n1, e⟩ := hF
        exact g.own _ j (live2 b0 n1) e hlt
      · obtain ⟨l, hl⟩ := hl
        rw [h3] at hl
        exact g.own b' j ⟨l, hl⟩ (h2.symm.trans hj) hlt
    · rcases two b' with ⟨b, h1, h2, h3, h4, h5⟩ | ⟨h1, h2, h3⟩
      · rw [h5] at hb'
        cases h6 : look σ' b with
        | none => exact absurd h6 h3
        | some o => rw [h6] at hb'; cases hb'
      · rw [h2]; rw [h3] at hb'; exact g.fresh b' hb'
    · rcases two b' with ⟨b, h1, h2, h3, h4, h5⟩ | ⟨h1, h2, h3⟩
      · rw [h5]
        cases h6 : look σ' b with
        | none => exact absurd h6 h3
        | some o => simp
      · rw [h3]; exact g.dom b' hb'
    · rcases two b' with ⟨b, h1, h2, h3, h4, h5⟩ | ⟨h1, h2, h3⟩
      · by_cases hn : look σ b = none
        · exact absurd (newn b b' h1 hn) (g.dom b' hb')
        · rw [h4, oldμ b b' h1 hn]; exact g.ext b' hb'
      · rw [h2]; exact g.ext b' hb'
    · refine g.evo.trans g'.evo fun j o hj hf => ?_
      obtain ⟨b, n1, e⟩ := footF j hf
      exact g.own _ j (live2 b n1) e (by rw [Array.getElem?_eq_some_iff] at hj; exact hj.1)
  refine hR u μ2 w' ⟨gB, g.defers, g.size, fun i x hx => ?_⟩ (rn_outT M2M' outμ hu)
  exact (g.temps i x hx).imp fun u hu => ⟨hu.1, hu.2.stab st g'.evo.shape ext⟩
end
end Gx
