import Derived.Test.YtnbiiphkefhkcaaGreatGxW
set_option linter.unusedVariables false
set_option linter.unusedSimpArgs false
namespace Gx
open Go

/-! ### A call by a spec in which cells of the blocks may stay as they were -/
def S.rnk (rn : List (Nat × Nat)) (σc : List (Nat × Option Blk)) : S → S
  | .keep b off => match look σc (rnN rn b) with
    | some (some bl) => bl.l.getD off .any
    | _ => .any
  | s => s.rn rn
def D.rnk (rn : List (Nat × Nat)) (σc : List (Nat × Option Blk)) : D → D
  | .sc s => .sc (s.rnk rn σc)
  | .agg l => .agg (l.map (S.rnk rn σc))
def T.rnk (rn : List (Nat × Nat)) (σc : List (Nat × Option Blk)) : T → T
  | .d x => .d (x.rnk rn σc)
  | .tup l => .tup (l.map (D.rnk rn σc))
def Blk.rnk (rn : List (Nat × Nat)) (σc : List (Nat × Option Blk)) : Blk → Blk
  | .var l => .var (l.map (S.rnk rn σc))
  | .arr l => .arr (l.map (S.rnk rn σc))
theorem Blk.rnk_l (rn : List (Nat × Nat)) (σc : List (Nat × Option Blk)) (b : Blk) : (b.rnk rn σc).l = b.l.map (S.rnk rn σc) := by cases b <;> rfl
def rnσk (rn : List (Nat × Nat)) (σc : List (Nat × Option Blk)) (σ : List (Nat × Option Blk)) : List (Nat × Option Blk) := σ.map fun p => (rnN rn p.1, p.2.map (Blk.rnk rn σc))
section
variable {cx c2 : Cx} {rn : List (Nat × Nat)} {μ μ2 : Nat → Option (Option Nat)} {M M2 : Nat → Prop} {w : World} {σc : List (Nat × Option Blk)}
theorem rnk_out (hkp : ∀ b off u, RelS c2 w μ2 M2 (.keep b off) u → RelS cx w μ M ((S.keep b off).rnk rn σc) u) (hM : ∀ k, M k → M2 k) (hμ : ∀ b x, μ2 b = some x → μ (rnN rn b) = some x) {s : S} {u : Value} (h : RelS c2 w μ2 M2 s u) : RelS cx w μ M (s.rnk rn σc) u := by
  cases s with
  | keep b off => exact hkp b off u h
  | v x => exact rn_out (rn := rn) hM hμ h
  | xrow cs n => exact rn_out (rn := rn) hM hμ h
  | ptr b off => exact rn_out (rn := rn) hM hμ h
  | eptr cs off => exact rn_out (rn := rn) hM hμ h
  | mrow b off len sp es ex => exact rn_out (rn := rn) hM hμ h
  | clo f bs => exact rn_out (rn := rn) hM hμ h
  | ub p => exact rn_out (rn := rn) hM hμ h
  | any => trivial
theorem rnk_outD (hkp : ∀ b off u, RelS c2 w μ2 M2 (.keep b off) u → RelS cx w μ M ((S.keep b off).rnk rn σc) u) (hM : ∀ k, M k → M2 k) (hμ : ∀ b x, μ2 b = some x → μ (rnN rn b) = some x) {d : D} {u : Value} (h : RelD c2 w μ2 M2 d u) : RelD cx w μ M (d.rnk rn σc) u := by
  cases d with
  | sc s => exact rnk_out hkp hM hμ h
  | agg l =>
    obtain ⟨arr, h1, h2, h3⟩ := h
    refine ⟨arr, h1, by simpa using h2, fun i x hi => ?_⟩
    rw [List.getElem?_map] at hi
    cases hy : l[i]? with
    | none => rw [hy] at hi; cases hi
    | some y =>
      rw [hy] at hi; injection hi with hi; subst hi
      obtain ⟨u, h4, h5⟩ := h3 i y hy
      exact ⟨u, h4, rnk_out hkp hM hμ h5⟩
theorem rnk_outT (hkp : ∀ b off u, RelS c2 w μ2 M2 (.keep b off) u → RelS cx w μ M ((S.keep b off).rnk rn σc) u) (hM : ∀ k, M k → M2 k) (hμ : ∀ b x, μ2 b = some x → μ (rnN rn b) = some x) {t : T} {u : Value} (h : RelT c2 w μ2 M2 t u) : RelT cx w μ M (t.rnk rn σc) u := by
  cases t with
  | d x => exact rnk_outD hkp hM hμ h
  | tup l =>
    obtain ⟨arr, h1, h2, h3⟩ := h
    refine ⟨arr, h1, by simpa using h2, fun i x hi => ?_⟩
    rw [List.getElem?_map] at hi
    cases hy : l[i]? with
    | none => rw [hy] at hi; cases hi
    | some y =>
      rw [hy] at hi; injection hi with hi; subst hi
      obtain ⟨u, h4, h5⟩ := h3 i y hy
      exact ⟨u, h4, rnk_outD hkp hM hμ h5⟩
end
structure CallInK (rn : List (Nat × Nat)) (s : St) (k : Nat) (σ σ' : List (Nat × Option Blk)) : Prop where
  one : OneOne rn
  dom : ∀ b, look σ b ≠ none → ∃ bl b' bl', look σ b = some (some bl) ∧ look rn b = some b' ∧ look s.σ b' = some (some bl') ∧ bl'.l.length = bl.l.length ∧ ∀ (i : Nat) x, bl.l[i]? = some x → x = .keep b i ∨ bl'.l[i]? = some (x.rn rn) ∧ x.cl σ = true
  out : ∀ b, look σ' b ≠ none → look rn b ≠ none
  nof : ∀ b b', look rn b = some b' → look σ b = none → look s.σ b' = none
  use : ∀ b b', look rn b = some b' → look σ b = none → look σ' b ≠ none
  foot : ∀ b, look σ b ≠ none ↔ b < k
  keep : ∀ b, look σ b ≠ none → look σ' b ≠ none
section
variable {P : Program} {f : FuncId} {k : Nat} {σ σ' σc : List (Nat × Option Blk)} {args : List D} {res : T} {rn : List (Nat × Nat)} {s : St}
theorem look_rnσk (h1 : OneOne rn) (h2 : ∀ p, p ∈ σ' → look rn p.1 ≠ none) (b' : Nat) :
    look (rnσk rn σc σ') b' = match look (swp rn) b' with | some b => (look σ' b).map (Option.map (Blk.rnk rn σc)) | none => none := by
  induction σ' with
  | nil => simp only [rnσk, List.map_nil, look]; split <;> rfl
  | cons p r ih =>
    obtain ⟨j, o⟩ := p
    have ih' := ih fun q hq => h2 q (List.mem_cons_of_mem _ hq)
    cases hj : look rn j with
    | none => exact absurd hj (h2 (j, o) (by simp))
    | some j' =>
      show look ((rnN rn j, o.map (Blk.rnk rn σc)) :: rnσk rn σc r) b' = _
      rw [look_cons, rnN_of hj]
      have hs := h1.to j j' hj
      by_cases e : j' = b'
      · subst e
        rw [if_pos rfl, hs]
        simp only [look_cons, if_true, Option.map_some]
      · rw [if_neg e, ih']
        cases hb : look (swp rn) b' with
        | none => rfl
        | some b =>
          have : j ≠ b := by
            rintro rfl
            have := h1.fro _ _ hb
            rw [hj] at this; injection this with this; exact e this
          simp only [look_cons, if_neg this]

theorem callOK_of_specK (hs : FSpec P f k σ args res σ') (hi : CallInK rn s k σ σ') (ha : ∀ x, x ∈ args → x.cl σ = true) :
    CallOK P f (args.map (D.rn rn)) s (res.rnk rn s.σ) (rnσk rn s.σ σ') (σ.map fun p => rnN rn p.1) := by
  refine ⟨hs.1, fun s2 hb hfr cx μ A w vs g hr R hR => ?_⟩
  -- the names of the footprint, in the caller
  have f1 : ∀ b, look σ b ≠ none → ∃ bl b' bl', look σ b = some (some bl) ∧ look rn b = some b' ∧ look s2.σ b' = some (some bl') ∧ bl'.l.length = bl.l.length ∧ look s.σ b' = some (some bl') ∧ ∀ (i : Nat) x, bl.l[i]? = some x → x = .keep b i ∨ bl'.l[i]? = some (x.rn rn) ∧ x.cl σ = true := by
    intro b h
    obtain ⟨bl, b', bl', h1, h2, h3, h5, h4⟩ := hi.dom b h
    refine ⟨bl, b', bl', h1, h2, (hb b' ?_).trans h3, h5, h3, h4⟩
    have := look_mem h1
    simp only [List.mem_map]
    exact ⟨_, this, rnN_of h2⟩
  -- the context of the callee
  let μ0 : Nat → Option (Option Nat) := fun b => match look σ b with | some _ => μ (rnN rn b) | none => none
  let F : Nat → Prop := fun j => ∃ b, look σ b ≠ none ∧ μ (rnN rn b) = some (some j)
  let c2 : Cx := { w0 := w, μ0 := μ0, k := k, X := fun j => Mut cx μ s2.σ j ∧ ¬ F j, df := [] }
  have μ0e : ∀ b, look σ b ≠ none → μ0 b = μ (rnN rn b) := fun b h => by
    show (match look σ b with | some _ => μ (rnN rn b) | none => none) = _
    split
    · rfl
    · rename_i hn; exact absurd hn h
  have μ0n : ∀ b, look σ b = none → μ0 b = none := fun b h => by
    show (match look σ b with | some _ => μ (rnN rn b) | none => none) = _
    rw [h]
  have liveσ : ∀ b, look σ b ≠ none → live σ b := fun b h => (f1 b h).elim fun bl h => h.elim fun _ h => h.elim fun _ h => ⟨bl, h.1⟩
  have live2 : ∀ b, look σ b ≠ none → live s2.σ (rnN rn b) := fun b h => by
    obtain ⟨bl, b', bl', h1, h2, h3, _⟩ := f1 b h
    rw [rnN_of h2]; exact ⟨_, h3⟩
  have FM : ∀ j, F j → Mut cx μ s2.σ j := fun j ⟨b, h1, h2⟩ => .inr ⟨_, live2 b h1, h2⟩
  have MM : Mut c2 μ0 σ = Mut cx μ s2.σ := by
    funext j
    apply propext
    constructor
    · rintro (h | ⟨b, ⟨l, hl⟩, hj⟩)
      · exact h.1
      · have hne : look σ b ≠ none := by rw [hl]; simp
        exact FM j ⟨b, hne, by rw [← μ0e b hne]; exact hj⟩
    · intro h
      by_cases hF : F j
      · obtain ⟨b, h1, h2⟩ := hF
        exact .inr ⟨b, liveσ b h1, by rw [μ0e b h1]; exact h2⟩
      · exact .inl ⟨h, hF⟩
  have isL1 : ∀ b, isL σ b = true → look σ b ≠ none := fun b h => by
    unfold isL at h
    split at h
    · rename_i x hx; rw [hx]; simp
    · cases h
  have μin : ∀ b x, isL σ b = true → μ (rnN rn b) = some x → μ0 b = some x := fun b x h hx => by rw [μ0e b (isL1 b h)]; exact hx
  have heapOf : ∀ b j, live s2.σ b → μ b = some (some j) → ∃ o, w.heap[j]? = some o := fun b j ⟨l, hl⟩ hj => by
    rcases g.blks b l hl with ⟨h, _⟩ | ⟨k', arr, ty, h1, h2, _⟩
    · rw [hj] at h; cases h
    · rw [hj] at h1; injection h1 with h1; injection h1 with h1; subst h1; exact ⟨_, h2⟩
  have ltOf : ∀ j (o : Obj), w.heap[j]? = some o → j < w.heap.size := fun j o h => by
    rw [Array.getElem?_eq_some_iff] at h; exact h.1
  have gc : GoodB c2 c2.μ0 σ w := by
    refine ⟨fun b l hl => ?_, fun b b' j h1 h2 e1 e2 => ?_, fun b j h1 e1 => ?_, fun b j h1 e1 _ => ?_, fun b h => μ0n b h, fun b h => (hi.foot b).2 h, fun _ _ => rfl, fun j hj => ?_, Evo.refl _ _⟩
    · have hne : look σ b ≠ none := by rw [hl]; simp
      obtain ⟨bl, b', bl', h1, h2, h3, h5l, _, h4⟩ := f1 b hne
      rw [hl] at h1; injection h1 with h1; injection h1 with h1; subst h1
      rcases g.blks b' _ h3 with ⟨h5, h6⟩ | ⟨j, arr, ty, h5, h6, h7, h8⟩
      · refine .inl ⟨(μ0e b hne).trans (by rw [rnN_of h2]; exact h5), ?_⟩
        rw [h6] at h5l
        exact List.eq_nil_of_length_eq_zero h5l.symm
      · have hμb : μ0 b = some (some j) := (μ0e b hne).trans (by rw [rnN_of h2]; exact h5)
        refine .inr ⟨j, arr, ty, hμb, h6, by omega, fun i x hx => ?_⟩
        rcases h4 i x hx with rfl | ⟨h9, h10⟩
        · have hlt : i < arr.size := by have := (List.getElem?_eq_some_iff.1 hx).1; omega
          refine ⟨arr[i], Array.getElem?_eq_getElem hlt, j, hμb, ?_⟩
          show w.cell? ⟨j, i, none⟩ = _
          simp [World.cell?, h6, Array.getElem?_eq_getElem hlt]
        · obtain ⟨u, h11, h12⟩ := h8 i _ h9
          exact ⟨u, h11, rn_in (fun j hj => by rw [MM] at hj; exact hj) μin h10 h12⟩
    · obtain ⟨l1, h1⟩ := h1; obtain ⟨l2, h2⟩ := h2
      have n1 : look σ b ≠ none := by rw [h1]; simp
      have n2 : look σ b' ≠ none := by rw [h2]; simp
      have := g.inj _ _ j (live2 b n1) (live2 b' n2) ((μ0e b n1).symm.trans e1) ((μ0e b' n2).symm.trans e2)
      obtain ⟨_, x1, _, _, y1, _⟩ := f1 b n1
      obtain ⟨_, x2, _, _, y2, _⟩ := f1 b' n2
      rw [rnN_of y1, rnN_of y2] at this
      subst this
      have a1 := hi.one.to _ _ y1
      have a2 := hi.one.to _ _ y2
      rw [a1] at a2; injection a2
    · obtain ⟨l1, h1⟩ := h1
      have n1 : look σ b ≠ none := by rw [h1]; simp
      exact fun hx => hx.2 ⟨b, n1, (μ0e b n1).symm.trans e1⟩
    · obtain ⟨l1, h1⟩ := h1
      have n1 : look σ b ≠ none := by rw [h1]; simp
      exact ⟨b, (hi.foot b).1 n1, e1⟩
    · rcases hj.1 with h | ⟨b, h1, h2⟩
      · exact Nat.lt_of_lt_of_le (g.xlt j h) g.evo.size
      · obtain ⟨o, ho⟩ := heapOf b j h1 h2; exact ltOf j o ho
  have hargs : RelDs c2 w c2.μ0 (Mut c2 c2.μ0 σ) args vs := by
    refine ⟨by simpa using hr.1, fun i x hx => ?_⟩
    obtain ⟨u, h1, h2⟩ := hr.2 i (x.rn rn) (by rw [List.getElem?_map, hx]; rfl)
    refine ⟨u, h1, rn_inD (M := Mut cx μ s2.σ) (fun j hj => ?_) μin (ha x (List.mem_of_getElem? hx)) h2⟩
    have : Mut c2 μ0 σ j := hj
    rw [MM] at this; exact this
  refine hs.2 c2 w vs rfl rfl rfl gc hargs R fun u μ' w' g' hu => ?_
  -- back in the caller
  have σ'm : ∀ p, p ∈ σ' → look rn p.1 ≠ none := fun p hp => hi.out p.1 (look_isSome_mem (x := p.2) hp)
  have lw := look_rnσk (σc := s.σ) (σ' := σ') hi.one σ'm
  let μ2 : Nat → Option (Option Nat) := fun b' => match look (swp rn) b' with | some b => μ' b | none => μ b'
  have lk : ∀ b', look (rnσk rn s.σ σ' ++ s2.σ) b' = match look (rnσk rn s.σ σ') b' with | some x => some x | none => look s2.σ b' := fun b' => by
    rw [look_append]
    cases look (rnσk rn s.σ σ') b' <;> rfl
  -- a name of the caller is one of the callee, or goes on as it was
  have two : ∀ b', (∃ b, look rn b = some b' ∧ look (swp rn) b' = some b ∧ look σ' b ≠ none ∧ μ2 b' = μ' b ∧ look (rnσk rn s.σ σ' ++ s2.σ) b' = (look σ' b).map (Option.map (Blk.rnk rn s.σ))) ∨
      (look (swp rn) b' = none ∧ μ2 b' = μ b' ∧ look (rnσk rn s.σ σ' ++ s2.σ) b' = look s2.σ b') := by
    intro b'
    cases hb' : look (swp rn) b' with
    | none =>
      refine .inr ⟨rfl, ?_, ?_⟩
      · show (match look (swp rn) b' with | some b => μ' b | none => μ b') = _; rw [hb']
      · rw [lk, lw, hb']
    | some b =>
      have h1 := hi.one.fro _ _ hb'
      have h2 : look σ' b ≠ none := by
        by_cases h : look σ b = none
        · exact hi.use b b' h1 h
        · exact hi.keep b h
      refine .inl ⟨b, h1, rfl, h2, ?_, ?_⟩
      · show (match look (swp rn) b' with | some b => μ' b | none => μ b') = _; rw [hb']
      · rw [lk, lw, hb']
        cases h3 : look σ' b with
        | none => exact absurd h3 h2
        | some x => simp only [h3, Option.map_some]
  have oldμ : ∀ b b', look rn b = some b' → look σ b ≠ none → μ' b = μ b' := fun b b' h1 h2 => by
    have := g'.ext b ((hi.foot b).1 h2)
    rw [this]
    have e : c2.μ0 b = μ (rnN rn b) := μ0e b h2
    rw [e, rnN_of h1]
  have newn : ∀ b b', look rn b = some b' → look σ b = none → look s2.σ b' = none := fun b b' h1 h2 => by
    refine hfr b' ?_ ?_
    · obtain ⟨x, hx⟩ := Option.ne_none_iff_exists'.1 (hi.use b b' h1 h2)
      have := look_mem hx
      simp only [rnσk, List.map_map, List.mem_map]
      exact ⟨_, this, rnN_of h1⟩
    · simp only [List.mem_map]
      rintro ⟨p, hp, e⟩
      have n1 : look σ p.1 ≠ none := look_isSome_mem (x := p.2) hp
      obtain ⟨_, x1, _, _, y1, _⟩ := f1 p.1 n1
      rw [rnN_of y1] at e
      subst e
      have a1 := hi.one.to _ _ y1
      have a2 := hi.one.to _ _ h1
      rw [a1] at a2; injection a2 with a2
      rw [a2] at n1; exact n1 h2
  have ext : Ext μ μ2 := by
    intro b' x hx
    rcases two b' with ⟨b, h1, h2, h3, h4, h5⟩ | ⟨h1, h2, h3⟩
    · rw [h4]
      by_cases hn : look σ b = none
      · rw [g.fresh b' (newn b b' h1 hn)] at hx; cases hx
      · rw [oldμ b b' h1 hn]; exact hx
    · rw [h2]; exact hx
  have notF : ∀ b' j, look (swp rn) b' = none → live s2.σ b' → μ b' = some (some j) → ¬ F j := by
    rintro b' j hs hl hj ⟨b, n1, e⟩
    have := g.inj _ _ j hl (live2 b n1) hj e
    obtain ⟨_, x1, _, _, y1, _⟩ := f1 b n1
    rw [rnN_of y1] at this; subst this
    rw [hi.one.to _ _ y1] at hs; cases hs
  have M2M' : ∀ j, Mut cx μ2 (rnσk rn s.σ σ' ++ s2.σ) j → Mut c2 μ' σ' j := by
    rintro j (h | ⟨b', ⟨l, hl⟩, hj⟩)
    · refine .inl ⟨.inl h, ?_⟩
      rintro ⟨b, n1, e⟩
      exact g.disj _ j (live2 b n1) e h
    · rcases two b' with ⟨b, h1, h2, h3, h4, h5⟩ | ⟨h1, h2, h3⟩
      · rw [h4] at hj
        rw [h5] at hl
        refine .inr ⟨b, ?_, hj⟩
        cases h6 : look σ' b with
        | none => exact absurd h6 h3
        | some o =>
          rw [h6] at hl
          cases o with
          | none => simp at hl
          | some bl => exact ⟨bl, h6⟩
      · rw [h2] at hj
        rw [h3] at hl
        exact .inl ⟨.inr ⟨b', ⟨l, hl⟩, hj⟩, notF b' j h1 ⟨l, hl⟩ hj⟩
  have outμ : ∀ b x, μ' b = some x → μ2 (rnN rn b) = some x := fun b x hx => by
    have : look σ' b ≠ none := fun h => by rw [g'.fresh b h] at hx; cases hx
    cases h1 : look rn b with
    | none => exact absurd h1 (hi.out b this)
    | some b' =>
      rw [rnN_of h1]
      show (match look (swp rn) b' with | some b => μ' b | none => μ b') = _
      rw [hi.one.to _ _ h1]; exact hx
  have footF : ∀ j, Foot c2 j → F j := by
    rintro j ⟨b, hb, e⟩
    have n1 := (hi.foot b).2 hb
    exact ⟨b, n1, (μ0e b n1).symm.trans e⟩
  have st : Stab w w' (Mut cx μ s2.σ) (Mut cx μ2 (rnσk rn s.σ σ' ++ s2.σ)) := by
    refine ⟨fun j o hj hm => g'.evo.same j o hj fun hf => hm (FM j (footF j hf)), fun j o hj hm hm' => ?_⟩
    rcases hm' with h | ⟨b', ⟨l, hl⟩, hjb⟩
    · exact hm (.inl h)
    · rcases two b' with ⟨b, h1, h2, h3, h4, h5⟩ | ⟨h1, h2, h3⟩
      · rw [h4] at hjb
        rw [h5] at hl
        have hlv : live σ' b := by
          cases h6 : look σ' b with
          | none => exact absurd h6 h3
          | some o =>
            rw [h6] at hl
            cases o with
            | none => simp at hl
            | some bl => exact ⟨bl, h6⟩
        exact hm (FM j (footF j (g'.own b j hlv hjb (ltOf j o hj))))
      · rw [h2] at hjb; rw [h3] at hl
        exact hm (.inr ⟨b', ⟨l, hl⟩, hjb⟩)
  have keepOK : ∀ b off u, RelS c2 w' μ' (Mut c2 μ' σ') (.keep b off) u → RelS cx w' μ2 (Mut cx μ2 (rnσk rn s.σ σ' ++ s2.σ)) ((S.keep b off).rnk rn s.σ) u := by
    rintro b off u ⟨kk, hk1, hk2⟩
    have n1 : look σ b ≠ none := fun h => by
      have : c2.μ0 b = none := μ0n b h
      rw [this] at hk1; cases hk1
    obtain ⟨bl, b', bl', h1, h2, h3, h5l, h3', h4⟩ := f1 b n1
    show RelS _ _ _ _ (match look s.σ (rnN rn b) with | some (some bl) => bl.l.getD off .any | _ => .any) u
    rw [rnN_of h2, h3']
    show RelS _ _ _ _ (bl'.l.getD off .any) u
    have e1 : μ b' = some (some kk) := by
      have := (μ0e b n1).symm.trans hk1
      rw [rnN_of h2] at this; exact this
    rcases g.blks b' _ h3 with ⟨h5, _⟩ | ⟨j, arr, ty, h5, h6, h7, h8⟩
    · rw [e1] at h5; cases h5
    · rw [e1] at h5; injection h5 with h5; injection h5 with h5; subst h5
      rw [List.getD_eq_getElem?_getD]
      cases hy : bl'.l[off]? with
      | none => trivial
      | some y =>
        obtain ⟨v, h9, h10⟩ := h8 off y hy
        have : w.cell? ⟨kk, off, none⟩ = some u := hk2
        have e2 : v = u := by
          simp only [World.cell?, h6] at this
          rw [h9] at this; simpa using this
        subst e2
        exact h10.stab st g'.evo.shape ext
  have gB : GoodB cx μ2 (rnσk rn s.σ σ' ++ s2.σ) w' := by
    have liveC : ∀ b' b, look (swp rn) b' = some b → live (rnσk rn s.σ σ' ++ s2.σ) b' → live σ' b := by
      rintro b' b h2 ⟨l, hl⟩
      rcases two b' with ⟨b1, h1, h2', h3, h4, h5⟩ | ⟨h1, _, _⟩
      · rw [h2] at h2'; injection h2' with h2'; subst h2'
        rw [h5] at hl
        cases h6 : look σ' b with
        | none => exact absurd h6 h3
        | some o =>
          rw [h6] at hl
          cases o with
          | none => simp at hl
          | some bl => exact ⟨bl, h6⟩
      · rw [h2] at h1; cases h1
    have cross : ∀ b j b2, live σ' b → μ' b = some (some j) → look (swp rn) b2 = none → live s2.σ b2 → μ b2 = some (some j) → False := by
      intro b j b2 h1 h2 h3 h4 h5
      obtain ⟨o, ho⟩ := heapOf b2 j h4 h5
      exact notF b2 j h3 h4 h5 (footF j (g'.own b j h1 h2 (ltOf j o ho)))
    refine ⟨fun b' l hl => ?_, fun b1 b2 j l1 l2 e1 e2 => ?_, fun b' j hl hj => ?_, fun b' j hl hj hlt => ?_, fun b' hb' => ?_, fun b' hb' => ?_, fun b' hb' => ?_, g.xlt, ?_⟩
    · rcases two b' with ⟨b, h1, h2, h3, h4, h5⟩ | ⟨h1, h2, h3⟩
      · rw [h5] at hl
        cases h6 : look σ' b with
        | none => exact absurd h6 h3
        | some o =>
          rw [h6] at hl
          cases o with
          | none => simp at hl
          | some bl =>
            simp at hl; subst hl
            rcases g'.blks b bl h6 with ⟨e1, e2⟩ | ⟨j, arr, ty, e1, e2, e3, e4⟩
            · exact .inl ⟨h4.trans e1, by rw [Blk.rnk_l, e2]; rfl⟩
            · refine .inr ⟨j, arr, ty, h4.trans e1, e2, by rw [Blk.rnk_l]; simpa using e3, fun i x hx => ?_⟩
              rw [Blk.rnk_l, List.getElem?_map] at hx
              cases hy : bl.l[i]? with
              | none => rw [hy] at hx; cases hx
              | some y =>
                rw [hy] at hx; injection hx with hx; subst hx
                obtain ⟨u, e5, e6⟩ := e4 i y hy
                exact ⟨u, e5, rnk_out keepOK M2M' outμ e6⟩
      · rw [h3] at hl
        rcases g.blks b' l hl with ⟨e1, e2⟩ | ⟨j, arr, ty, e1, e2, e3, e4⟩
        · exact .inl ⟨h2.trans e1, e2⟩
        · refine .inr ⟨j, arr, ty, h2.trans e1, ?_, e3, e4.stab st g'.evo.shape ext⟩
          exact g'.evo.same j _ e2 fun hf => notF b' j h1 ⟨l, hl⟩ e1 (footF j hf)
    · rcases two b1 with ⟨a1, p1, p2, p3, p4, p5⟩ | ⟨p1, p2, p3⟩
      · rcases two b2 with ⟨a2, q1, q2, q3, q4, q5⟩ | ⟨q1, q2, q3⟩
        · have := g'.inj a1 a2 j (liveC _ _ p2 l1) (liveC _ _ q2 l2) (p4.symm.trans e1) (q4.symm.trans e2)
          subst this
          rw [p1] at q1; injection q1
        · obtain ⟨l, hl⟩ := l2
          rw [q3] at hl
          exact (cross a1 j b2 (liveC _ _ p2 l1) (p4.symm.trans e1) q1 ⟨l, hl⟩ (q2.symm.trans e2)).elim
      · obtain ⟨l, hl⟩ := l1
        rw [p3] at hl
        rcases two b2 with ⟨a2, q1, q2, q3, q4, q5⟩ | ⟨q1, q2, q3⟩
        · exact (cross a2 j b1 (liveC _ _ q2 l2) (q4.symm.trans e2) p1 ⟨l, hl⟩ (p2.symm.trans e1)).elim
        · obtain ⟨l', hl'⟩ := l2
          rw [q3] at hl'
          exact g.inj b1 b2 j ⟨l, hl⟩ ⟨l', hl'⟩ (p2.symm.trans e1) (q2.symm.trans e2)
    · intro hx
      rcases two b' with ⟨b, h1, h2, h3, h4, h5⟩ | ⟨h1, h2, h3⟩
      · have hF := footF j (g'.own b j (liveC _ _ h2 hl) (h4.symm.trans hj) (Nat.lt_of_lt_of_le (g.xlt j hx) g.evo.size))
        obtain ⟨b0, n1, e⟩ := hF
        exact g.disj _ j (live2 b0 n1) e hx
      · obtain ⟨l, hl⟩ := hl
        rw [h3] at hl
        exact g.disj b' j ⟨l, hl⟩ (h2.symm.trans hj) hx
    · rcases two b' with ⟨b, h1, h2, h3, h4, h5⟩ | ⟨h1, h2, h3⟩
      · have hF := footF j (g'.own b j (liveC _ _ h2 hl) (h4.symm.trans hj) (Nat.lt_of_lt_of_le hlt g.evo.size))
        obtain ⟨b0, n1, e⟩ := hF
        exact g.own _ j (live2 b0 n1) e hlt
      · obtain ⟨l, hl⟩ := hl
        rw [h3] at hl
        exact g.own b' j ⟨l, hl⟩ (h2.symm.trans hj) hlt
    · rcases two b' with ⟨b, h1, h2, h3, h4, h5⟩ | ⟨h1, h2, h3⟩
      · rw [h5] at hb'
        cases h6 : look σ' b with
        | none => exact absurd h6 h3
        | some o => rw [h6] at hb'; cases hb'
      · rw [h2]; rw [h3] at hb'; exact g.fresh b' hb'
    · rcases two b' with ⟨b, h1, h2, h3, h4, h5⟩ | ⟨h1, h2, h3⟩
      · rw [h5]
        cases h6 : look σ' b with
        | none => exact absurd h6 h3
        | some o => simp
      · rw [h3]; exact g.dom b' hb'
    · rcases two b' with ⟨b, h1, h2, h3, h4, h5⟩ | ⟨h1, h2, h3⟩
      · by_cases hn : look σ b = none
        · exact absurd (newn b b' h1 hn) (g.dom b' hb')
        · rw [h4, oldμ b b' h1 hn]; exact g.ext b' hb'
      · rw [h2]; exact g.ext b' hb'
    · refine g.evo.trans g'.evo fun j o hj hf => ?_
      obtain ⟨b, n1, e⟩ := footF j hf
      exact g.own _ j (live2 b n1) e (by rw [Array.getElem?_eq_some_iff] at hj; exact hj.1)
  refine hR u μ2 w' ⟨gB, g.defers, g.size, fun i x hx => ?_⟩ (rnk_outT keepOK M2M' outμ hu)
  exact (g.temps i x hx).imp fun u hu => ⟨hu.1, hu.2.stab st g'.evo.shape ext⟩
end

def keptAt (b i : Nat) : S → Option Bool
  | .keep b' i' => some (Nat.beq b' b && Nat.beq i' i)
  | _ => none
def zipK (rn : List (Nat × Nat)) (b : Nat) : Nat → List S → List S → List S
  | i, x :: l, y :: m => (match keptAt b i x with | some _ => y | none => x.rn rn) :: zipK rn b (i + 1) l m
  | _, _, _ => []
def clKs (σ : List (Nat × Option Blk)) (b : Nat) : Nat → List S → Bool
  | _, [] => true
  | i, x :: l => (match keptAt b i x with | some r => r | none => x.cl σ) && clKs σ b (i + 1) l
theorem keptAt_true {b i : Nat} {x : S} (h : keptAt b i x = some true) : x = .keep b i := by
  cases x <;> simp only [keptAt] at h <;> try cases h
  rename_i b' i'
  injection h with h
  simp only [Bool.and_eq_true] at h
  rw [Nat.eq_of_beq_eq_true h.1, Nat.eq_of_beq_eq_true h.2]
theorem zipK_get {rn : List (Nat × Nat)} {σ : List (Nat × Option Blk)} {b : Nat} : ∀ {i : Nat} {l m : List S}, zipK rn b i l m = m → l.length = m.length → clKs σ b i l = true →
    ∀ (j : Nat) x, l[j]? = some x → x = .keep b (i + j) ∨ m[j]? = some (x.rn rn) ∧ x.cl σ = true
  | i, [], m, _, _, _, j, x, h => by simp at h
  | i, y :: l, [], _, hl, _, j, x, h => by simp at hl
  | i, y :: l, z :: m, hz, hl, hc, j, x, h => by
    simp only [zipK] at hz
    injection hz with h1 h2
    simp only [clKs, Bool.and_eq_true] at hc
    cases j with
    | zero =>
      simp at h; subst h
      cases hk : keptAt b i y with
      | some r =>
        rw [hk] at hc
        have : r = true := hc.1
        subst this
        exact .inl (keptAt_true hk)
      | none =>
        rw [hk] at hc h1
        exact .inr ⟨by simp; exact h1.symm, hc.1⟩
    | succ j =>
      have := zipK_get (σ := σ) h2 (by simpa using hl) hc.2 j x (by simpa using h)
      rcases this with h | h
      · exact .inl (by rw [h]; congr 1; omega)
      · exact .inr (by simpa using h)
def EntK (rn : List (Nat × Nat)) (σc : List (Nat × Option Blk)) (σ0 : List (Nat × Option Blk)) : List (Nat × Option Blk) → Prop
  | [] => True
  | (b, some bl) :: r => (∃ b' bl', look rn b = some b' ∧ look σc b' = some (some bl') ∧ zipK rn b 0 bl.l bl'.l = bl'.l ∧ bl.l.length = bl'.l.length ∧ clKs σ0 b 0 bl.l = true) ∧ EntK rn σc σ0 r
  | (_, none) :: _ => False
theorem EntK_look {rn : List (Nat × Nat)} {σc σ0 : List (Nat × Option Blk)} : ∀ {l : List (Nat × Option Blk)}, EntK rn σc σ0 l → ∀ b o, look l b = some o → ∃ bl b' bl', o = some bl ∧ look rn b = some b' ∧ look σc b' = some (some bl') ∧ bl'.l.length = bl.l.length ∧
      ∀ (i : Nat) x, bl.l[i]? = some x → x = .keep b i ∨ bl'.l[i]? = some (x.rn rn) ∧ x.cl σ0 = true
  | [], _, b, o, h => by simp [look] at h
  | (j, some bl) :: r, he, b, o, h => by
    rw [look_cons] at h
    split at h
    · rename_i e; subst e; injection h with h; subst h
      obtain ⟨⟨b', bl', h1, h2, h3, h4, h5⟩, _⟩ := he
      refine ⟨bl, b', bl', rfl, h1, h2, h4.symm, fun i x hx => ?_⟩
      have := zipK_get h3 h4 h5 i x hx
      rwa [Nat.zero_add] at this
    · exact EntK_look he.2 b o h
  | (_, none) :: _, he, _, _, _ => he.elim
theorem callInK_of {rn : List (Nat × Nat)} {s : St} {k : Nat} {σ σ' : List (Nat × Option Blk)} (h1 : nodupB (rn.map (·.1)) = true) (h2 : nodupB (rn.map (·.2)) = true) (h3 : EntK rn s.σ σ σ)
    (h4 : outB rn σ' = true) (h5 : newB rn s σ σ' = true) (h6 : lowB σ k = true) (h7 : allLt σ k = true) (h8 : subK σ σ' = true) : CallInK rn s k σ σ' := by
  unfold newB at h5
  rw [List.all_eq_true] at h5
  have new : ∀ b b', look rn b = some b' → look σ b = none → look s.σ b' = none ∧ look σ' b ≠ none := fun b b' hb hn => by
    have := h5 _ (look_mem hb)
    simp only [Bool.or_eq_true, Bool.and_eq_true, Bool.not_eq_true'] at this
    rcases this with h | h
    · exact absurd hn (isL_of h)
    · exact ⟨isL_false h.1, isL_of h.2⟩
  refine ⟨oneOne_of h1 h2, fun b h => ?_, fun b h => ?_, fun b b' hb hn => (new b b' hb hn).1, fun b b' hb hn => (new b b' hb hn).2, fun b => ⟨fun h => ?_, fun h => lowB_of h6 b h⟩, fun b h => ?_⟩
  · obtain ⟨o, ho⟩ := Option.ne_none_iff_exists'.1 h
    obtain ⟨bl, b', bl', e, e1, e2, e3, e4⟩ := EntK_look h3 b o ho
    subst e
    exact ⟨bl, b', bl', ho, e1, e2, e3, e4⟩
  · obtain ⟨o, ho⟩ := Option.ne_none_iff_exists'.1 h
    unfold outB at h4
    rw [List.all_eq_true] at h4
    have := h4 _ (look_mem ho)
    simp only at this
    split at this
    · rename_i x hx; rw [hx]; simp
    · cases this
  · obtain ⟨o, ho⟩ := Option.ne_none_iff_exists'.1 h
    unfold allLt at h7
    rw [List.all_eq_true] at h7
    have := h7 _ (look_mem ho)
    simpa [Nat.blt_eq] using this
  · obtain ⟨o, ho⟩ := Option.ne_none_iff_exists'.1 h
    unfold subK at h8
    rw [List.all_eq_true] at h8
    exact isL_of (h8 _ (look_mem ho))

section
variable {P : Program} {Q : Ex → St → Prop} {f : FuncId} {args args1 args0 : List D} {res res0 : T} {s : St} {nm k : Nat} {kk : T → List (Nat × Option Blk) → List Nat → Tree} {σ σ' σ1 : List (Nat × Option Blk)}
/-- A call by a spec, its names read through rn; cells may be kept; the rows of one's own among the arguments are given up. -/
theorem w_callK (rn : List (Nat × Nat)) (hs : FSpec P f k σ args0 res0 σ') (hz : mapO (fzDc s.σ (mrowDs args)) args = some args1) (hargs : args0.map (D.rn rn) = args1) (h3 : EntK rn (s.kill (mrowDs args)).σ σ σ)
    (hd : (mrowDs args).all (isL s.σ) = true) (h1 : nodupB (rn.map (·.1)) = true) (h2 : nodupB (rn.map (·.2)) = true)
    (h4 : outB rn σ' = true) (h5 : newB rn (s.kill (mrowDs args)) σ σ' = true) (h6 : lowB σ k = true) (h7 : allLt σ k = true) (h8 : subK σ σ' = true) (ha : args0.all (fun x => x.cl σ) = true)
    (hr : res0.rnk rn (s.kill (mrowDs args)).σ = res) (ho : rnσk rn (s.kill (mrowDs args)).σ σ' = σ1) (hw : (namesW σ1).all (fun b => inL b (σ.map fun p => rnN rn p.1) || !inL b (mrowDs args)) = true)
    (hk : WpT P (kk res (σ1 ++ killσ (mrowDs args)) ((σ.map fun p => rnN rn p.1) ++ mrowDs args)) Q) : WpT P (.call f args s nm kk) Q := by
  have hi := callInK_of (s := s.kill (mrowDs args)) h1 h2 h3 h4 h5 h6 h7 h8
  have hc := callOK_of_specK hs hi (by simpa using ha)
  rw [hargs, hr, ho] at hc
  refine w_callz _ (fzDs_ok hz) hd hc (fun b hb hn => ?_) hw hk
  rw [← ho] at hb
  simp only [rnσk, List.map_map, List.mem_map] at hb
  obtain ⟨p, hp, e⟩ := hb
  have hne := look_isSome_mem (x := p.2) hp
  have e' : rnN rn p.1 = b := e
  cases hl : look rn p.1 with
  | none => exact absurd hl (hi.out _ hne)
  | some x =>
    rw [rnN_of hl] at e'
    subst e'
    by_cases hσ : look σ p.1 = none
    · exact hi.nof _ _ hl hσ
    · exfalso
      obtain ⟨o, ho'⟩ := Option.ne_none_iff_exists'.1 hσ
      exact hn (List.mem_map.2 ⟨(p.1, o), look_mem ho', rnN_of hl⟩)
end
end Gx
