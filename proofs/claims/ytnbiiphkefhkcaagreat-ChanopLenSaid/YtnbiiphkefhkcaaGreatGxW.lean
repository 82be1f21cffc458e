import Derived.Test.YtnbiiphkefhkcaaGreatGxV
set_option linter.unusedVariables false
set_option linter.unusedSimpArgs false
namespace Gx
open Go

/-! ### Calls that turn several blocks -/
def nodupB : List Nat → Bool
  | [] => true
  | n :: r => !inL n r && nodupB r
theorem look_swp_fst {rn : List (Nat × Nat)} {b b' : Nat} (h : look rn b = some b') : b' ∈ rn.map (·.2) := by
  have := look_mem h
  simp only [List.mem_map]; exact ⟨_, this, rfl⟩
theorem oneOne_of : ∀ {rn : List (Nat × Nat)}, nodupB (rn.map (·.1)) = true → nodupB (rn.map (·.2)) = true → OneOne rn
  | [], _, _ => ⟨fun b b' h => by simp [look] at h, fun b b' h => by simp [swp, look] at h⟩
  | (j, x) :: r, h1, h2 => by
    simp only [List.map_cons, nodupB, Bool.and_eq_true, Bool.not_eq_true'] at h1 h2
    have ih := oneOne_of h1.2 h2.2
    have e : swp ((j, x) :: r) = (x, j) :: swp r := rfl
    refine ⟨fun b b' h => ?_, fun b b' h => ?_⟩
    · rw [look_cons] at h
      rw [e, look_cons]
      split at h
      · rename_i e1; subst e1; injection h with h; subst h; rw [if_pos rfl]
      · have : x ≠ b' := by
          rintro rfl
          rw [inL_iff.2 (look_swp_fst h)] at h2
          cases h2.1
        rw [if_neg this]; exact ih.to _ _ h
    · rw [e, look_cons] at h
      rw [look_cons]
      split at h
      · rename_i e1; subst e1; injection h with h; subst h; rw [if_pos rfl]
      · have hb := ih.fro _ _ h
        have : j ≠ b := by
          rintro rfl
          have hm : j ∈ r.map (·.1) := by
            have := look_mem hb
            simp only [List.mem_map]; exact ⟨_, this, rfl⟩
          rw [inL_iff.2 hm] at h1
          cases h1.1
        rw [if_neg this]; exact hb
def Ent (rn : List (Nat × Nat)) (s : St) (σ0 : List (Nat × Option Blk)) : List (Nat × Option Blk) → Prop
  | [] => True
  | (b, some bl) :: r => (∃ b' bl', look rn b = some b' ∧ look s.σ b' = some (some bl') ∧ bl.rn rn = bl' ∧ bl.l.all (S.cl σ0) = true) ∧ Ent rn s σ0 r
  | (_, none) :: _ => False
theorem Ent_look {rn : List (Nat × Nat)} {s : St} {σ0 : List (Nat × Option Blk)} : ∀ {l : List (Nat × Option Blk)}, Ent rn s σ0 l → ∀ b o, look l b = some o → ∃ bl b', o = some bl ∧ look rn b = some b' ∧ look s.σ b' = some (some (bl.rn rn)) ∧ ∀ x, x ∈ bl.l → x.cl σ0 = true
  | [], _, b, o, h => by simp [look] at h
  | (j, some bl) :: r, he, b, o, h => by
    rw [look_cons] at h
    split at h
    · rename_i e; subst e; injection h with h; subst h
      obtain ⟨⟨b', bl', h1, h2, h3, h4⟩, _⟩ := he
      rw [List.all_eq_true] at h4
      exact ⟨bl, b', rfl, h1, by rw [h3]; exact h2, h4⟩
    · exact Ent_look he.2 b o h
  | (_, none) :: _, he, _, _, _ => he.elim
def subK (a b : List (Nat × Option Blk)) : Bool := a.all fun p => isL b p.1
def allLt (a : List (Nat × Option Blk)) (k : Nat) : Bool := a.all fun p => Nat.blt p.1 k
def outB (rn : List (Nat × Nat)) (σ' : List (Nat × Option Blk)) : Bool := σ'.all fun p => match look rn p.1 with | some _ => true | none => false
def newB (rn : List (Nat × Nat)) (s : St) (σ σ' : List (Nat × Option Blk)) : Bool := rn.all fun p => isL σ p.1 || (!isL s.σ p.2 && isL σ' p.1)
theorem isL_false {σ : List (Nat × Option Blk)} {b : Nat} (h : isL σ b = false) : look σ b = none := by
  unfold isL at h
  split at h
  · cases h
  · assumption
theorem isL_true {σ : List (Nat × Option Blk)} {b : Nat} (h : look σ b ≠ none) : isL σ b = true := by
  unfold isL
  split
  · rfl
  · rename_i e; exact absurd e h
theorem callIn_of {rn : List (Nat × Nat)} {s : St} {k : Nat} {σ σ' : List (Nat × Option Blk)} (h1 : nodupB (rn.map (·.1)) = true) (h2 : nodupB (rn.map (·.2)) = true) (h3 : Ent rn s σ σ)
    (h4 : outB rn σ' = true) (h5 : newB rn s σ σ' = true) (h6 : lowB σ k = true) (h7 : allLt σ k = true) (h8 : subK σ σ' = true) : CallIn rn s k σ σ' := by
  unfold newB at h5
  rw [List.all_eq_true] at h5
  have new : ∀ b b', look rn b = some b' → look σ b = none → look s.σ b' = none ∧ look σ' b ≠ none := fun b b' hb hn => by
    have := h5 _ (look_mem hb)
    simp only [Bool.or_eq_true, Bool.and_eq_true, Bool.not_eq_true'] at this
    rcases this with h | h
    · exact absurd hn (isL_of h)
    · exact ⟨isL_false h.1, isL_of h.2⟩
  refine ⟨oneOne_of h1 h2, fun b h => ?_, fun b h => ?_, fun b b' hb hn => (new b b' hb hn).1, fun b b' hb hn => (new b b' hb hn).2, fun b => ⟨fun h => ?_, fun h => lowB_of h6 b h⟩, fun b h => ?_⟩
  · obtain ⟨o, ho⟩ := Option.ne_none_iff_exists'.1 h
    obtain ⟨bl, b', e, e1, e2, e3⟩ := Ent_look h3 b o ho
    subst e
    exact ⟨bl, b', ho, e1, e2, e3⟩
  · obtain ⟨o, ho⟩ := Option.ne_none_iff_exists'.1 h
    unfold outB at h4
    rw [List.all_eq_true] at h4
    have := h4 _ (look_mem ho)
    simp only at this
    split at this
    · rename_i x hx; rw [hx]; simp
    · cases this
  · obtain ⟨o, ho⟩ := Option.ne_none_iff_exists'.1 h
    unfold allLt at h7
    rw [List.all_eq_true] at h7
    have := h7 _ (look_mem ho)
    simpa [Nat.blt_eq] using this
  · obtain ⟨o, ho⟩ := Option.ne_none_iff_exists'.1 h
    unfold subK at h8
    rw [List.all_eq_true] at h8
    exact isL_of (h8 _ (look_mem ho))

section
variable {P : Program} {Q : Ex → St → Prop} {f : FuncId} {args args' args0 : List D} {res res0 : T} {s : St} {nm k : Nat} {kk : T → List (Nat × Option Blk) → List Nat → Tree} {σ σ' σ1 : List (Nat × Option Blk)}
/-- A call by a spec, its names read through rn. -/
theorem w_callN (rn : List (Nat × Nat)) (hs : FSpec P f k σ args0 res0 σ') (hargs : args0.map (D.rn rn) = args) (h3 : Ent rn s σ σ) (h1 : nodupB (rn.map (·.1)) = true) (h2 : nodupB (rn.map (·.2)) = true)
    (h4 : outB rn σ' = true) (h5 : newB rn s σ σ' = true) (h6 : lowB σ k = true) (h7 : allLt σ k = true) (h8 : subK σ σ' = true) (ha : args0.all (fun x => x.cl σ) = true) (hr : res0.rn rn = res) (ho : rnσ rn σ' = σ1)
    (hk : WpT P (kk res σ1 (σ.map fun p => rnN rn p.1)) Q) : WpT P (.call f args s nm kk) Q := by
  have hi := callIn_of h1 h2 h3 h4 h5 h6 h7 h8
  have := callOK_of_spec hs hi (by simpa using ha)
  rw [hargs, hr, ho] at this
  refine ⟨res, _, _, this, fun b hb hn => ?_, hk⟩
  rw [← ho] at hb
  simp only [rnσ, List.map_map, List.mem_map] at hb
  obtain ⟨p, hp, e⟩ := hb
  have hne := look_isSome_mem (x := p.2) hp
  have e' : rnN rn p.1 = b := e
  cases hl : look rn p.1 with
  | none => exact absurd hl (hi.out _ hne)
  | some x =>
    rw [rnN_of hl] at e'
    subst e'
    by_cases hσ : look σ p.1 = none
    · exact hi.nof _ _ hl hσ
    · exfalso
      obtain ⟨o, ho'⟩ := Option.ne_none_iff_exists'.1 hσ
      exact hn (List.mem_map.2 ⟨(p.1, o), look_mem ho', rnN_of hl⟩)
end

section
variable {ti : TypeId → Option TI} {rs : List ResultVar} {s : St} {e : Ex}
def SameBs (s : St) (σ' : List (Nat × Option Blk)) : List (Nat × Option Blk) → Prop
  | [] => True
  | (b, o) :: r => look s.σ b = some o ∧ SameBs s σ' r
theorem SameBs_look {σ' : List (Nat × Option Blk)} : ∀ {l : List (Nat × Option Blk)}, SameBs s σ' l → ∀ b o, look l b = some o → look s.σ b = some o
  | [], _, b, o, h => by simp [look] at h
  | (j, x) :: r, hs, b, o, h => by
    rw [look_cons] at h
    split at h
    · rename_i e; subst e; injection h with h; subst h; exact hs.1
    · exact SameBs_look hs.2 b o h
/-- The end of a function whose blocks are as told. -/
theorem leafN {k : Nat} {res : T} {σ' : List (Nat × Option Blk)} (he : e = .normal ∨ e = .ret) (h : resT ti s rs = some res) (hs : SameBs s σ' σ') (hc : res.clk σ' = true) (hb : ClB σ' σ') (hl : lowB σ' k = true) : Done ti rs k res σ' e s := by
  refine ⟨he, res, h, frT_same hc, ⟨fun b bl' h => ⟨bl', SameBs_look hs b _ h, frL_same (ClB_look hb b bl' h)⟩, fun b h => ?_, fun b hb' _ => lowB_of hl b hb'⟩⟩
  obtain ⟨o, ho⟩ := Option.ne_none_iff_exists'.1 h
  rw [SameBs_look hs b o ho]; simp
end
theorem w_loop {P : Program} {Q : Ex → St → Prop} {b : Code} {s : St} {k : Ex → St → Tree} (n : Nat) (h : Lp P b n s fun e s' => WpT P (k e s') Q) : WpT P (.code (.loop b) s k) Q := ⟨_, cwp_loop h, fun _ _ h => h⟩
end Gx
