import Derived.Test.YtnbiiphkefhkcaaGreatGxO
set_option linter.unusedVariables false
set_option linter.unusedSimpArgs false
namespace Gx
open Go

/-! ### Forgetting and freezing -/
def FrVs (R : S → V → Prop) : List S → List V → Prop
  | [], [] => True
  | s :: l, x :: m => R s x ∧ FrVs R l m
  | _, _ => False
theorem FrVs_get {R : S → V → Prop} : ∀ {l : List S} {m : List V}, FrVs R l m → l.length = m.length ∧ ∀ (i : Nat) x, m[i]? = some x → ∃ s, l[i]? = some s ∧ R s x
  | [], [], _ => ⟨rfl, fun i x h => by simp at h⟩
  | [], _ :: _, h => h.elim
  | _ :: _, [], h => h.elim
  | s :: l, y :: m, h => by
    obtain ⟨h1, h2⟩ := FrVs_get h.2
    refine ⟨by simp [h1], fun i x hi => ?_⟩
    cases i with
    | zero => simp at hi; subst hi; exact ⟨s, rfl, h.1⟩
    | succ i => exact h2 i x (by simpa using hi)
/-- What a value becomes when the blocks that do not live in σ' no more turn. -/
def FrV (σ σ' : List (Nat × Option Blk)) : Nat → S → V → Prop
  | _, .v x, y => y = x
  | _, .xrow cs n, y => y = .row cs n
  | n + 1, .mrow b off len sp es ex, y => ∃ bl cs vs, y = .row vs len ∧ look σ b = some (some bl) ∧ (∀ l, look σ' b ≠ some (some l)) ∧ takeN bl.l off (len * es) = some cs ∧ FrVs (FrV σ σ' n) cs vs ∧ (0 < len → vs ≠ [])
  | _, _, _ => False
def FrS (σ σ' : List (Nat × Option Blk)) : S → S → Prop
  | .v x, y => y = .any ∨ y = .v x
  | .xrow cs n, y => y = .any ∨ y = .xrow cs n ∨ y = .v (.row cs n)
  | .eptr cs off, y => y = .any ∨ y = .eptr cs off
  | .ptr b off, y => y = .any ∨ y = .ptr b off ∧ look σ' b ≠ none
  | .clo f bs, y => y = .any ∨ y = .clo f bs ∧ ∀ b, b ∈ bs → look σ' b ≠ none
  | .mrow b off len sp es ex, y => y = .any ∨ (y = .mrow b off len sp es ex ∧ look σ' b ≠ none) ∨ (∃ n x, FrV σ σ' n (.mrow b off len sp es ex) x ∧ y = .v x) ∨
      (ex = true ∧ sp = none ∧ ∃ n cs, FrV σ σ' n (.mrow b off len sp es ex) (.row cs len) ∧ y = .xrow cs len)
  | .keep b off, y => y = .any ∨ y = .keep b off
  | .ub p, y => y = .any ∨ y = .ub p
  | .any, y => y = .any
def FrL (σ σ' : List (Nat × Option Blk)) (l l' : List S) : Prop := l'.length ≤ l.length ∧ ∀ (i : Nat) y, l'[i]? = some y → ∃ x, l[i]? = some x ∧ FrS σ σ' x y
def FrD (σ σ' : List (Nat × Option Blk)) : D → D → Prop
  | .sc x, y => ∃ z, y = .sc z ∧ FrS σ σ' x z
  | .agg l, y => y = .sc .any ∨ ∃ l', y = .agg l' ∧ l'.length = l.length ∧ FrL σ σ' l l'
def FrT (σ σ' : List (Nat × Option Blk)) : T → T → Prop
  | .d x, y => ∃ z, y = .d z ∧ FrD σ σ' x z
  | .tup l, y => y = .d (.sc .any) ∨ ∃ l', y = .tup l' ∧ l'.length = l.length ∧ ∀ (i : Nat) y, l'[i]? = some y → ∃ x, l[i]? = some x ∧ FrD σ σ' x y

structure Frz (s s' : St) : Prop where
  m : s'.m = s.m
  t : ∀ i y, look s'.t i = some y → ∃ x, look s.t i = some x ∧ FrT s.σ s'.σ x y
  σ : ∀ b bl', look s'.σ b = some (some bl') → ∃ bl, look s.σ b = some (some bl) ∧ FrL s.σ s'.σ bl.l bl'.l
  dead : ∀ b, look s'.σ b ≠ none → look s.σ b ≠ none
  low : ∀ b, b < 64 → look s.σ b ≠ none → look s'.σ b ≠ none

section
variable {cx : Cx} {μ : Nat → Option (Option Nat)} {σ σ' : List (Nat × Option Blk)} {w : World}
noncomputable def cut (μ : Nat → Option (Option Nat)) (σ' : List (Nat × Option Blk)) : Nat → Option (Option Nat) := fun b => match look σ' b with | none => none | some _ => μ b
theorem cut_some {b : Nat} {x : Option Nat} (h : cut μ σ' b = some x) : μ b = some x ∧ look σ' b ≠ none := by
  unfold cut at h
  split at h
  · cases h
  · rename_i y hy; exact ⟨h, by rw [hy]; simp⟩
theorem cut_of {b : Nat} (h : look σ' b ≠ none) : cut μ σ' b = μ b := by
  unfold cut
  split
  · rename_i hn; exact absurd hn h
  · rfl
theorem frz_mut (hl : ∀ b, live σ' b → live σ b) {k : Nat} (h : Mut cx (cut μ σ') σ' k) : Mut cx μ σ k := by
  rcases h with h | ⟨b, h1, h2⟩
  · exact .inl h
  · exact .inr ⟨b, hl b h1, (cut_some h2).1⟩
theorem frz_stab (hl : ∀ b, live σ' b → live σ b) : Stab w w (Mut cx μ σ) (Mut cx (cut μ σ') σ') := ⟨fun _ _ h _ => h, fun _ _ _ h h' => h (frz_mut hl h')⟩

theorem frV_rel (g : GoodB cx μ σ w) (hl : ∀ b, live σ' b → live σ b) : ∀ (n : Nat) (s : S) (x : V) (u : Value), FrV σ σ' n s x → RelS cx w μ (Mut cx μ σ) s u → RelV w (Mut cx (cut μ σ') σ') x u := by
  intro n
  induction n with
  | zero =>
    intro s x u h hr
    cases s <;> simp only [FrV] at h
    · subst h; exact RelV.stab (frz_stab hl) hr
    · subst h; exact RelV.stab (frz_stab hl) hr.1
  | succ n ih =>
    intro s x u h hr
    cases s <;> simp only [FrV] at h
    · subst h; exact RelV.stab (frz_stab hl) hr
    · subst h; exact RelV.stab (frz_stab hl) hr.1
    · rename_i b off len sp es ex
      obtain ⟨bl, cs, vs, rfl, h1, h2, h3, h4, h5⟩ := h
      obtain ⟨k1, k2⟩ := FrVs_get h4
      have hts : ∀ (i : Nat) s, cs[i]? = some s → bl.l[off + i]? = some s := by
        intro i s hi
        unfold takeN at h3
        split at h3
        · injection h3 with h3; subst h3
          rw [List.getElem?_take] at hi
          split at hi
          · rw [List.getElem?_drop] at hi; exact hi
          · cases hi
        · cases h3
      rcases hr with ⟨e1, e2, e3, e4, a, e5⟩ | ⟨k, cap, e1, e2, e3, e4, e5⟩
      · subst e1; subst e5
        have : cs = [] := by
          unfold takeN at h3
          split at h3
          · injection h3 with h3; subst h3; simp
          · cases h3
        subst this
        have : vs = [] := by cases vs with | nil => rfl | cons => simp at k1
        subst this
        cases a with
        | none => exact .nilRow
        | some a => exact .row [] 0 a 0 (fun _ => undef) (Nat.le_refl _) (fun h => absurd h (by omega)) (fun h => absurd rfl h) (fun i x h => by simp at h) (fun i x h => by simp at h)
      · subst e2
        have hb := g.blks b bl h1
        rcases hb with ⟨hb, _⟩ | ⟨k', arr, ty, hb, hh, hle, hrl⟩
        · rw [e1] at hb; cases hb
        rw [e1] at hb; injection hb with hb; injection hb with hb; subst hb
        have cellk : ∀ i x, vs[i]? = some x → ∃ u, w.cell? ⟨k, off + i, none⟩ = some u ∧ RelV w (Mut cx (cut μ σ') σ') x u := by
          intro i x hi
          obtain ⟨s, hs1, hs2⟩ := k2 i x hi
          obtain ⟨u, hu1, hu2⟩ := hrl _ _ (hts i s hs1)
          exact ⟨u, by simp [World.cell?, hh, hu1], ih s x u hs2 hu2⟩
        refine .row vs len _ cap (fun i => (w.cell? ⟨k, off + i, none⟩).getD undef) (by omega) h5 (fun _ => ⟨rfl, ?_⟩) (fun i x hi => ?_) (fun i x hi => ?_)
        · rintro (hx | ⟨b', hb1, hb2⟩)
          · exact g.disj b k ⟨bl, h1⟩ e1 hx
          · have := g.inj b b' k ⟨bl, h1⟩ (hl b' hb1) e1 (cut_some hb2).1
            subst this
            obtain ⟨l, hb1⟩ := hb1
            exact h2 l hb1
        · obtain ⟨u, hu1, hu2⟩ := cellk i x hi
          simp only [hu1, Option.getD_some]
        · obtain ⟨u, hu1, hu2⟩ := cellk i x hi
          simp only [hu1, Option.getD_some]; exact hu2

theorem frS_rel (g : GoodB cx μ σ w) (hl : ∀ b, live σ' b → live σ b) {s s' : S} {u : Value} (h : FrS σ σ' s s') (hr : RelS cx w μ (Mut cx μ σ) s u) : RelS cx w (cut μ σ') (Mut cx (cut μ σ') σ') s' u := by
  cases s with
  | v x =>
    rcases h with rfl | rfl
    · trivial
    · exact RelV.stab (frz_stab hl) hr
  | xrow cs n =>
    rcases h with rfl | rfl | rfl
    · trivial
    · exact ⟨RelV.stab (frz_stab hl) hr.1, hr.2⟩
    · exact RelV.stab (frz_stab hl) hr.1
  | eptr cs off =>
    rcases h with rfl | rfl
    · trivial
    · obtain ⟨a, h1, h2⟩ := hr; exact ⟨a, h1, h2.stab (frz_stab hl)⟩
  | ptr b off =>
    rcases h with rfl | ⟨rfl, h⟩
    · trivial
    · obtain ⟨k, h1, h2⟩ := hr; exact ⟨k, by rw [cut_of h]; exact h1, h2⟩
  | clo f bs =>
    rcases h with rfl | ⟨rfl, h⟩
    · trivial
    · obtain ⟨ks, h1, h2, h3⟩ := hr
      exact ⟨ks, h1, fun i b hb => (h2 i b hb).imp fun k hk => ⟨hk.1, by rw [cut_of (h b (List.mem_of_getElem? hb))]; exact hk.2⟩, h3⟩
  | mrow b off len sp es ex =>
    rcases h with rfl | ⟨rfl, h⟩ | ⟨n, x, h, rfl⟩ | ⟨hex, hsp, n, cs, h, rfl⟩
    · trivial
    · rcases hr with ⟨h1, h2, h3, h4, h5⟩ | ⟨k, cap, h1, h2, h3, h4, h5⟩
      · exact .inl ⟨h1, h2, h3, by rw [cut_of h]; exact h4, h5⟩
      · exact .inr ⟨k, cap, by rw [cut_of h]; exact h1, h2, h3, h4, h5⟩
    · exact frV_rel g hl n _ _ _ h hr
    · refine ⟨frV_rel g hl n _ _ _ h hr, fun a l cp hu => ?_⟩
      rcases hr with ⟨h1, h2, h3, h4, a', h5⟩ | ⟨k, cap, h1, h2, h3, h4, h5⟩
      · rw [h5] at hu; injection hu with _ _ hu; omega
      · rw [h2] at hu; injection hu with _ _ hu
        have := h4 hex
        rw [hsp] at this
        simp at this
        omega
  | keep b off =>
    rcases h with rfl | rfl
    · trivial
    · exact hr
  | ub p =>
    rcases h with rfl | rfl
    · trivial
    · exact hr
  | any => simp only [FrS] at h; subst h; trivial

theorem frD_rel (g : GoodB cx μ σ w) (hl : ∀ b, live σ' b → live σ b) {s s' : D} {u : Value} (h : FrD σ σ' s s') (hr : RelD cx w μ (Mut cx μ σ) s u) : RelD cx w (cut μ σ') (Mut cx (cut μ σ') σ') s' u := by
  cases s with
  | sc x => obtain ⟨z, rfl, h⟩ := h; exact frS_rel g hl h hr
  | agg l =>
    rcases h with rfl | ⟨l', rfl, h1, h2⟩
    · trivial
    · obtain ⟨arr, e1, e2, e3⟩ := hr
      refine ⟨arr, e1, by omega, fun i y hi => ?_⟩
      obtain ⟨x, hx, hf⟩ := h2.2 i y hi
      exact (e3 i x hx).imp fun u hu => ⟨hu.1, frS_rel g hl hf hu.2⟩
theorem frT_rel (g : GoodB cx μ σ w) (hl : ∀ b, live σ' b → live σ b) {s s' : T} {u : Value} (h : FrT σ σ' s s') (hr : RelT cx w μ (Mut cx μ σ) s u) : RelT cx w (cut μ σ') (Mut cx (cut μ σ') σ') s' u := by
  cases s with
  | d x => obtain ⟨z, rfl, h⟩ := h; exact frD_rel g hl h hr
  | tup l =>
    rcases h with rfl | ⟨l', rfl, h1, h2⟩
    · trivial
    · obtain ⟨arr, e1, e2, e3⟩ := hr
      refine ⟨arr, e1, by omega, fun i y hi => ?_⟩
      obtain ⟨x, hx, hf⟩ := h2 i y hi
      exact (e3 i x hx).imp fun u hu => ⟨hu.1, frD_rel g hl hf hu.2⟩

theorem goodB_frz (g : GoodB cx μ σ w) (h1 : ∀ b bl', look σ' b = some (some bl') → ∃ bl, look σ b = some (some bl) ∧ FrL σ σ' bl.l bl'.l)
    (h2 : ∀ b, look σ' b ≠ none → look σ b ≠ none) (h3 : ∀ b, b < cx.k → look σ b ≠ none → look σ' b ≠ none) : GoodB cx (cut μ σ') σ' w := by
  have hl : ∀ b, live σ' b → live σ b := fun b ⟨l, hb⟩ => (h1 b l hb).elim fun bl hbl => ⟨bl, hbl.1⟩
  refine ⟨fun b l hb => ?_, fun b b' k ha hb e1 e2 => g.inj b b' k (hl b ha) (hl b' hb) (cut_some e1).1 (cut_some e2).1, fun b k ha e1 => g.disj b k (hl b ha) (cut_some e1).1,
    fun b k ha e1 => g.own b k (hl b ha) (cut_some e1).1, fun b hb => by unfold cut; rw [hb], fun b hb => h3 b hb (g.dom b hb), fun b hb => ?_, g.xlt, g.evo⟩
  · obtain ⟨bl, e1, e2, e3⟩ := h1 b l hb
    have hne : look σ' b ≠ none := by rw [hb]; simp
    rcases g.blks b bl e1 with ⟨e4, e5⟩ | ⟨k, arr, ty, e4, e5, e6, e7⟩
    · refine .inl ⟨by rw [cut_of hne]; exact e4, ?_⟩
      rw [e5] at e2
      exact List.eq_nil_of_length_eq_zero (by simpa using e2)
    · refine .inr ⟨k, arr, ty, by rw [cut_of hne]; exact e4, e5, by omega, fun i y hi => ?_⟩
      obtain ⟨x, hx, hf⟩ := e3 i y hi
      exact (e7 i x hx).imp fun u hu => ⟨hu.1, frS_rel g hl hf hu.2⟩
  · rw [cut_of (h3 b hb (g.dom b hb))]; exact g.ext b hb
end

def Imp (s s' : St) : Prop := ∀ (cx : Cx), cx.k ≤ 64 → ∀ μ A w, Good cx μ s A w → ∃ μ', Good cx μ' s' A w
theorem Imp.refl (s : St) : Imp s s := fun cx hk μ A w g => ⟨μ, g⟩
theorem Imp.trans {s s' s'' : St} (h : Imp s s') (h' : Imp s' s'') : Imp s s'' := fun cx hk μ A w g => by
  obtain ⟨μ', g'⟩ := h cx hk μ A w g
  exact h' cx hk μ' A w g'
theorem Imp.cwp {P : Program} {c : Code} {s s' : St} {J : Ex → St → Prop} (h : Imp s s') (hc : CWp P c s' J) : CWp P c s J := fun cx hk μ A w g Q hQ => by
  obtain ⟨μ', g'⟩ := h cx hk μ A w g
  exact hc cx hk μ' A w g' Q hQ
theorem Frz.imp {s s' : St} (h : Frz s s') : Imp s s' := fun cx hk μ A w g => by
  have hl : ∀ b, live s'.σ b → live s.σ b := fun b ⟨l, hb⟩ => (h.σ b l hb).elim fun bl hbl => ⟨bl, hbl.1⟩
  refine ⟨cut μ s'.σ, goodB_frz g.toGoodB h.σ h.dead (fun b hb => h.low b (by omega)), g.defers, g.size.trans h.m.symm, fun i y hi => ?_⟩
  obtain ⟨x, hx, hf⟩ := h.t i y hi
  exact (g.temps i x hx).imp fun u hu => ⟨hu.1, frT_rel g.toGoodB hl hf hu.2⟩

/-! ### Loops: at most n rounds -/
def Lp (P : Program) (b : Code) : Nat → St → (Ex → St → Prop) → Prop
  | 0, _, _ => False
  | n + 1, s, J => CWp P b s fun e s' => match e with
    | .normal => Lp P b n s' J
    | e => J e s'
theorem Lp.imp {P : Program} {b : Code} {s s' : St} {J : Ex → St → Prop} (h : Imp s s') : ∀ {n : Nat}, Lp P b n s' J → Lp P b n s J
  | 0, h' => h'
  | _ + 1, h' => h.cwp h'
theorem Lp.mono {P : Program} {b : Code} {J : Ex → St → Prop} : ∀ {n m : Nat} {s : St}, n ≤ m → Lp P b n s J → Lp P b m s J
  | 0, _, _, _, h => h.elim
  | n + 1, 0, _, hnm, _ => absurd hnm (by omega)
  | n + 1, m + 1, s, hnm, h => by
    refine CWp.mono h fun e s' he => ?_
    cases e with
    | normal => exact Lp.mono (by omega) he
    | exit i => exact he
    | goto l => exact he
    | ret => exact he
theorem cwp_loop {P : Program} {b : Code} {s : St} {J : Ex → St → Prop} {n : Nat} (h : Lp P b n s J) : CWp P (.loop b) s J := by
  intro cx hk μ A w g Q hQ
  refine wp_loop_rounds n ?_
  have key : ∀ n s μ A w, Lp P b n s J → Good cx μ s A w → Code.rounds P b Q n A w := by
    intro n
    induction n with
    | zero => intro s μ A w h _; exact h.elim
    | succ n ih =>
      intro s μ A w h g
      rw [rounds_succ]
      refine h cx hk μ A w g _ fun e s' μ' A' w' he g' => ?_
      cases e with
      | normal => exact ih s' μ' A' w' he g'
      | exit i => exact hQ _ _ _ _ _ he g'
      | goto l => exact hQ _ _ _ _ _ he g'
      | ret => exact hQ _ _ _ _ _ he g'
  exact key n s μ A w h g
end Gx
