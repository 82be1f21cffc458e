import Derived.Test.YtnbiiphkefhkcaaGreatGxU
set_option linter.unusedVariables false
set_option linter.unusedSimpArgs false
namespace Gx
open Go

/-! ### Calls with rows of one's own, which are given up -/
def FzV (σ : List (Nat × Option Blk)) (dead : List Nat) : Nat → S → V → Prop
  | _, .v x, y => y = x
  | _, .xrow cs n, y => y = .row cs n
  | n + 1, .mrow b off len sp es ex, y => ∃ bl cs vs, y = .row vs len ∧ inL b dead = true ∧ look σ b = some (some bl) ∧ takeN bl.l off (len * es) = some cs ∧ FrVs (FzV σ dead n) cs vs ∧ (0 < len → vs ≠ [])
  | _, _, _ => False
def killσ (dead : List Nat) : List (Nat × Option Blk) := dead.map fun b => (b, none)
theorem look_kill {dead : List Nat} {σ : List (Nat × Option Blk)} {b : Nat} : look (killσ dead ++ σ) b = if b ∈ dead then some none else look σ b := by
  induction dead with
  | nil => simp [killσ]
  | cons d r ih =>
    show look ((d, none) :: (killσ r ++ σ)) b = _
    rw [look_cons]
    by_cases h : d = b
    · subst h; simp
    · rw [if_neg h, ih]
      by_cases h2 : b ∈ r
      · simp [h2]
      · simp [h2, Ne.symm h]
theorem FrVs_imp {R R' : S → V → Prop} (h : ∀ s x, R s x → R' s x) : ∀ {l : List S} {m : List V}, FrVs R l m → FrVs R' l m
  | [], [], _ => trivial
  | [], _ :: _, h' => h'.elim
  | _ :: _, [], h' => h'.elim
  | s :: l, x :: m, h' => ⟨h _ _ h'.1, FrVs_imp h h'.2⟩
theorem FzV_fr {σ σ2 : List (Nat × Option Blk)} {dead : List Nat} (hσ : ∀ b, b ∈ dead → look σ2 b = look σ b) : ∀ (n : Nat) (s : S) (y : V), FzV σ dead n s y → FrV σ2 (killσ dead ++ σ2) n s y := by
  intro n
  induction n with
  | zero => intro s y h; cases s <;> exact h
  | succ n ih =>
    intro s y h
    cases s <;> try exact h
    obtain ⟨bl, cs, vs, h1, h2, h3, h4, h5, h6⟩ := h
    have hb := inL_iff.1 h2
    refine ⟨bl, cs, vs, h1, (hσ _ hb).trans h3, fun l => by rw [look_kill, if_pos hb]; simp, h4, FrVs_imp (ih · ·) h5, h6⟩
def FzS (σ : List (Nat × Option Blk)) (dead : List Nat) (s y : S) : Prop := y = s ∨ ∃ n x, FzV σ dead n s x ∧ y = .v x
def FzLs (σ : List (Nat × Option Blk)) (dead : List Nat) : List S → List S → Prop
  | [], [] => True
  | x :: l, y :: m => FzS σ dead x y ∧ FzLs σ dead l m
  | _, _ => False
def FzD (σ : List (Nat × Option Blk)) (dead : List Nat) : D → D → Prop
  | .sc x, .sc y => FzS σ dead x y
  | .agg l, .agg m => FzLs σ dead l m
  | _, _ => False
def FzDs (σ : List (Nat × Option Blk)) (dead : List Nat) : List D → List D → Prop
  | [], [] => True
  | x :: l, y :: m => FzD σ dead x y ∧ FzDs σ dead l m
  | _, _ => False
theorem FzLs_get {σ : List (Nat × Option Blk)} {dead : List Nat} : ∀ {l m : List S}, FzLs σ dead l m → l.length = m.length ∧ ∀ (i : Nat) y, m[i]? = some y → ∃ x, l[i]? = some x ∧ FzS σ dead x y
  | [], [], _ => ⟨rfl, fun i y h => by simp at h⟩
  | [], _ :: _, h => h.elim
  | _ :: _, [], h => h.elim
  | s :: l, y :: m, h => by
    obtain ⟨h1, h2⟩ := FzLs_get h.2
    refine ⟨by simp [h1], fun i x hi => ?_⟩
    cases i with
    | zero => simp at hi; subst hi; exact ⟨s, rfl, h.1⟩
    | succ i => exact h2 i x (by simpa using hi)
theorem FzDs_get {σ : List (Nat × Option Blk)} {dead : List Nat} : ∀ {l m : List D}, FzDs σ dead l m → l.length = m.length ∧ ∀ (i : Nat) y, m[i]? = some y → ∃ x, l[i]? = some x ∧ FzD σ dead x y
  | [], [], _ => ⟨rfl, fun i y h => by simp at h⟩
  | [], _ :: _, h => h.elim
  | _ :: _, [], h => h.elim
  | s :: l, y :: m, h => by
    obtain ⟨h1, h2⟩ := FzDs_get h.2
    refine ⟨by simp [h1], fun i x hi => ?_⟩
    cases i with
    | zero => simp at hi; subst hi; exact ⟨s, rfl, h.1⟩
    | succ i => exact h2 i x (by simpa using hi)

section
variable {cx : Cx} {μ : Nat → Option (Option Nat)} {σ : List (Nat × Option Blk)} {w : World}
theorem goodB_kill : ∀ (dead : List Nat), (∀ b, b ∈ dead → look σ b ≠ none) → GoodB cx μ σ w → GoodB cx μ (killσ dead ++ σ) w
  | [], _, g => g
  | d :: r, h, g => by
    have g' := goodB_kill r (fun b hb => h b (List.mem_cons_of_mem _ hb)) g
    exact (goodB_dead g' (by rw [look_kill]; split <;> simp [h d (by simp)])).1
theorem kill_mut {dead : List Nat} {k : Nat} (h : Mut cx μ (killσ dead ++ σ) k) : Mut cx μ σ k := by
  rcases h with h | ⟨b, ⟨l, h1⟩, h2⟩
  · exact .inl h
  · rw [look_kill] at h1
    split at h1
    · cases h1
    · exact .inr ⟨b, ⟨l, h1⟩, h2⟩
theorem kill_stab {dead : List Nat} : Stab w w (Mut cx μ σ) (Mut cx μ (killσ dead ++ σ)) := ⟨fun _ _ h _ => h, fun _ _ _ h h' => h (kill_mut h')⟩
theorem RelV.back {M M' : Nat → Prop} (hM : ∀ k, M' k → M k) {x : V} {u : Value} (h : RelV w M x u) : RelV w M' x u := RelV.stab ⟨fun _ _ h _ => h, fun _ _ _ h h' => h (hM _ h')⟩ h
theorem fz_rel (g : GoodB cx μ σ w) {σ0 : List (Nat × Option Blk)} {dead : List Nat} (hσ : ∀ b, b ∈ dead → look σ b = look σ0 b) {s y : S} {u : Value} (h : FzS σ0 dead s y) (hr : RelS cx w μ (Mut cx μ σ) s u) :
    RelS cx w μ (Mut cx μ (killσ dead ++ σ)) y u := by
  rcases h with rfl | ⟨n, x, h, rfl⟩
  · exact hr.stab kill_stab (Shape.refl _) (Ext.refl _)
  · have hl : ∀ b, live (killσ dead ++ σ) b → live σ b := by
      rintro b ⟨l, h1⟩
      rw [look_kill] at h1
      split at h1
      · cases h1
      · exact ⟨l, h1⟩
    have := frV_rel g hl n s x u (FzV_fr hσ n s x h) hr
    -- the cut names make no difference to a plain value
    refine RelV.back (fun k hk => ?_) this
    rcases hk with hk | ⟨b, ⟨l, h1⟩, h2⟩
    · exact .inl hk
    · refine .inr ⟨b, ⟨l, h1⟩, ?_⟩
      rw [cut_of (by rw [h1]; simp)]; exact h2
theorem fzD_rel (g : GoodB cx μ σ w) {σ0 : List (Nat × Option Blk)} {dead : List Nat} (hσ : ∀ b, b ∈ dead → look σ b = look σ0 b) {x y : D} {u : Value} (h : FzD σ0 dead x y) (hr : RelD cx w μ (Mut cx μ σ) x u) :
    RelD cx w μ (Mut cx μ (killσ dead ++ σ)) y u := by
  cases x <;> cases y
  · exact fz_rel g hσ h hr
  · exact h.elim
  · exact h.elim
  · obtain ⟨h1, h2⟩ := FzLs_get h
    obtain ⟨arr, e1, e2, e3⟩ := hr
    refine ⟨arr, e1, by omega, fun i y hi => ?_⟩
    obtain ⟨x, hx, hf⟩ := h2 i y hi
    exact (e3 i x hx).imp fun u hu => ⟨hu.1, fz_rel g hσ hf hu.2⟩
end

def St.kill (s : St) (dead : List Nat) : St := { s with σ := killσ dead ++ s.σ }
section
variable {P : Program} {Q : Ex → St → Prop} {f : FuncId} {args args' : List D} {res : T} {s : St} {nm : Nat} {k : T → List (Nat × Option Blk) → List Nat → Tree} {wr : List (Nat × Option Blk)} {rd : List Nat}
theorem callOK_frz (dead : List Nat) (hz : FzDs s.σ dead args args') (hd : dead.all (isL s.σ) = true) (h : CallOK P f args' (s.kill dead) res wr rd) (hw : (namesW wr).all (fun b => inL b rd || !inL b dead) = true) :
    CallOK P f args s res (wr ++ killσ dead) (rd ++ dead) := by
  refine ⟨h.1, fun s2 hb hfr cx μ A w vs g hr R hR => ?_⟩
  obtain ⟨z1, z2⟩ := FzDs_get hz
  have hσ : ∀ b, b ∈ dead → look s2.σ b = look s.σ b := fun b h => hb b (by simp [h])
  have hne : ∀ b, b ∈ dead → look s2.σ b ≠ none := fun b h => by
    rw [hσ b h]
    rw [List.all_eq_true] at hd
    exact isL_of (hd b h)
  have gk := goodB_kill dead hne g.toGoodB
  have g2 : Good cx μ (s2.kill dead) A w := ⟨gk, g.defers, g.size, fun i x hx => (g.temps i x hx).imp fun u hu => ⟨hu.1, hu.2.stab kill_stab (Shape.refl _) (Ext.refl _)⟩⟩
  refine h.2 (s2.kill dead) (fun b hbr => ?_) (fun b hbw hbr => ?_) cx μ A w vs g2 ⟨hr.1.trans z1, fun i y hi => ?_⟩ R fun u μ' w' g' hu => ?_
  · show look (killσ dead ++ s2.σ) b = look (killσ dead ++ s.σ) b
    rw [look_kill, look_kill, hb b (by simp [hbr])]
  · show look (killσ dead ++ s2.σ) b = none
    rw [List.all_eq_true] at hw
    have := hw b (by rw [namesW_eq]; exact hbw)
    simp only [Bool.or_eq_true, Bool.not_eq_true'] at this
    have hnd : b ∉ dead := by
      rcases this with h | h
      · exact absurd (inL_iff.1 h) hbr
      · intro hm; rw [inL_iff.2 hm] at h; cases h
    rw [look_kill, if_neg hnd]
    exact hfr b (by simp only [List.map_append, List.mem_append]; exact .inl hbw) (fun h => (List.mem_append.1 h).elim hbr hnd)
  · obtain ⟨x, hx, hf⟩ := z2 i y hi
    obtain ⟨u, h1, h2⟩ := hr.2 i x hx
    exact ⟨u, h1, fzD_rel g.toGoodB hσ hf h2⟩
  · have e : wr ++ (s2.kill dead).σ = (wr ++ killσ dead) ++ s2.σ := by simp [St.kill]
    refine hR u μ' w' ?_ (by rw [← e]; exact hu)
    have : Good cx μ' { s2.kill dead with σ := wr ++ (s2.kill dead).σ } A w' := g'
    rw [e] at this
    exact this
/-- A call whose arguments hold rows of one's own, which are given up. -/
theorem w_callz (dead : List Nat) (hz : FzDs s.σ dead args args') (hd : dead.all (isL s.σ) = true) (h : CallOK P f args' (s.kill dead) res wr rd) (hf : FreshW wr rd (s.kill dead))
    (hw : (namesW wr).all (fun b => inL b rd || !inL b dead) = true) (hk : WpT P (k res (wr ++ killσ dead) (rd ++ dead)) Q) : WpT P (.call f args s nm k) Q := by
  refine ⟨res, _, _, callOK_frz dead hz hd h hw, fun b hb hr => ?_, hk⟩
  have hnd : b ∉ dead := fun h => hr (by simp [h])
  have hnr : b ∉ rd := fun h => hr (by simp [h])
  have hbw : b ∈ wr.map (·.1) := by
    simp only [List.map_append, List.mem_append] at hb
    rcases hb with h | h
    · exact h
    · simp only [killσ, List.map_map, List.mem_map] at h
      obtain ⟨x, h1, h2⟩ := h
      exact absurd (by rw [← h2]; exact h1) hnd
  have := hf b hbw hnr
  simp only [St.kill] at this
  rw [look_kill, if_neg hnd] at this
  exact this

def fzVc (σ : List (Nat × Option Blk)) (dead : List Nat) : Nat → S → Option V
  | _, .v x => some x
  | _, .xrow cs n => some (.row cs n)
  | n + 1, .mrow b off len sp es ex => match look σ b, inL b dead with
    | some (some bl), true => match takeN bl.l off (len * es) with
      | some cs => match frVs (fzVc σ dead n) cs with
        | some [] => if Nat.beq len 0 then some (.row [] len) else none
        | some (v :: vs) => some (.row (v :: vs) len)
        | none => none
      | none => none
    | _, _ => none
  | _, _ => none
theorem frVs_rel {f : S → Option V} {R : S → V → Prop} (hf : ∀ s y, f s = some y → R s y) : ∀ {l : List S} {m : List V}, frVs f l = some m → FrVs R l m
  | [], m, h => by simp only [frVs] at h; injection h with h; subst h; trivial
  | s :: l, m, h => by
    simp only [frVs] at h
    split at h
    · rename_i x m' hx hm
      injection h with h; subst h
      exact ⟨hf _ _ hx, frVs_rel hf hm⟩
    · cases h
theorem fzVc_ok {σ : List (Nat × Option Blk)} {dead : List Nat} : ∀ {n : Nat} {s : S} {y : V}, fzVc σ dead n s = some y → FzV σ dead n s y := by
  intro n
  induction n with
  | zero =>
    intro s y h
    cases s <;> simp only [fzVc] at h <;> first | (injection h with h; subst h; rfl) | cases h
  | succ n ih =>
    intro s y h
    cases s <;> simp only [fzVc] at h <;> try first | (injection h with h; subst h; rfl) | cases h
    rename_i b off len sp es ex
    split at h
    · rename_i bl hb hd
      split at h
      · rename_i cs hcs
        split at h
        · rename_i hv
          split at h
          · rename_i h0
            injection h with h; subst h
            have : len = 0 := Nat.eq_of_beq_eq_true h0
            exact ⟨bl, cs, [], rfl, hd, hb, hcs, frVs_rel (f := fzVc σ dead n) (R := FzV σ dead n) (fun s y h => ih h) hv, fun h => by omega⟩
          · cases h
        · rename_i v vs hv
          injection h with h; subst h
          exact ⟨bl, cs, _, rfl, hd, hb, hcs, frVs_rel (f := fzVc σ dead n) (R := FzV σ dead n) (fun s y h => ih h) hv, fun _ => by simp⟩
        · cases h
      · cases h
    · cases h
def fzSc (σ : List (Nat × Option Blk)) (dead : List Nat) : S → Option S
  | .mrow b off len sp es ex => match inL b dead with
    | true => (fzVc σ dead 3 (.mrow b off len sp es ex)).map S.v
    | false => some (.mrow b off len sp es ex)
  | s => some s
def fzDc (σ : List (Nat × Option Blk)) (dead : List Nat) : D → Option D
  | .sc s => (fzSc σ dead s).map D.sc
  | .agg l => (mapO (fzSc σ dead) l).map D.agg
theorem fzSc_ok {σ : List (Nat × Option Blk)} {dead : List Nat} {s y : S} (h : fzSc σ dead s = some y) : FzS σ dead s y := by
  unfold fzSc at h
  split at h
  · split at h
    · cases hv : fzVc σ dead 3 _ with
      | none => rw [hv] at h; cases h
      | some x => rw [hv] at h; injection h with h; subst h; exact .inr ⟨3, x, fzVc_ok hv, rfl⟩
    · injection h with h; exact .inl h.symm
  · injection h with h; exact .inl h.symm
theorem fzDc_ok {σ : List (Nat × Option Blk)} {dead : List Nat} {x y : D} (h : fzDc σ dead x = some y) : FzD σ dead x y := by
  cases x with
  | sc s =>
    simp only [fzDc] at h
    cases hs : fzSc σ dead s with
    | none => rw [hs] at h; cases h
    | some z => rw [hs] at h; injection h with h; subst h; exact fzSc_ok hs
  | agg l =>
    simp only [fzDc] at h
    cases hs : mapO (fzSc σ dead) l with
    | none => rw [hs] at h; cases h
    | some m =>
      rw [hs] at h; injection h with h; subst h
      show FzLs σ dead l m
      induction l generalizing m with
      | nil => simp [mapO] at hs; subst hs; trivial
      | cons a l ih =>
        simp only [mapO] at hs
        split at hs
        · cases hs
        · rename_i z hz
          split at hs
          · cases hs
          · rename_i zs hzs
            injection hs with hs; subst hs
            exact ⟨fzSc_ok hz, ih _ hzs⟩
theorem fzDs_ok {σ : List (Nat × Option Blk)} {dead : List Nat} : ∀ {l m : List D}, mapO (fzDc σ dead) l = some m → FzDs σ dead l m
  | [], m, h => by simp [mapO] at h; subst h; trivial
  | x :: l, m, h => by
    simp only [mapO] at h
    split at h
    · cases h
    · rename_i y hy
      split at h
      · cases h
      · rename_i ys hys
        injection h with h; subst h
        exact ⟨fzDc_ok hy, fzDs_ok hys⟩
theorem fzV_map {σ : List (Nat × Option Blk)} {dead : List Nat} {b len es : Nat} {sp : Option Nat} {ex : Bool} {vs : List V} {bl : Blk} (hd : inL b dead = true) (hb : look σ b = some (some bl)) (hl : bl.l = vs.map S.v)
    (hn : len * es = vs.length) (h0 : 0 < len → vs ≠ []) : FzV σ dead 1 (.mrow b 0 len sp es ex) (.row vs len) := by
  refine ⟨bl, vs.map S.v, vs, rfl, hd, hb, ?_, FrVs_map (fun x => rfl) vs, h0⟩
  rw [hl, hn]
  exact takeN_all _ _ (by simp)

theorem callOK_of0 (hs : FSpec P f 0 [] args res []) (ha : args.all (fun x => x.cl []) = true) (hr : res.rn [] = res) (hargs : args.map (D.rn []) = args) : CallOK P f args s res [] [] := by
  have hc : CallIn [] s 0 [] [] := by
    refine ⟨⟨fun b b' h => by simp [look] at h, fun b b' h => by simp [swp, look] at h⟩, fun b h => absurd rfl h, fun b h => absurd rfl h, fun b b' h => by simp [look] at h, fun b b' h => by simp [look] at h, fun b => ⟨fun h => absurd rfl h, fun h => absurd h (by omega)⟩, fun b h => absurd rfl h⟩
  have := callOK_of_spec hs hc (by simpa using ha)
  rw [hargs, hr] at this
  exact this
/-- A call that turns no block but the given-up ones. -/
theorem w_callz0 (dead : List Nat) (hs : FSpec P f 0 [] args' res []) (hz : mapO (fzDc s.σ dead) args = some args') (hd : dead.all (isL s.σ) = true) (ha : args'.all (fun x => x.cl []) = true) (hr : res.rn [] = res) (hargs : args'.map (D.rn []) = args')
    (hk : WpT P (k res (killσ dead) dead) Q) : WpT P (.call f args s nm k) Q :=
  w_callz dead (fzDs_ok hz) hd (callOK_of0 hs ha hr hargs) (fun b hb => by simp at hb) rfl hk

def mrowL : List S → List Nat
  | [] => []
  | .mrow b _ _ _ _ _ :: r => b :: mrowL r
  | _ :: r => mrowL r
def mrowD : D → List Nat
  | .sc s => mrowL [s]
  | .agg l => mrowL l
def mrowDs : List D → List Nat
  | [] => []
  | d :: r => mrowD d ++ mrowDs r
/-- The same: all rows of one's own among the arguments are given up. -/
theorem w_callA (hs : FSpec P f 0 [] args' res []) (hz : mapO (fzDc s.σ (mrowDs args)) args = some args') (hd : (mrowDs args).all (isL s.σ) = true) (ha : args'.all (fun x => x.cl []) = true) (hr : res.rn [] = res) (hargs : args'.map (D.rn []) = args')
    (hk : WpT P (k res (killσ (mrowDs args)) (mrowDs args)) Q) : WpT P (.call f args s nm k) Q := w_callz0 _ hs hz hd ha hr hargs hk

/-! ### A call that turns one block -/
def S.plB : S → Bool
  | .v _ => true
  | .xrow _ _ => true
  | .eptr _ _ => true
  | .any => true
  | _ => false
theorem rn_pl {rn : List (Nat × Nat)} {s : S} (h : s.plB = true) : s.rn rn = s := by cases s <;> first | rfl | cases h
theorem cl_pl {σ : List (Nat × Option Blk)} {s : S} (h : s.plB = true) : s.cl σ = true := by cases s <;> first | rfl | cases h
theorem rnL_pl {rn : List (Nat × Nat)} {l : List S} (h : l.all S.plB = true) : l.map (S.rn rn) = l := by
  rw [List.all_eq_true] at h
  exact (List.map_congr_left fun x hx => rn_pl (h x hx)).trans (List.map_id l)
theorem rnB_pl {rn : List (Nat × Nat)} {b : Blk} (h : b.l.all S.plB = true) : b.rn rn = b := by
  cases b with
  | var l => exact congrArg Blk.var (rnL_pl h)
  | arr l => exact congrArg Blk.arr (rnL_pl h)
theorem look1 {α : Type} {j : Nat} {x : α} {i : Nat} {y : α} (h : look [(j, x)] i = some y) : j = i ∧ x = y := by
  rw [look_cons] at h
  split at h
  · rename_i e; injection h with h; exact ⟨e, h⟩
  · cases h
theorem look1_ne {α : Type} {j : Nat} {x : α} {i : Nat} (h : look [(j, x)] i ≠ none) : j = i := by
  obtain ⟨y, hy⟩ := Option.ne_none_iff_exists'.1 h
  exact (look1 hy).1
theorem look1_none {α : Type} {j : Nat} {x : α} {i : Nat} (h : look [(j, x)] i = none) : j ≠ i := by
  rintro rfl
  rw [look_cons, if_pos rfl] at h; cases h
theorem look1_same {α : Type} (j : Nat) (x : α) : look [(j, x)] j = some x := by rw [look_cons, if_pos rfl]
theorem callIn1 {b : Nat} {bl : Blk} {o : Option Blk} (hb : look s.σ b = some (some bl)) (hp : bl.l.all S.plB = true) : CallIn [(0, b)] s 1 [(0, some bl)] [(0, o)] := by
  refine ⟨⟨fun x y h => ?_, fun x y h => ?_⟩, fun x h => ?_, fun x h => ?_, fun x y h hn => ?_, fun x y h hn => ?_, fun x => ?_, fun x h => ?_⟩
  · obtain ⟨e1, e2⟩ := look1 h; subst e1; subst e2; exact look1_same _ _
  · obtain ⟨e1, e2⟩ := look1 h; subst e1; subst e2; exact look1_same _ _
  · have e := look1_ne h; subst e
    refine ⟨bl, b, look1_same _ _, look1_same _ _, by rw [rnB_pl hp]; exact hb, fun x hx => ?_⟩
    rw [List.all_eq_true] at hp
    exact cl_pl (hp x hx)
  · have e := look1_ne h; subst e; rw [look1_same]; simp
  · exact absurd (look1 h).1 (look1_none hn)
  · exact absurd (look1 h).1 (look1_none hn)
  · constructor
    · intro h; have := look1_ne h; omega
    · intro h; have : x = 0 := by omega
      subst this; rw [look1_same]; simp
  · have e := look1_ne h; subst e; rw [look1_same]; simp
theorem callOK_of1 {b : Nat} {bl bl' : Blk} {args0 : List D} {res0 : T} (hs : FSpec P f 1 [(0, some bl)] args0 res0 [(0, some bl')]) (hb : look s.σ b = some (some bl)) (hp : bl.l.all S.plB = true) (hp' : bl'.l.all S.plB = true)
    (ha : args0.all (fun x => x.cl [(0, some bl)]) = true) (hargs : args0.map (D.rn [(0, b)]) = args) (hr : res0.rn [(0, b)] = res) : CallOK P f args s res [(b, some bl')] [b] := by
  have := callOK_of_spec hs (callIn1 hb hp) (by simpa using ha)
  rw [hargs, hr] at this
  have e : rnσ [(0, b)] [(0, some bl')] = [(b, some bl')] := by
    simp only [rnσ, List.map_cons, List.map_nil, Option.map_some, rnB_pl hp']
    rfl
  rw [e] at this
  exact this
theorem w_call1 (b : Nat) {bl bl' : Blk} {args0 : List D} {res0 : T} (hs : FSpec P f 1 [(0, some bl)] args0 res0 [(0, some bl')]) (hb : look s.σ b = some (some bl)) (hargs : args0.map (D.rn [(0, b)]) = args) (hp : bl.l.all S.plB = true) (hp' : bl'.l.all S.plB = true)
    (ha : args0.all (fun x => x.cl [(0, some bl)]) = true) (hr : res0.rn [(0, b)] = res) (hk : WpT P (k res [(b, some bl')] [b]) Q) : WpT P (.call f args s nm k) Q :=
  ⟨res, _, _, callOK_of1 hs hb hp hp' ha hargs hr, fun x hx hn => by simp at hx hn; exact absurd hx hn, hk⟩
/-- The same, and some rows of one's own are given up. -/
theorem w_callz1 (b : Nat) (dead : List Nat) {bl bl' : Blk} {args0 args1 : List D} {res0 : T} (hs : FSpec P f 1 [(0, some bl)] args0 res0 [(0, some bl')]) (hz : mapO (fzDc s.σ dead) args = some args1) (hb : look (s.kill dead).σ b = some (some bl)) (hargs : args0.map (D.rn [(0, b)]) = args1)
    (hd : dead.all (isL s.σ) = true) (hp : bl.l.all S.plB = true) (hp' : bl'.l.all S.plB = true) (ha : args0.all (fun x => x.cl [(0, some bl)]) = true) (hr : res0.rn [(0, b)] = res) (hk : WpT P (k res ([(b, some bl')] ++ killσ dead) ([b] ++ dead)) Q) : WpT P (.call f args s nm k) Q :=
  w_callz dead (fzDs_ok hz) hd (callOK_of1 hs hb hp hp' ha hargs hr) (fun x hx hn => by simp at hx hn; exact absurd hx hn) (by simp [namesW, inL]) hk
theorem w_callA1 (b : Nat) {bl bl' : Blk} {args0 args1 : List D} {res0 : T} (hs : FSpec P f 1 [(0, some bl)] args0 res0 [(0, some bl')]) (hz : mapO (fzDc s.σ (mrowDs args)) args = some args1) (hb : look (s.kill (mrowDs args)).σ b = some (some bl)) (hargs : args0.map (D.rn [(0, b)]) = args1)
    (hd : (mrowDs args).all (isL s.σ) = true) (hp : bl.l.all S.plB = true) (hp' : bl'.l.all S.plB = true) (ha : args0.all (fun x => x.cl [(0, some bl)]) = true) (hr : res0.rn [(0, b)] = res) (hk : WpT P (k res ([(b, some bl')] ++ killσ (mrowDs args)) ([b] ++ mrowDs args)) Q) : WpT P (.call f args s nm k) Q :=
  w_callz1 b _ hs hz hb hargs hd hp hp' ha hr hk
/-- The block's exact rows are taken as plain ones. -/
theorem look1_cons {α : Type} (j : Nat) (x : α) (r : List (Nat × α)) : look ((j, x) :: r) j = some x := by rw [look_cons, if_pos rfl]
theorem clr_mut {cx : Cx} {μ : Nat → Option (Option Nat)} {σ : List (Nat × Option Blk)} {b : Nat} {bl bl' : Blk} (hb : look σ b = some (some bl)) : Mut cx μ ((b, some bl') :: σ) = Mut cx μ σ := by
  funext k
  apply propext
  constructor
  · rintro (h | ⟨b', h1, h2⟩)
    · exact .inl h
    · refine .inr ⟨b', ?_, h2⟩
      rw [live_cons] at h1
      rcases h1 with ⟨e, _⟩ | ⟨_, h⟩
      · subst e; exact ⟨bl, hb⟩
      · exact h
  · rintro (h | ⟨b', h1, h2⟩)
    · exact .inl h
    · refine .inr ⟨b', ?_, h2⟩
      rw [live_cons]
      by_cases e : b = b'
      · exact .inl ⟨e, rfl⟩
      · exact .inr ⟨e, h1⟩
theorem goodB_clr {cx : Cx} {μ : Nat → Option (Option Nat)} {σ : List (Nat × Option Blk)} {w : World} {b : Nat} {bl bl' : Blk} (g : GoodB cx μ σ w) (hb : look σ b = some (some bl)) (hc : bl.l.map S.clr = bl'.l) : GoodB cx μ ((b, some bl') :: σ) w := by
  have hM := clr_mut (cx := cx) (μ := μ) (bl' := bl') hb
  have hl : ∀ b', live ((b, some bl') :: σ) b' → live σ b' := fun b' h => by
    rw [live_cons] at h
    rcases h with ⟨e, _⟩ | ⟨_, h⟩
    · subst e; exact ⟨bl, hb⟩
    · exact h
  refine ⟨fun b1 l h1 => ?_, fun b1 b2 k h1 h2 => g.inj b1 b2 k (hl _ h1) (hl _ h2), fun b1 k h1 => g.disj b1 k (hl _ h1), fun b1 k h1 => g.own b1 k (hl _ h1), fun b1 h1 => ?_, fun b1 h1 => ?_, g.ext, g.xlt, g.evo⟩
  · rw [hM]
    rw [look_cons] at h1
    split at h1
    · rename_i e; subst e
      injection h1 with h1; injection h1 with h1; subst h1
      rcases g.blks b bl hb with ⟨e1, e2⟩ | ⟨k, arr, ty, e1, e2, e3, e4⟩
      · exact .inl ⟨e1, by rw [← hc, e2]; rfl⟩
      · refine .inr ⟨k, arr, ty, e1, e2, by rw [← hc]; simpa using e3, fun i x hx => ?_⟩
        rw [← hc, List.getElem?_map] at hx
        cases hy : bl.l[i]? with
        | none => rw [hy] at hx; cases hx
        | some y =>
          rw [hy] at hx; injection hx with hx; subst hx
          obtain ⟨u, h1, h2⟩ := e4 i y hy
          exact ⟨u, h1, clrS h2⟩
    · exact g.blks b1 l h1
  · rw [look_cons] at h1
    split at h1
    · cases h1
    · exact g.fresh b1 h1
  · rw [look_cons]
    split
    · simp
    · exact g.dom b1 h1
theorem callOK_clr (b : Nat) {bl bl' : Blk} (hb : look s.σ b = some (some bl)) (hc : bl.l.map S.clr = bl'.l) (h : CallOK P f args { s with σ := (b, some bl') :: s.σ } res wr rd) (hr : inL b rd = true) (hw : inL b (namesW wr) = true) : CallOK P f args s res wr rd := by
  refine ⟨h.1, fun s2 ha hfr cx μ A w vs g hv R hR => ?_⟩
  have hb2 : look s2.σ b = some (some bl) := (ha b (inL_iff.1 hr)).trans hb
  have hM := clr_mut (cx := cx) (μ := μ) (bl' := bl') hb2
  have g2 : Good cx μ { s2 with σ := (b, some bl') :: s2.σ } A w := ⟨goodB_clr g.toGoodB hb2 hc, g.defers, g.size, fun i x hx => by
    have := g.temps i x hx
    rw [hM]; exact this⟩
  refine h.2 { s2 with σ := (b, some bl') :: s2.σ } (fun b1 h1 => ?_) (fun b1 h1 h2 => ?_) cx μ A w vs g2 ?_ R fun u μ' w' g' hu => ?_
  · show look ((b, some bl') :: s2.σ) b1 = look ((b, some bl') :: s.σ) b1
    rw [look_cons, look_cons, ha b1 h1]
  · show look ((b, some bl') :: s2.σ) b1 = none
    rw [look_cons]
    have : b ≠ b1 := by rintro rfl; exact h2 (inL_iff.1 hr)
    rw [if_neg this]; exact hfr b1 h1 h2
  · show RelDs cx w μ (Mut cx μ ((b, some bl') :: s2.σ)) args vs
    rw [hM]; exact hv
  · have e : ∀ b1, look (wr ++ (b, some bl') :: s2.σ) b1 = look (wr ++ s2.σ) b1 := fun b1 => by
      rw [look_append, look_append]
      cases h1 : look wr b1 with
      | some x => rfl
      | none =>
        rw [look_cons]
        have : b ≠ b1 := by
          rintro rfl
          have := inL_iff.1 hw
          rw [namesW_eq] at this
          simp only [List.mem_map] at this
          obtain ⟨p, hp, rfl⟩ := this
          exact look_isSome_mem (x := p.2) hp h1
        rw [if_neg this]
    have g3 : Good cx μ' { s2 with σ := wr ++ (b, some bl') :: s2.σ } A w' := g'
    refine hR u μ' w' (Good.congr (s := { s2 with σ := wr ++ (b, some bl') :: s2.σ }) (s' := { s2 with σ := wr ++ s2.σ }) ⟨rfl, fun _ => rfl, e⟩ g3) ?_
    rw [← mut_congr e]; exact hu
theorem w_call1c (b : Nat) {bl0 bl bl' : Blk} {args0 : List D} {res0 : T} (hs : FSpec P f 1 [(0, some bl)] args0 res0 [(0, some bl')]) (hb : look s.σ b = some (some bl0)) (hc : bl0.l.map S.clr = bl.l) (hargs : args0.map (D.rn [(0, b)]) = args) (hp : bl.l.all S.plB = true) (hp' : bl'.l.all S.plB = true)
    (ha : args0.all (fun x => x.cl [(0, some bl)]) = true) (hr : res0.rn [(0, b)] = res) (hk : WpT P (k res [(b, some bl')] [b]) Q) : WpT P (.call f args s nm k) Q :=
  ⟨res, [(b, some bl')], [b], callOK_clr b hb hc (callOK_of1 (s := { s with σ := (b, some bl) :: s.σ }) hs (look1_cons _ _ _) hp hp' ha hargs hr) (by simp [inL]) (by simp [namesW, inL]), fun x hx hn => by simp at hx hn; exact absurd hx hn, hk⟩
end
end Gx
