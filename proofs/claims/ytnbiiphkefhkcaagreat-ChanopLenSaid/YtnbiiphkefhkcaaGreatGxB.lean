import Derived.Test.YtnbiiphkefhkcaaGreatGxA
set_option linter.unusedVariables false
set_option linter.unusedSimpArgs false
namespace Gx
open Go

inductive Ex where
  | normal
  | exit (id : Nat)
  | goto (l : Nat)
  | ret
def Ex.to : Ex → Exit
  | .normal => .normal
  | .exit i => .exit i
  | .goto l => .goto l
  | .ret => .ret

/-- From each memory that reads as s the code comes to one that reads as a state of Post. -/
def CWp (P : Program) (c : Code) (s : St) (Post : Ex → St → Prop) : Prop :=
  ∀ (cx : Cx), cx.k ≤ 64 → ∀ μ A w, Good cx μ s A w → ∀ Q : Exit → Act → World → Prop, (∀ e s' μ' A' w', Post e s' → Good cx μ' s' A' w' → Q e.to A' w') → c.wp P Q A w

/-- One operation of a region. -/
def ROp (P : Program) (ops : Array Oper) (i : Nat) (s s' : St) : Prop :=
  ∀ (cx : Cx) μ A w, Good cx μ s A w → ∀ (K : Act → World → Prop) (Q : Exit → Act → World → Prop), (∀ μ' A' w', Good cx μ' s' A' w' → K A' w') → wpOp P ops Q i K A w

structure Eff where
  dst : Option (Nat × T)
  wr : List (Nat × Option Blk)
  rd : List Nat

def Eff.app (e : Eff) (s : St) : St := { s with t := (match e.dst with | some p => p :: s.t | none => s.t), σ := e.wr ++ s.σ }

structure Eqv (s s' : St) : Prop where
  m : s.m = s'.m
  t : ∀ i, look s.t i = look s'.t i
  σ : ∀ b, look s.σ b = look s'.σ b
theorem Eqv.refl (s : St) : Eqv s s := ⟨rfl, fun _ => rfl, fun _ => rfl⟩
theorem Eqv.symm {s s' : St} (h : Eqv s s') : Eqv s' s := ⟨h.m.symm, fun i => (h.t i).symm, fun b => (h.σ b).symm⟩
theorem Eqv.trans {s s' s'' : St} (h : Eqv s s') (h' : Eqv s' s'') : Eqv s s'' := ⟨h.m.trans h'.m, fun i => (h.t i).trans (h'.t i), fun b => (h.σ b).trans (h'.σ b)⟩

theorem app_t (e : Eff) (s : St) (i : Nat) : look (e.app s).t i = match e.dst with | some (d, x) => if d = i then some x else look s.t i | none => look s.t i := by
  unfold Eff.app
  cases e.dst with
  | none => rfl
  | some p => obtain ⟨d, x⟩ := p; exact look_cons ..
theorem app_σ (e : Eff) (s : St) (b : Nat) : look (e.app s).σ b = match look e.wr b with | some y => some y | none => look s.σ b := by
  rw [show (e.app s).σ = e.wr ++ s.σ from rfl, look_append]
  cases look e.wr b <;> rfl

theorem Eqv.app {s s' : St} (h : Eqv s s') (e : Eff) : Eqv (e.app s) (e.app s') := by
  refine ⟨h.m, fun i => ?_, fun b => ?_⟩
  · rw [app_t, app_t, h.t]
  · rw [app_σ, app_σ, h.σ]

theorem live_congr {σ σ' : List (Nat × Option Blk)} (h : ∀ b, look σ b = look σ' b) (b : Nat) : live σ b ↔ live σ' b := by unfold live; rw [h]
theorem mut_congr {c : Cx} {μ : Nat → Option (Option Nat)} {σ σ' : List (Nat × Option Blk)} (h : ∀ b, look σ b = look σ' b) : Mut c μ σ = Mut c μ σ' := by
  funext k; unfold Mut; simp only [live_congr h]
theorem GoodB.congr {c : Cx} {μ : Nat → Option (Option Nat)} {σ σ' : List (Nat × Option Blk)} {w : World} (h : ∀ b, look σ b = look σ' b) (g : GoodB c μ σ w) : GoodB c μ σ' w := by
  have hm : Mut c μ σ = Mut c μ σ' := mut_congr h
  have hl := live_congr h
  refine ⟨fun b l hb => ?_, fun b b' k h1 h2 => g.inj b b' k ((hl b).2 h1) ((hl b').2 h2), fun b k h1 => g.disj b k ((hl b).2 h1), fun b k h1 => g.own b k ((hl b).2 h1), fun b hb => g.fresh b (by rw [h]; exact hb), fun b hb => by rw [← h]; exact g.dom b hb, g.ext, g.xlt, g.evo⟩
  rw [← hm]; exact g.blks b l (by rw [h]; exact hb)
theorem Good.congr {c : Cx} {μ : Nat → Option (Option Nat)} {s s' : St} {A : Act} {w : World} (h : Eqv s s') (g : Good c μ s A w) : Good c μ s' A w := by
  have hm : Mut c μ s.σ = Mut c μ s'.σ := mut_congr h.σ
  refine ⟨g.toGoodB.congr h.σ, g.defers, g.size.trans h.m, fun i x hx => ?_⟩
  rw [← hm]; exact g.temps i x (by rw [h.t]; exact hx)

def Oper.tr (ops : Array Oper) (i : Nat) : List Nat := ((ops[i]?).map (Oper.looksAt ops)).getD []

/-- What an operation sees is as in the state s. -/
structure Ag (ops : Array Oper) (i : Nat) (e : Eff) (s s2 : St) : Prop where
  m : s2.m = s.m
  t : ∀ j, j ∈ Oper.tr ops i → look s2.t j = look s.t j
  σ : ∀ b, b ∈ e.rd → look s2.σ b = look s.σ b

def Fresh (e : Eff) (s : St) : Prop := ∀ b, b ∈ e.wr.map (·.1) → b ∉ e.rd → look s.σ b = none

def EffOK (P : Program) (ops : Array Oper) (i : Nat) (e : Eff) (s : St) : Prop :=
  e.dst.map (·.1) = (ops[i]?).bind (·.dst) ∧ ∀ s2, Ag ops i e s s2 → Fresh e s2 → ROp P ops i s2 (e.app s2)

def Ok (P : Program) (ops : Array Oper) : List (Nat × Eff) → St → Prop
  | [], _ => True
  | (i, e) :: L, s => EffOK P ops i e s ∧ Fresh e s ∧ Ok P ops L (e.app s)

def runE : List (Nat × Eff) → St → St
  | [], s => s
  | (_, e) :: L, s => runE L (e.app s)

theorem runE_eqv {L : List (Nat × Eff)} : ∀ {s s' : St}, Eqv s s' → Eqv (runE L s) (runE L s') := by
  induction L with
  | nil => exact fun h => h
  | cons p L ih => exact fun h => ih (h.app p.2)

theorem EffOK.eqv {P : Program} {ops : Array Oper} {i : Nat} {e : Eff} {s s' : St} (h : Eqv s s') (g : EffOK P ops i e s) : EffOK P ops i e s' :=
  ⟨g.1, fun s2 ha hf => g.2 s2 ⟨ha.m.trans h.m.symm, fun j hj => (ha.t j hj).trans (h.t j).symm, fun b hb => (ha.σ b hb).trans (h.σ b).symm⟩ hf⟩
theorem Fresh.eqv {e : Eff} {s s' : St} (h : Eqv s s') (g : Fresh e s) : Fresh e s' := fun b hb hr => by rw [← h.σ]; exact g b hb hr
theorem Ok.eqv {P : Program} {ops : Array Oper} {L : List (Nat × Eff)} : ∀ {s s' : St}, Eqv s s' → Ok P ops L s → Ok P ops L s' := by
  induction L with
  | nil => exact fun _ _ => trivial
  | cons p L ih => exact fun h g => ⟨g.1.eqv h, g.2.1.eqv h, ih (h.app p.2) g.2.2⟩

/-- Two operations that may change places. -/
structure Indep (ops : Array Oper) (x y : Nat × Eff) : Prop where
  t1 : ∀ d, x.2.dst.map (·.1) = some d → d ∉ Oper.tr ops y.1 ∧ y.2.dst.map (·.1) ≠ some d
  t2 : ∀ d, y.2.dst.map (·.1) = some d → d ∉ Oper.tr ops x.1
  s1 : ∀ b, b ∈ x.2.wr.map (·.1) → b ∉ y.2.rd ∧ b ∉ y.2.wr.map (·.1)
  s2 : ∀ b, b ∈ y.2.wr.map (·.1) → b ∉ x.2.rd

theorem look_none {α : Type} {l : List (Nat × α)} {b : Nat} (h : b ∉ l.map (·.1)) : look l b = none := by
  induction l with
  | nil => rfl
  | cons p l ih =>
    obtain ⟨j, x⟩ := p
    simp at h
    rw [look_cons, if_neg (fun e => h.1 e.symm)]
    exact ih (by simpa using h.2)

theorem app_t_ne {e : Eff} {s : St} {i : Nat} (h : e.dst.map (·.1) ≠ some i) : look (e.app s).t i = look s.t i := by
  rw [app_t]
  cases hd : e.dst with
  | none => rfl
  | some p =>
    obtain ⟨d, x⟩ := p
    have : d ≠ i := fun he => h (by simp [hd, he])
    simp [this]
theorem app_σ_ne {e : Eff} {s : St} {b : Nat} (h : b ∉ e.wr.map (·.1)) : look (e.app s).σ b = look s.σ b := by
  rw [app_σ, look_none h]

theorem Indep.comm {ops : Array Oper} {x y : Nat × Eff} (h : Indep ops x y) (s : St) : Eqv (y.2.app (x.2.app s)) (x.2.app (y.2.app s)) := by
  refine ⟨rfl, fun i => ?_, fun b => ?_⟩
  · by_cases h1 : x.2.dst.map (·.1) = some i
    · have h2 := (h.t1 i h1).2
      rw [app_t_ne h2, app_t, app_t]
      cases hd : x.2.dst with
      | none => simp [hd] at h1
      | some p => obtain ⟨d, z⟩ := p; simp [hd] at h1; simp [h1]
    · by_cases h2 : y.2.dst.map (·.1) = some i
      · rw [app_t_ne (s := y.2.app s) h1, app_t y.2 (x.2.app s), app_t y.2 s, app_t_ne h1]
      · rw [app_t_ne h2, app_t_ne h1, app_t_ne h1, app_t_ne h2]
  · by_cases h1 : b ∈ x.2.wr.map (·.1)
    · have h2 := (h.s1 b h1).2
      rw [app_σ_ne h2, app_σ, app_σ]
      cases hl : look x.2.wr b with
      | none => rw [app_σ_ne h2]
      | some z => rfl
    · rw [app_σ_ne (s := y.2.app s) h1, app_σ y.2 (x.2.app s), app_σ y.2 s, app_σ_ne h1]

theorem EffOK.shift {P : Program} {ops : Array Oper} {i : Nat} {e : Eff} {y : Nat × Eff} {s : St}
    (ht : ∀ d, y.2.dst.map (·.1) = some d → d ∉ Oper.tr ops i) (hs : ∀ b, b ∈ y.2.wr.map (·.1) → b ∉ e.rd) :
    EffOK P ops i e (y.2.app s) ↔ EffOK P ops i e s := by
  have h1 : ∀ j, j ∈ Oper.tr ops i → look (y.2.app s).t j = look s.t j := fun j hj => app_t_ne fun hd => ht j hd hj
  have h2 : ∀ b, b ∈ e.rd → look (y.2.app s).σ b = look s.σ b := fun b hb => app_σ_ne fun hd => hs b hd hb
  constructor
  · exact fun g => ⟨g.1, fun s2 ha hf => g.2 s2 ⟨ha.m, fun j hj => (ha.t j hj).trans (h1 j hj).symm, fun b hb => (ha.σ b hb).trans (h2 b hb).symm⟩ hf⟩
  · exact fun g => ⟨g.1, fun s2 ha hf => g.2 s2 ⟨ha.m, fun j hj => (ha.t j hj).trans (h1 j hj), fun b hb => (ha.σ b hb).trans (h2 b hb)⟩ hf⟩

theorem Ok.move {P : Program} {ops : Array Oper} {i : Nat} {e : Eff} {q : List (Nat × Eff)} : ∀ (p : List (Nat × Eff)) (s : St),
    Ok P ops (p ++ (i, e) :: q) s → (∀ y, y ∈ p → Indep ops y (i, e)) →
    EffOK P ops i e s ∧ Fresh e s ∧ Ok P ops (p ++ q) (e.app s) ∧ Eqv (runE (p ++ (i, e) :: q) s) (runE (p ++ q) (e.app s)) := by
  intro p
  induction p with
  | nil => exact fun s h _ => ⟨h.1, h.2.1, h.2.2, Eqv.refl _⟩
  | cons y p ih =>
    obtain ⟨j, d⟩ := y
    intro s h hi
    obtain ⟨h1, h2, h3⟩ := h
    obtain ⟨k1, k2, k3, k4⟩ := ih (d.app s) h3 fun z hz => hi z (List.mem_cons_of_mem _ hz)
    have hy := hi (j, d) (by simp)
    have hc := hy.comm s
    refine ⟨(EffOK.shift (y := (j, d)) (fun t ht => (hy.t1 t ht).1) (fun b hb => (hy.s1 b hb).1)).1 k1, ?_, ⟨?_, ?_, ?_⟩, ?_⟩
    · intro b hb hr
      have := k2 b hb hr
      rw [app_σ] at this
      split at this
      · cases this
      · exact this
    · exact (EffOK.shift (y := (i, e)) (fun t ht => hy.t2 t ht) (fun b hb => hy.s2 b hb)).2 h1
    · intro b hb hr
      rw [app_σ_ne (e := e) fun hd => (hy.s1 b hb).2 hd]
      exact h2 b hb hr
    · exact k3.eqv hc
    · exact k4.trans (runE_eqv hc)

/-! ### A region in the text's order -/
theorem ops_seq {P : Program} {ops : Array Oper} {Q : Exit → Act → World → Prop} {cx : Cx} : ∀ (L : List (Nat × Eff)) (s : St), Ok P ops L s →
    ∀ μ A w, Good cx μ s A w → (∀ μ' A' w', Good cx μ' (runE L s) A' w' → Q .normal A' w') → wpOps P ops Q (L.map (·.1)) A w := by
  intro L
  induction L with
  | nil => intro s _ μ A w g h; simpa [wpOps] using h _ _ _ g
  | cons x L ih =>
    obtain ⟨i, e⟩ := x
    intro s hok μ A w g h
    rw [List.map_cons, wpOps_cons]
    exact hok.1.2 s ⟨rfl, fun _ _ => rfl, fun _ _ => rfl⟩ hok.2.1 cx μ A w g _ Q fun μ' A' w' g' => ih _ hok.2.2 _ _ _ g' h

theorem region_seq {P : Program} {id : Nat} {ops : Array Oper} {L : List (Nat × Eff)} {s : St} {Post : Ex → St → Prop}
    (hL : L.map (·.1) = List.range ops.size) (hok : Ok P ops L s) (hp : Post .normal (runE L s)) : CWp P (.region id ops false) s Post := by
  intro cx hk μ A w g Q hQ
  refine wp_region ?_
  rw [← hL]
  exact ops_seq L s hok μ A w g fun μ' A' w' g' => hQ .normal _ _ _ _ hp g'

/-! ### A region in any order -/
/-- The bits of those that must come before. -/
def befs (ops : Array Oper) : Array Nat := Region.before ops

/-- A table that says of two operations whether the first one must come before the second one: j is in B[i]. -/
structure Bef (ops : Array Oper) (B : Nat → Nat → Prop) : Prop where
  lt : ∀ i o e, ops[i]? = some o → e ∈ o.after → Region.binds .any e = true → e.on < i
  step : ∀ i j, B i j → ∃ o e, ops[i]? = some o ∧ e ∈ o.after ∧ Region.binds .any e = true ∧ (e.on = j ∨ B e.on j)

theorem getD_set_true {l : Array Bool} {i j : Nat} (h : i < l.size) : (l.setIfInBounds i true).getD j false = (decide (j = i) || l.getD j false) := by
  by_cases hj : j < l.size
  · by_cases e : j = i
    · subst e; simp [Array.getD, hj]
    · simp [Array.getD, hj, Array.getElem_setIfInBounds, e, Ne.symm e]
  · have e : j ≠ i := by omega
    simp [Array.getD, hj, e]

theorem any_seq {P : Program} {ops : Array Oper} {Q : Exit → Act → World → Prop} {cx : Cx} {B : Nat → Nat → Prop} (hB : Bef ops B) :
    ∀ (fuel : Nat) (L : List (Nat × Eff)) (listed : Array Bool) (s : St), Ok P ops L s → L.length = fuel → listed.size = ops.size →
    L.map (·.1) = (List.range ops.size).filter (fun i => !listed.getD i true) →
    (∀ i j, listed.getD i false = true → B i j → listed.getD j false = true) →
    (L.Pairwise fun x y => B y.1 x.1 ∨ Indep ops x y) →
    ∀ μ A w, Good cx μ s A w → (∀ s' μ' A' w', Eqv (runE L s) s' → Good cx μ' s' A' w' → Q .normal A' w') → wpAny P .any ops Q fuel listed A w := by
  intro fuel
  induction fuel with
  | zero =>
    intro L listed s hok hlen hsz hL hdc hpw μ A w g h
    have : L = [] := List.eq_nil_of_length_eq_zero hlen
    subst this
    refine ⟨?_, h _ _ _ _ (Eqv.refl _) g⟩
    unfold Region.ready
    rw [List.filter_eq_nil_iff]
    intro i hi
    have hnil : (List.range ops.size).filter (fun i => !listed.getD i true) = [] := by rw [← hL]; rfl
    rw [List.filter_eq_nil_iff] at hnil
    have := hnil i hi
    simp only [Bool.and_eq_true, not_and]
    intro h1
    exact absurd h1 this
  | succ fuel ih =>
    intro L listed s hok hlen hsz hL hdc hpw μ A w g h
    refine ⟨fun hr => ?_, fun i hi => ?_⟩
    · -- the first one that is left is ready
      exfalso
      cases hL0 : L with
      | nil => rw [hL0] at hlen; simp at hlen
      | cons x L' =>
        obtain ⟨i, e⟩ := x
        have hmem : i ∈ (List.range ops.size).filter (fun i => !listed.getD i true) := by rw [← hL, hL0]; simp
        have hfirst : ∀ j, j < i → listed.getD j true = true := by
          intro j hj
          rw [List.mem_filter] at hmem
          have hlt : i < ops.size := by simpa using hmem.1
          cases hb : listed.getD j true with
          | true => rfl
          | false =>
            exfalso
            have hjm : j ∈ (List.range ops.size).filter (fun i => !listed.getD i true) := by
              rw [List.mem_filter]; exact ⟨by simp; omega, by rw [hb]; rfl⟩
            have hsorted : ((List.range ops.size).filter (fun i => !listed.getD i true)).Pairwise (· < ·) := (List.pairwise_lt_range).filter _
            rw [← hL, hL0] at hsorted hjm
            simp only [List.map_cons, List.pairwise_cons] at hsorted
            rcases List.mem_cons.1 hjm with rfl | hjm
            · omega
            · have := hsorted.1 j hjm; omega
        rw [List.mem_filter] at hmem
        have hlt : i < ops.size := by simpa using hmem.1
        have : i ∈ Region.ready .any ops listed := by
          unfold Region.ready
          rw [List.mem_filter]
          refine ⟨hmem.1, ?_⟩
          rw [Array.getElem?_eq_getElem hlt]
          simp only [Option.map_some, Option.getD_some, Bool.and_eq_true]
          refine ⟨hmem.2, ?_⟩
          rw [Array.all_eq_true_iff_forall_mem]
          intro ed hed
          cases hbd : Region.binds .any ed with
          | false => rfl
          | true =>
            have hon := hB.lt i ops[i] ed (Array.getElem?_eq_getElem hlt) hed hbd
            have h1 := hfirst _ hon
            have : listed.getD ed.on false = true := by
              have hsz2 : ed.on < listed.size := by omega
              simp [Array.getD, hsz2] at h1 ⊢
              exact h1
            simp [this]
        rw [hr] at this
        cases this
    · unfold Region.ready at hi
      rw [List.mem_filter] at hi
      obtain ⟨hir, hi2⟩ := hi
      have hlt : i < ops.size := by simpa using hir
      rw [Array.getElem?_eq_getElem hlt] at hi2
      simp only [Option.map_some, Option.getD_some, Bool.and_eq_true] at hi2
      obtain ⟨hnl, hpre⟩ := hi2
      rw [Array.all_eq_true_iff_forall_mem] at hpre
      have himem : i ∈ L.map (·.1) := by rw [hL, List.mem_filter]; exact ⟨hir, hnl⟩
      obtain ⟨⟨i', e⟩, hx, rfl⟩ := List.mem_map.1 himem
      obtain ⟨p, q, rfl⟩ := List.append_of_mem hx
      dsimp only at *
      -- all that must come before has come
      have hbefore : ∀ j, B i' j → listed.getD j false = true := by
        intro j hj
        obtain ⟨o, ed, ho, hed, hbd, hor⟩ := hB.step i' j hj
        rw [Array.getElem?_eq_getElem hlt] at ho
        injection ho with ho
        subst ho
        have h1 := hpre ed hed
        rw [hbd] at h1
        simp only [Bool.not_true, Bool.false_or] at h1
        rcases hor with rfl | hor
        · exact h1
        · exact hdc _ _ h1 hor
      have hindep : ∀ y, y ∈ p → Indep ops y (i', e) := by
        intro y hy
        rw [List.pairwise_append] at hpw
        rcases hpw.2.2 y hy (i', e) (by simp) with hb | hb
        · exfalso
          have h1 := hbefore _ hb
          have h2 : y.1 ∈ (p ++ (i', e) :: q).map (·.1) := List.mem_map.2 ⟨y, by simp [hy], rfl⟩
          rw [hL, List.mem_filter] at h2
          have h3 := h2.2
          have hys : y.1 < listed.size := by have : y.1 < ops.size := by simpa using h2.1
                                             omega
          simp [Array.getD, hys] at h1 h3
          rw [h1] at h3; cases h3
        · exact hb
      obtain ⟨k1, k2, k3, k4⟩ := Ok.move p s hok hindep
      refine k1.2 s ⟨rfl, fun _ _ => rfl, fun _ _ => rfl⟩ k2 cx μ A w g _ Q fun μ' A' w' g' => ?_
      refine ih (p ++ q) _ (e.app s) k3 (by simp at hlen ⊢; omega) (by simp [hsz]) ?_ ?_ ?_ μ' A' w' g' fun s' μ'' A'' w'' hs' g'' => h s' μ'' A'' w'' (k4.trans hs') g''
      · have hnodup : ((List.range ops.size).filter (fun i => !listed.getD i true)).Nodup := (List.nodup_range).filter _
        rw [← hL] at hnodup
        have e1 : (List.range ops.size).filter (fun i => !(listed.setIfInBounds i' true).getD i true) = ((List.range ops.size).filter (fun i => !listed.getD i true)).filter (fun i => i != i') := by
          rw [List.filter_filter]
          apply List.filter_congr
          intro j hj
          have hjs : j < listed.size := by have : j < ops.size := by simpa using hj
                                           omega
          by_cases hji : j = i'
          · subst hji; simp [Array.getD, hjs]
          · simp [Array.getD, hjs, Array.getElem_setIfInBounds, hji, Ne.symm hji]
        rw [e1, ← hL]
        simp only [List.map_append, List.map_cons] at hnodup ⊢
        rw [List.filter_append, List.filter_cons]
        simp only [bne_self_eq_false, Bool.false_eq_true, if_false]
        rw [List.nodup_append] at hnodup
        obtain ⟨_, hq, hdis⟩ := hnodup
        rw [List.nodup_cons] at hq
        rw [List.filter_eq_self.2, List.filter_eq_self.2]
        · intro a ha
          simp only [bne_iff_ne, ne_eq]
          rintro rfl
          exact hq.1 ha
        · intro a ha
          simp only [bne_iff_ne, ne_eq]
          rintro rfl
          exact hdis _ ha _ (by simp) rfl
      · intro j k hj hk
        rw [getD_set_true (by omega)] at hj ⊢
        rw [Bool.or_eq_true, decide_eq_true_eq] at hj ⊢
        rcases hj with rfl | hj
        · exact .inr (hbefore k hk)
        · exact .inr (hdc j k hj hk)
      · rw [List.pairwise_append] at hpw ⊢
        refine ⟨hpw.1, (List.pairwise_cons.1 hpw.2.1).2, fun a ha b hb => hpw.2.2 a ha b (by simp [hb])⟩

theorem region_any {P : Program} {id : Nat} {ops : Array Oper} {L : List (Nat × Eff)} {s : St} {Post : Ex → St → Prop} {B : Nat → Nat → Prop}
    (hm : P.follows .mixedOrders = true) (hB : Bef ops B) (hL : L.map (·.1) = List.range ops.size) (hok : Ok P ops L s)
    (hpw : L.Pairwise fun x y => B y.1 x.1 ∨ Indep ops x y) (hp : ∀ s', Eqv (runE L s) s' → Post .normal s') : CWp P (.region id ops true) s Post := by
  intro cx hk μ A w g Q hQ
  refine wp_region_any hm ?_
  have hlen : L.length = ops.size := by have := congrArg List.length hL; simpa using this
  have g' : Good cx μ s A { w with drawn := w.drawn + 1 } := by
    have st : Stab w { w with drawn := w.drawn + 1 } (Mut cx μ s.σ) (Mut cx μ s.σ) := ⟨fun _ _ h _ => h, fun _ _ _ h => h⟩
    have sh : Shape w { w with drawn := w.drawn + 1 } := fun k arr ty h => ⟨arr, h, rfl⟩
    refine ⟨⟨fun b l hb => ?_, g.inj, g.disj, g.own, g.fresh, g.dom, g.ext, g.xlt, ⟨g.evo.os, g.evo.tape, g.evo.output, g.evo.size, g.evo.shape, g.evo.same⟩⟩, g.defers, g.size, fun i x hx => ?_⟩
    · rcases g.blks b l hb with h | ⟨k, arr, ty, h1, h2, h3, h4⟩
      · exact .inl h
      · exact .inr ⟨k, arr, ty, h1, h2, h3, h4.stab st sh (Ext.refl _)⟩
    · exact (g.temps i x hx).imp fun u hu => ⟨hu.1, hu.2.stab st sh (Ext.refl _)⟩
  refine any_seq hB ops.size L _ s hok hlen (by simp) ?_ ?_ hpw μ A _ g' fun s' μ' A' w' hs' g' => hQ .normal _ _ _ _ (hp s' hs') g'
  · rw [hL]
    symm
    rw [List.filter_eq_self]
    intro i hi
    have : i < ops.size := by simpa using hi
    simp [Array.getD, this]
  · intro i j h
    simp [Array.getD] at h
    
end Gx
