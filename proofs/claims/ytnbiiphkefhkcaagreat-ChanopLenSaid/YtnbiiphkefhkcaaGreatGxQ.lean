import Derived.Test.YtnbiiphkefhkcaaGreatGxP
set_option linter.unusedVariables false
set_option linter.unusedSimpArgs false
namespace Gx
open Go

/-! ### What a function does -/
/-- From blocks that read as σ (their names below k) and arguments that read as args, a call of f gives res and leaves blocks that read as σ'. -/
def FSpec (P : Program) (f : FuncId) (k : Nat) (σ : List (Nat × Option Blk)) (args : List D) (res : T) (σ' : List (Nat × Option Blk)) : Prop :=
  EnterOK P f ∧ ∀ (cx : Cx) w vs, cx.w0 = w → cx.k = k → cx.df = [] → GoodB cx cx.μ0 σ w → RelDs cx w cx.μ0 (Mut cx cx.μ0 σ) args vs →
    ∀ R : Ending → World → Prop, (∀ u μ' w', GoodB cx μ' σ' w' → RelT cx w' μ' (Mut cx μ' σ') res u → R (.returned u) w') → Calls P f vs w R

def ptrOf : T → Option (Nat × Nat)
  | .d (.sc (.ptr b off)) => some (b, off)
  | _ => none
def resD (ti : TypeId → Option TI) (s : St) : ResultVar → Option D
  | .tmp t => match look s.t t with | some (.d d) => some d | _ => none
  | .cell a ty => match ti ty, look s.t a with
    | some x, some v => match ptrOf v with
      | some (b, off) => match look s.σ b with
        | some (some bl) => match takeN bl.l off x.size with
          | some cs => mkD x.agg cs
          | none => none
        | _ => none
      | none => none
    | _, _ => none
def tupT : List D → T
  | [d] => .d d
  | ds => .tup ds
def resT (ti : TypeId → Option TI) (s : St) (l : List ResultVar) : Option T := (mapO (resD ti s) l).map tupT

structure FrB (σ σ' : List (Nat × Option Blk)) (k : Nat) : Prop where
  blk : ∀ b bl', look σ' b = some (some bl') → ∃ bl, look σ b = some (some bl) ∧ FrL σ σ' bl.l bl'.l
  dead : ∀ b, look σ' b ≠ none → look σ b ≠ none
  low : ∀ b, b < k → look σ b ≠ none → look σ' b ≠ none

def Done (ti : TypeId → Option TI) (rs : List ResultVar) (k : Nat) (res : T) (σ' : List (Nat × Option Blk)) (e : Ex) (s : St) : Prop :=
  (e = .normal ∨ e = .ret) ∧ ∃ r0, resT ti s rs = some r0 ∧ FrT s.σ σ' r0 res ∧ FrB s.σ σ' k

def enum {α β : Type} (f : α → β) : List α → Nat → List (Nat × β)
  | [], _ => []
  | x :: r, i => (i, f x) :: enum f r (i + 1)
theorem look_enum {α β : Type} {f : α → β} : ∀ {l : List α} {n i : Nat} {y : β}, look (enum f l n) i = some y → n ≤ i ∧ ∃ x, l[i - n]? = some x ∧ f x = y
  | [], _, _, _, h => by simp [enum, look] at h
  | x :: r, n, i, y, h => by
    simp only [enum] at h
    rw [look_cons] at h
    split at h
    · rename_i e; subst e; injection h with h; exact ⟨Nat.le_refl _, x, by simp, h⟩
    · obtain ⟨h1, z, h2, h3⟩ := look_enum h
      refine ⟨by omega, z, ?_, h3⟩
      have : i - n = (i - (n + 1)) + 1 := by omega
      rw [this]; simpa using h2

def entrySt (fn : Func) (σ : List (Nat × Option Blk)) (args : List D) : St := { t := enum .d args 0, σ := σ, nx := 64, m := args.length + (fn.ntmps - args.length) }

section
variable {P : Program} {ti : TypeId → Option TI} (hti : ∀ t x, ti t = some x → TIok P t x)

def rvSem (tmps : Array Value) : ResultVar → Sem Value
  | .tmp t => pure (tmps.getD t undef)
  | .cell a t => do loadVar t (← asAddr (tmps.getD a undef))
include hti in
theorem resD_ok {cx : Cx} {μ : Nat → Option (Option Nat)} {s : St} {A : Act} {w : World} (g : Good cx μ s A w) {rv : ResultVar} {d : D} (h : resD ti s rv = some d) :
    ∃ u, (rvSem A.tmps rv).run P w = .ok u w ∧ RelD cx w μ (Mut cx μ s.σ) d u := by
  unfold rvSem
  cases rv with
  | tmp t =>
    simp only [resD] at h
    split at h
    · rename_i d' hd
      injection h with h; subst h
      obtain ⟨u, h1, h2⟩ := g.temps t _ hd
      exact ⟨u, by simp [h1], h2⟩
    · cases h
  | cell a ty =>
    simp only [resD] at h
    split at h
    case h_2 => cases h
    rename_i x v hx hv
    split at h
    case h_2 => cases h
    rename_i b off hp
    split at h
    case h_2 => cases h
    rename_i bl hbl
    split at h
    case h_2 => cases h
    rename_i cs hcs
    obtain ⟨u, h1, h2⟩ := g.temps a v hv
    have : v = .d (.sc (.ptr b off)) := by
      unfold ptrOf at hp
      split at hp
      · injection hp with hp; injection hp with e1 e2; subst e1; subst e2; rfl
      · cases hp
    subst this
    obtain ⟨kk, hk, hu⟩ := h2
    subst hu
    obtain ⟨us, u1, u2, u3⟩ := cells_at g.toGoodB hbl hk hcs
    obtain ⟨u, h3, h4, h5⟩ := run_loadVar (hti _ _ hx) w kk off us u1 u2
    refine ⟨u, ?_, mkD_rel h (by rw [u1, (takeN_spec hcs).2.1]) u3 h4 h5⟩
    have e : A.tmps.getD a undef = .pointer (some ⟨kk, off, none⟩) := by simp [h1]
    simp only [Instr.loadAt, Instr.sureAddr] at h3
    simpa [e, asAddr] using h3

include hti in
theorem resT_ok {cx : Cx} {μ : Nat → Option (Option Nat)} {s : St} {A : Act} {w : World} (g : Good cx μ s A w) {fn : Func} {r : T} (h : resT ti s fn.results.toList = some r) :
    ∃ u, (results fn A.tmps).run P w = .ok u w ∧ RelT cx w μ (Mut cx μ s.σ) r u := by
  have key : ∀ (l : List ResultVar) ds, mapO (resD ti s) l = some ds → ∃ us : List Value, us.length = ds.length ∧ (∀ (i : Nat) d, ds[i]? = some d → ∃ u, us[i]? = some u ∧ RelD cx w μ (Mut cx μ s.σ) d u) ∧
      (l.mapM (rvSem A.tmps)).run P w = .ok us w := by
    intro l
    induction l with
    | nil => intro ds hds; simp [mapO] at hds; subst hds; exact ⟨[], rfl, fun i d h => by simp at h, by simp⟩
    | cons x l ih =>
      intro ds hds
      simp only [mapO] at hds
      split at hds
      · cases hds
      · rename_i d hd
        split at hds
        · cases hds
        · rename_i ds' hds'
          injection hds with hds; subst hds
          obtain ⟨us, e1, e2, e3⟩ := ih _ hds'
          obtain ⟨u, e4, e5⟩ := resD_ok hti g hd
          refine ⟨u :: us, by simp [e1], fun i d hi => ?_, ?_⟩
          · cases i with
            | zero => simp at hi; subst hi; exact ⟨u, rfl, e5⟩
            | succ i => simpa using e2 i d (by simpa using hi)
          · simp [e4, e3]
  unfold resT at h
  cases hm : mapO (resD ti s) fn.results.toList with
  | none => rw [hm] at h; cases h
  | some ds =>
    rw [hm] at h
    injection h with h
    obtain ⟨us, e1, e2, e3⟩ := key _ _ hm
    have run : (results fn A.tmps).run P w = .ok (if h : us.toArray.size = 1 then us.toArray[0] else .tuple us.toArray) w := by
      have e4 : results fn A.tmps = (do
        let vs ← fn.results.mapM (rvSem A.tmps)
        pure (if h : vs.size = 1 then vs[0] else .tuple vs)) := rfl
      rw [e4, Sem.run_bind, ← Array.toArray_toList (xs := fn.results), List.mapM_toArray]
      simp [e3]
    refine ⟨_, run, ?_⟩
    subst h
    match ds, us, e1, e2 with
    | [d], [u], _, e2 =>
      obtain ⟨u', h1, h2⟩ := e2 0 d rfl
      simp at h1; subst h1
      exact h2
    | [], [], _, e2 => exact ⟨#[], rfl, rfl, fun i d h => by simp at h⟩
    | d1 :: d2 :: r, u1 :: u2 :: r', hl, e2 =>
      refine ⟨(u1 :: u2 :: r').toArray, by simp, by simpa using hl, fun i d hi => ?_⟩
      simpa using e2 i d hi

/-- A function does what its body shows. -/
theorem fspec_intro (hP : PK P ti) {f : FuncId} {fn : Func} {c : Code} {k : Nat} {σ σ' : List (Nat × Option Blk)} {args : List D} {res : T} (he : EnterOK P f)
    (hf : P.funcs[f]? = some fn) (hb : fn.body = some c) (hk : k ≤ 64) (h : CWp P c (entrySt fn σ args) (Done ti fn.results.toList k res σ')) : FSpec P f k σ args res σ' := by
  refine ⟨he, fun cx w vs hw hck hdf g hr R hR => ?_⟩
  refine calls_of_wp hf hb ?_
  have gd : Good cx cx.μ0 (entrySt fn σ args) { tmps := vs ++ Array.replicate (fn.ntmps - vs.size) undef, defers := [] } w := by
    refine ⟨g, hdf.symm, by simp [entrySt, hr.1], fun i x hx => ?_⟩
    obtain ⟨_, y, h1, rfl⟩ := look_enum hx
    obtain ⟨u, h2, h3⟩ := hr.2 _ _ h1
    refine ⟨u, ?_, h3⟩
    simp only [Nat.sub_zero] at h2
    have : i < vs.size := by
      rw [Array.getElem?_eq_some_iff] at h2; exact h2.1
    simp [Array.getElem?_append_left this, h2]
  refine h cx (by omega) cx.μ0 _ w gd _ ?_
  rintro e s' μ' A' w' ⟨hex, r0, h1, h2, h3⟩ g'
  have hl : ∀ b, live σ' b → live s'.σ b := fun b ⟨l, hb⟩ => (h3.blk b l hb).elim fun bl hbl => ⟨bl, hbl.1⟩
  obtain ⟨u, hu, hru⟩ := resT_ok hP.ty g' h1
  have fin : A'.defers = [] ∧ ∃ v, (results fn A'.tmps).run P w' = .ok v w' ∧ R (.returned v) w' :=
    ⟨g'.defers.trans hdf, u, hu, hR u _ w' (goodB_frz g'.toGoodB h3.blk h3.dead fun b hb => h3.low b (by omega)) (frT_rel g'.toGoodB hl h2 hru)⟩
  rcases hex with rfl | rfl
  · exact fin
  · exact fin
end
end Gx
