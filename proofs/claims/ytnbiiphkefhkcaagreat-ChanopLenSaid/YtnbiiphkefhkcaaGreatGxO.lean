import Derived.Test.YtnbiiphkefhkcaaGreatGxN
set_option linter.unusedVariables false
set_option linter.unusedSimpArgs false
namespace Gx
open Go

/-! ### Code -/
def seqK (next : St → Tree) (K : Ex → St → Tree) : Ex → St → Tree
  | .normal, s => next s
  | .exit i, s => K (.exit i) s
  | .goto l, s => K (.goto l) s
  | .ret, s => K .ret s
def blockK (id : Nat) (K : Ex → St → Tree) : Ex → St → Tree
  | .normal, s => K .normal s
  | .exit i, s => if Nat.beq i id then K .normal s else K (.exit i) s
  | .goto l, s => K (.goto l) s
  | .ret, s => K .ret s
def noGo (K : Ex → St → Tree) : Ex → St → Tree
  | .normal, s => K .normal s
  | .exit i, s => K (.exit i) s
  | .goto _, _ => .fail
  | .ret, s => K .ret s
def goK (c : Code) (K : Ex → St → Tree) : Ex → St → Tree
  | .normal, s => K .normal s
  | .exit i, s => K (.exit i) s
  | .goto l, s => match findLabel c l with
    | some rest => .code rest s (noGo K)
    | none => .fail
  | .ret, s => K .ret s
def refine1 (s : St) (c : Operand) (v : Bool) : St := match c with
  | .tmp q => s.put q v
  | _ => s

def St.adv (s : St) (n : Nat) : St := { s with nx := s.nx + n }
def ev (ti : TypeId → Option TI) : Code → St → (Ex → St → Tree) → Tree
  | .skip, s, K => K .normal s
  | .region _ os draw, s, K => evOps ti os.toList os.toList 0 s [] fun L s' => match draw with
    | true => .chk (pairsOK os.toList (befGo os.toList []) L = true ∧ ltOK os.toList 0 = true) (K .normal (s'.adv (4 * os.toList.length)))
    | false => K .normal (s'.adv (4 * os.toList.length))
  | .seq a b, s, K => ev ti a s (seqK (fun s' => ev ti b s' K) K)
  | .cond c a b, s, K => match ops s.t c with
    | some (.v (.bool x)) => .br x (ev ti a (refine1 s c true) K) (ev ti b (refine1 s c false) K)
    | some (.ub p) => .ub p (ev ti a (refine1 s c true) K) (ev ti b (refine1 s c false) K)
    | _ => .fail
  | .block id a, s, K => ev ti a s (blockK id K)
  | .loop a, s, K => .code (.loop a) s K
  | .rangeFunc _ _ _ _, _, _ => .fail
  | .exit i, s, K => K (.exit i) s
  | .scope a, s, K => ev ti a s (goK a K)
  | .label _, s, K => K .normal s
  | .goto l, s, K => K (.goto l) s
  | .ret, s, K => K .ret s
  | .refuse _, _, _ => .fail

section
variable {P : Program} {b : Frame} {a : Act} {w : World} {Q : Exit → Act → World → Prop}
/-- A scope in which the run jumps at most once, and behind the jump not again. -/
theorem wp_scope_once {c : Code} (first : c.wp P (fun e a w => match e with
      | .goto l => ∃ rest, findLabel c l = some rest ∧ rest.wp P (Exit.noGoto Q) a w
      | e => Q e a w) a w) : (Code.scope c).wp P Q a w := by
  intro b k cs
  obtain ⟨e, a₁, w₁, hq, harr⟩ := first b (.inScope c :: k) cs
  cases e with
  | normal => exact ⟨.normal, a₁, w₁, hq, .head step_scope (Steps.trans harr (.one step_inScope))⟩
  | exit id => exact ⟨.exit id, a₁, w₁, hq, fun k' hk => .head step_scope (harr k' (by simp [exitTo, hk]))⟩
  | goto l =>
    obtain ⟨rest, hf, hr⟩ := hq
    have hg : gotoIn l (.inScope c :: k) = some (.code rest :: .inScope c :: k) := by simp [gotoIn, hf]
    obtain ⟨e₂, a₂, w₂, hq₂, harr₂⟩ := hr b (.inScope c :: k) cs
    have h0 := Steps.trans (.one step_scope) (harr _ hg)
    cases e₂ with
    | normal => exact ⟨.normal, a₂, w₂, hq₂, .of_steps h0 (Steps.trans harr₂ (.one step_inScope))⟩
    | exit id => exact ⟨.exit id, a₂, w₂, hq₂, fun k' hk => Steps.trans h0 (harr₂ k' (by simp [exitTo, hk]))⟩
    | goto l' => exact hq₂.elim
    | ret => exact ⟨_, a₂, w₂, hq₂, .of_steps h0 harr₂⟩
    | panic ch => exact ⟨_, a₂, w₂, hq₂, .of_steps h0 harr₂⟩
    | outgrown => exact ⟨_, a₂, w₂, hq₂, .of_steps h0 harr₂⟩
  | ret => exact ⟨_, a₁, w₁, hq, .of_steps (.one step_scope) harr⟩
  | panic ch => exact ⟨_, a₁, w₁, hq, .of_steps (.one step_scope) harr⟩
  | outgrown => exact ⟨_, a₁, w₁, hq, .of_steps (.one step_scope) harr⟩
end

structure PK (P : Program) (ti : TypeId → Option TI) : Prop where
  ty : ∀ t x, ti t = some x → TIok P t x
  mix : P.follows .mixedOrders = true

section
variable {P : Program} {ti : TypeId → Option TI} (hP : PK P ti) {Q : Ex → St → Prop}

theorem CWp.mono {c : Code} {s : St} {J J' : Ex → St → Prop} (h : CWp P c s J) (hJ : ∀ e s', J e s' → J' e s') : CWp P c s J' :=
  fun cx hk μ A w g Q hQ => h cx hk μ A w g Q fun e s' μ' A' w' hp => hQ e s' μ' A' w' (hJ e s' hp)
/-- From a state that reads alike. -/
theorem CWp.eqv {c : Code} {s s' : St} {J : Ex → St → Prop} (h : Eqv s s') (hc : CWp P c s' J) : CWp P c s J :=
  fun cx hk μ A w g Q hQ => hc cx hk μ A w (g.congr h) Q hQ
theorem put_good {cx : Cx} {μ : Nat → Option (Option Nat)} {s : St} {A : Act} {w : World} {c : Operand} {b : Bool} (g : Good cx μ s A w) (h : A.eval c = .bool b) (hl : ∀ q, c = .tmp q → ∃ x, look s.t q = some x) : Good cx μ (refine1 s c b) A w := by
  unfold refine1
  split
  · rename_i q
    refine ⟨g.toGoodB, g.defers, g.size, fun i x hx => ?_⟩
    unfold St.put at hx
    rw [look_cons] at hx
    split at hx
    · rename_i e; subst e
      injection hx with hx; subst hx
      obtain ⟨x, hx⟩ := hl q rfl
      obtain ⟨u, h1, h2⟩ := g.temps q x hx
      have : u = .bool b := by simpa [Act.eval, h1] using h
      subst this
      exact ⟨_, h1, RelV.bool b⟩
    · exact g.temps i x hx
  · exact g
theorem ops_look {t : List (Nat × T)} {c : Operand} {x : S} (h : ops t c = some x) : ∀ q, c = .tmp q → ∃ x, look t q = some x := by
  rintro q rfl
  unfold ops at h
  split at h
  · rename_i y hy; exact ⟨_, hy⟩
  · cases h

include hP in
theorem ev_ok : ∀ (c : Code) (s : St) (K : Ex → St → Tree), WpT P (ev ti c s K) Q → CWp P c s fun e s' => WpT P (K e s') Q := by
  intro c
  induction c with
  | skip =>
    intro s K h cx hc64 μ A w g Q' hQ
    exact wp_skip (hQ .normal s μ A w h g)
  | region id os draw =>
    intro s K h
    unfold ev at h
    obtain ⟨L', s', h1, h2, h3, h4, h5, h6, h7⟩ := evOps_ok hP.ty os.toList 0 s [] (fun j o hj => by simpa using hj) h
    have hL : L'.map (·.1) = List.range os.size := by
      rw [h1]; simp
    have heq : ∀ n, Eqv s' (s'.adv n) := fun n => ⟨rfl, fun _ => rfl, fun _ => rfl⟩
    cases draw with
    | true =>
      obtain ⟨⟨hp, hl⟩, h7⟩ := h7
      have hpw := pairs_pw hp (fun x hx => h6 x (by simpa using hx))
      simp only [List.append_nil, List.reverse_reverse] at hpw
      intro cx hc64 μ A w g Q' hQ
      refine region_any (Post := fun e s'' => e = .normal ∧ Eqv (runE L' s) s'') hP.mix (bef_ok hl) hL h2 hpw (fun s'' he => ⟨rfl, he⟩) cx hc64 μ A w g Q' ?_
      rintro e s'' μ' A' w' ⟨rfl, he⟩ g'
      exact hQ .normal _ _ _ _ h7 (g'.congr ((he.symm.trans h3).trans (heq _)))
    | false =>
      intro cx hc64 μ A w g Q' hQ
      refine region_seq (Post := fun e s'' => e = .normal ∧ s'' = runE L' s) hL h2 ⟨rfl, rfl⟩ cx hc64 μ A w g Q' ?_
      rintro e s'' μ' A' w' ⟨rfl, rfl⟩ g'
      exact hQ .normal _ _ _ _ h7 (g'.congr (h3.trans (heq _)))
  | seq a b iha ihb =>
    intro s K h
    unfold ev at h
    have ha := iha s _ h
    intro cx hc64 μ A w g Q' hQ
    refine wp_seq (ha cx hc64 μ A w g _ fun e s' μ' A' w' hk g' => ?_)
    cases e with
    | normal => exact ihb s' K hk cx hc64 μ' A' w' g' Q' hQ
    | exit i => exact hQ _ _ _ _ _ hk g'
    | goto l => exact hQ _ _ _ _ _ hk g'
    | ret => exact hQ _ _ _ _ _ hk g'
  | cond c a b iha ihb =>
    intro s K h cx hc64 μ A w g Q' hQ
    unfold ev at h
    split at h
    · rename_i x hx
      have hc : A.eval c = .bool x := RelV.bool_inv (ops_rel g.temps hx)
      cases x with
      | true => exact wp_cond_true hc (iha _ K (h.1 rfl) cx hc64 μ A w (put_good g hc (ops_look hx)) Q' hQ)
      | false => exact wp_cond_false hc (ihb _ K (h.2 rfl) cx hc64 μ A w (put_good g hc (ops_look hx)) Q' hQ)
    · rename_i p hx
      obtain ⟨v, hc, hp⟩ := ops_rel g.temps hx
      cases v with
      | true => exact wp_cond_true hc (iha _ K (h.1 (hp rfl)) cx hc64 μ A w (put_good g hc (ops_look hx)) Q' hQ)
      | false => exact wp_cond_false hc (ihb _ K h.2 cx hc64 μ A w (put_good g hc (ops_look hx)) Q' hQ)
    · exact h.elim
  | block id a iha =>
    intro s K h cx hc64 μ A w g Q' hQ
    unfold ev at h
    refine wp_block (iha s _ h cx hc64 μ A w g _ fun e s' μ' A' w' hk g' => ?_)
    cases e with
    | normal => exact hQ _ _ _ _ _ hk g'
    | exit i =>
      simp only [blockK] at hk
      by_cases hi : i = id
      · subst hi
        rw [if_pos (Nat.beq_refl _)] at hk
        have := hQ _ _ _ _ _ hk g'
        simpa [Exit.inBlock, Ex.to] using this
      · have hb : Nat.beq i id = false := by
          cases hb : Nat.beq i id
          · rfl
          · exact absurd (Nat.eq_of_beq_eq_true hb) hi
        rw [hb] at hk
        have := hQ _ _ _ _ _ hk g'
        simpa [Exit.inBlock, Ex.to, hi] using this
    | goto l => exact hQ _ _ _ _ _ hk g'
    | ret => exact hQ _ _ _ _ _ hk g'
  | loop a iha =>
    intro s K h
    unfold ev at h
    obtain ⟨J, h1, h2⟩ := h
    exact h1.mono h2
  | rangeFunc f ps a b _ _ => intro s K h; exact h.elim
  | exit i => intro s K h cx hc64 μ A w g Q' hQ; exact wp_exit (hQ _ s μ A w h g)
  | scope a iha =>
    intro s K h cx hc64 μ A w g Q' hQ
    unfold ev at h
    refine wp_scope_once (iha s _ h cx hc64 μ A w g _ fun e s' μ' A' w' hk g' => ?_)
    cases e with
    | normal => exact hQ _ _ _ _ _ hk g'
    | exit i => exact hQ _ _ _ _ _ hk g'
    | ret => exact hQ _ _ _ _ _ hk g'
    | goto l =>
      simp only [goK] at hk
      split at hk
      · rename_i rest hf
        obtain ⟨J, h1, h2⟩ := hk
        refine ⟨rest, hf, h1 cx hc64 μ' A' w' g' _ fun e2 s2 μ2 A2 w2 hj g2 => ?_⟩
        have hk2 := h2 _ _ hj
        cases e2 with
        | normal => exact hQ _ _ _ _ _ hk2 g2
        | exit i => exact hQ _ _ _ _ _ hk2 g2
        | ret => exact hQ _ _ _ _ _ hk2 g2
        | goto l => exact hk2.elim
      · exact hk.elim
  | label l => intro s K h cx hc64 μ A w g Q' hQ; exact wp_label (hQ .normal s μ A w h g)
  | goto l => intro s K h cx hc64 μ A w g Q' hQ; exact wp_goto (hQ _ s μ A w h g)
  | ret => intro s K h cx hc64 μ A w g Q' hQ; exact wp_ret (hQ .ret s μ A w h g)
  | refuse r => intro s K h; exact h.elim

include hP in
theorem cwp_ev {c : Code} {s : St} (h : WpT P (ev ti c s fun e s' => .done e s') Q) : CWp P c s Q := (ev_ok hP c s _ h).mono fun _ _ h => h
end
end Gx
