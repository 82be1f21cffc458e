import Derived.Test.YtnbiiphkefhkcaaGreatGxX
set_option linter.unusedVariables false
set_option linter.unusedSimpArgs false
namespace Gx
open Go

/-! ### Code by pieces: behind each piece of a sequence the state may be cut down -/
def evC (ti : TypeId → Option TI) : Code → St → (Ex → St → Tree) → Tree
  | .seq a b, s, K => evC ti a s (seqK (fun s' => .code b s' K) K)
  | c, s, K => ev ti c s K
section
variable {P : Program} {ti : TypeId → Option TI} (hP : PK P ti) {Q : Ex → St → Prop}
include hP in
theorem evC_ok : ∀ (c : Code) (s : St) (K : Ex → St → Tree), WpT P (evC ti c s K) Q → CWp P c s fun e s' => WpT P (K e s') Q := by
  intro c
  induction c with
  | seq a b iha ihb =>
    intro s K h
    have ha := iha s _ h
    intro cx hk μ A w g Q' hQ
    refine wp_seq (ha cx hk μ A w g _ fun e s' μ' A' w' hj g' => ?_)
    cases e with
    | normal =>
      obtain ⟨J, h1, h2⟩ := hj
      exact (h1.mono h2) cx hk μ' A' w' g' Q' hQ
    | exit i => exact hQ _ _ _ _ _ hj g'
    | goto l => exact hQ _ _ _ _ _ hj g'
    | ret => exact hQ _ _ _ _ _ hj g'
  | _ => intro s K h; exact ev_ok hP _ s K h
include hP in
theorem cwp_evC {c : Code} {s : St} (h : WpT P (evC ti c s fun e s' => .done e s') Q) : CWp P c s Q := (evC_ok hP c s _ h).mono fun _ _ h => h
include hP in
theorem w_runC {c : Code} {s : St} {k : Ex → St → Tree} (h : WpT P (evC ti c s k) Q) : WpT P (.code c s k) Q := ⟨_, evC_ok hP c s k h, fun _ _ h => h⟩
include hP in
/-- Goes on from a state cut down. -/
theorem w_cut {c : Code} {s s0 : St} {k : Ex → St → Tree} (ts ns : List Nat) (nx : Nat) (hp : s.pick ts ns nx = some s0) (hc : ClB s0.σ s0.σ) (h : WpT P (evC ti c s0 k) Q) : WpT P (.code c s k) Q :=
  ⟨_, (pick_imp ts ns nx hp hc).cwp (evC_ok hP c s0 k h), fun _ _ h => h⟩
include hP in
/-- Goes on from a state that is written out. -/
theorem w_cutE {c : Code} {s : St} {k : Ex → St → Tree} (s0 : St) (ts ns : List Nat) (nx : Nat) (hp : s.pick ts ns nx = some s0) (hc : clB s0.σ s0.σ = true) (h : WpT P (evC ti c s0 k) Q) : WpT P (.code c s k) Q :=
  w_cut hP ts ns nx hp (clB_of hc) h
/-! The same, with all evaluation left to the kernel. -/
def _root_.Gx.Tree.isChk : Tree → Bool | .chk _ _ => true | _ => false
def _root_.Gx.Tree.chkP : Tree → Prop | .chk p _ => p | _ => False
def _root_.Gx.Tree.chkT : Tree → Tree | .chk _ t => t | _ => .fail
theorem w_chkK {t : Tree} (p : Prop) (h1 : t.isChk = true) (h2 : p = t.chkP) (hp : p) (h : WpT P t.chkT Q) : WpT P t Q := by
  cases t <;> first | (cases h1; done) | (subst h2; exact ⟨hp, h⟩)
def _root_.Gx.Tree.isCode : Tree → Bool | .code _ _ _ => true | _ => false
def _root_.Gx.Tree.codeC : Tree → Code | .code c _ _ => c | _ => .skip
def _root_.Gx.Tree.codeS : Tree → St | .code _ s _ => s | _ => ⟨[], [], 0, 0⟩
def _root_.Gx.Tree.codeK : Tree → Ex → St → Tree | .code _ _ k => k | _ => fun _ _ => .fail
def _root_.Go.Code.restN : Nat → Code → Code
  | 0, c => c
  | n + 1, .seq _ b => b.restN n
  | _ + 1, c => c
abbrev _root_.Gx.kD : Ex → St → Tree := fun e s => .done e s
include hP in
theorem w_cutK {t : Tree} (b : Code) (K : Ex → St → Tree) (s0 : St) (ts ns : List Nat) (nx : Nat) (h1 : t.isCode = true) (hb : t.codeC = b) (hK : t.codeK = K) (hp : t.codeS.pick ts ns nx = some s0) (hc : clB s0.σ s0.σ = true)
    (h : WpT P (evC ti b s0 K) Q) : WpT P t Q := by
  cases t <;> first | (cases h1; done) | (subst hb; subst hK; exact w_cutE hP s0 ts ns nx hp hc h)
include hP in
theorem w_cutC {t : Tree} (b : Code) (K : Ex → St → Tree) (s0 : St) (ts ns : List Nat) (nx : Nat) (h1 : t.isCode = true) (hb : t.codeC = b) (hK : t.codeK = K) (hp : t.codeS.pick ts ns nx = some s0) (hc : ClB s0.σ s0.σ)
    (h : WpT P (evC ti b s0 K) Q) : WpT P t Q := by
  cases t <;> first | (cases h1; done) | (subst hb; subst hK; exact w_cut hP ts ns nx hp hc h)
end
end Gx
