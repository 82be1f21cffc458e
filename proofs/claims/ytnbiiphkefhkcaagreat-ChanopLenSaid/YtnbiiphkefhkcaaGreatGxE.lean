import Derived.Test.YtnbiiphkefhkcaaGreatGxD
set_option linter.unusedVariables false
set_option linter.unusedSimpArgs false
namespace Gx
open Go

/-! ### The tree of what a piece of code may do -/
inductive Tree where
  | done (e : Ex) (s : St)
  | fail
  | br (b : Bool) (t e : Tree)
  | ub (p : Prop) (t e : Tree)
  | chk (p : Prop) (t : Tree)
  | rd (l : List S) (off n : Nat) (k : List S → Tree)
  | rdv (cs : List V) (off n : Nat) (k : List V → Tree)
  | call (f : FuncId) (args : List D) (s : St) (nm : Nat) (k : T → List (Nat × Option Blk) → List Nat → Tree)
  | code (c : Code) (s : St) (k : Ex → St → Tree)

def takeN {α : Type} (l : List α) (off n : Nat) : Option (List α) := if Nat.ble (off + n) l.length then some ((l.drop off).take n) else none

def FreshW (wr : List (Nat × Option Blk)) (rd : List Nat) (s : St) : Prop := ∀ b, b ∈ wr.map (·.1) → b ∉ rd → look s.σ b = none

def RelDs (cx : Cx) (w : World) (μ : Nat → Option (Option Nat)) (M : Nat → Prop) (args : List D) (vs : Array Value) : Prop :=
  vs.size = args.length ∧ ∀ (i : Nat) (x : D), args[i]? = some x → ∃ u, vs[i]? = some u ∧ RelD cx w μ M x u

/-- A call of f in any state that reads like s at the names rd gives res and turns the blocks wr. -/
def EnterOK (P : Program) (f : FuncId) : Prop := ∀ args w, (callFunc f args).run P w = .ok (.enter f args) w
def CallOK (P : Program) (f : FuncId) (args : List D) (s : St) (res : T) (wr : List (Nat × Option Blk)) (rd : List Nat) : Prop :=
  EnterOK P f ∧ ∀ s2 : St, (∀ b, b ∈ rd → look s2.σ b = look s.σ b) → FreshW wr rd s2 → ∀ (cx : Cx) μ A w vs, Good cx μ s2 A w → RelDs cx w μ (Mut cx μ s2.σ) args vs →
    ∀ R : Ending → World → Prop, (∀ u μ' w', Good cx μ' { s2 with σ := wr ++ s2.σ } A w' → RelT cx w' μ' (Mut cx μ' (wr ++ s2.σ)) res u → R (.returned u) w') → Calls P f vs w R

def WpT (P : Program) : Tree → (Ex → St → Prop) → Prop
  | .done e s, Q => Q e s
  | .fail, _ => False
  | .br b t e, Q => (b = true → WpT P t Q) ∧ (b = false → WpT P e Q)
  | .ub p t e, Q => (p → WpT P t Q) ∧ WpT P e Q
  | .chk p t, Q => p ∧ WpT P t Q
  | .rd l off n k, Q => ∃ cs, takeN l off n = some cs ∧ WpT P (k cs) Q
  | .rdv l off n k, Q => ∃ cs, takeN l off n = some cs ∧ WpT P (k cs) Q
  | .call f args s nm k, Q => ∃ res wr rd, CallOK P f args s res wr rd ∧ FreshW wr rd s ∧ WpT P (k res wr rd) Q
  | .code c s k, Q => ∃ J, CWp P c s J ∧ ∀ e s', J e s' → WpT P (k e s') Q

/-! ### Operands -/
def cval (v : Value) : Option T := (cvS v).map fun s => .d (.sc s)
def opv (t : List (Nat × T)) : Operand → Option T
  | .tmp i => look t i
  | .const v => cval v
  | .func f => some (.d (.sc (.v (.fn f))))
  | .global _ => none
def opd (t : List (Nat × T)) (x : Operand) : Option D := match opv t x with | some (.d x) => some x | _ => none
def ops (t : List (Nat × T)) (x : Operand) : Option S := match opv t x with | some (.d (.sc x)) => some x | _ => none
def opi (t : List (Nat × T)) (x : Operand) : Option (IntKind × Int) := match opv t x with | some (.d (.sc (.v (.int k n)))) => some (k, n) | _ => none

/-- The temporaries read so. -/
def Tmps (cx : Cx) (w : World) (μ : Nat → Option (Option Nat)) (M : Nat → Prop) (t : List (Nat × T)) (A : Act) : Prop :=
  ∀ i x, look t i = some x → ∃ u, A.tmps[i]? = some u ∧ RelT cx w μ M x u

theorem RelV.int_inv {w : World} {M : Nat → Prop} {k : IntKind} {n : Int} {u : Value} (h : RelV w M (.int k n) u) : u = .int k n := by cases h; rfl
theorem RelV.bool_inv {w : World} {M : Nat → Prop} {b : Bool} {u : Value} (h : RelV w M (.bool b) u) : u = .bool b := by cases h; rfl
theorem RelV.fn_inv {w : World} {M : Nat → Prop} {f : FuncId} {u : Value} (h : RelV w M (.fn f) u) : u = .func (.func f) #[] #[] := by cases h; rfl
theorem mkInt {cx : Cx} {w : World} {μ : Nat → Option (Option Nat)} {M : Nat → Prop} (k : IntKind) (n : Int) : RelT cx w μ M (.d (.sc (.v (.int k n)))) (.int k n) := RelV.int k n
theorem mkBool {cx : Cx} {w : World} {μ : Nat → Option (Option Nat)} {M : Nat → Prop} (b : Bool) : RelT cx w μ M (.d (.sc (.v (.bool b)))) (.bool b) := RelV.bool b
section
variable {cx : Cx} {w : World} {μ : Nat → Option (Option Nat)} {M : Nat → Prop} {t : List (Nat × T)} {A : Act}
theorem cvS_rel {v : Value} {s : S} (h : cvS v = some s) : RelS cx w μ M s v := by
  unfold cvS at h
  split at h <;> first | (injection h with h; subst h) | cases h
  · exact RelV.bool _
  · exact RelV.int _ _
  · exact RelV.nilPtr
  · exact ⟨RelV.nilRow, fun a l cp e => by cases e; rfl⟩
  · exact RelV.nilFn
  · exact RelV.str _
theorem opv_rel (h : Tmps cx w μ M t A) {x : Operand} {y : T} (hy : opv t x = some y) : RelT cx w μ M y (A.eval x) := by
  cases x with
  | tmp i =>
    obtain ⟨u, h1, h2⟩ := h i y hy
    have : A.eval (.tmp i) = u := by simp [Act.eval, h1]
    rw [this]; exact h2
  | const v =>
    simp only [opv, cval] at hy
    cases hc : cvS v with
    | none => rw [hc] at hy; cases hy
    | some s => rw [hc] at hy; injection hy with hy; subst hy; exact cvS_rel hc
  | func f => simp only [opv] at hy; injection hy with hy; subst hy; exact RelV.fn f
  | global g => simp [opv] at hy
theorem opd_rel (h : Tmps cx w μ M t A) {x : Operand} {y : D} (hy : opd t x = some y) : RelD cx w μ M y (A.eval x) := by
  unfold opd at hy
  split at hy
  · rename_i z hz; injection hy with hy; subst hy; exact opv_rel h hz
  · cases hy
theorem ops_rel (h : Tmps cx w μ M t A) {x : Operand} {y : S} (hy : ops t x = some y) : RelS cx w μ M y (A.eval x) := by
  unfold ops at hy
  split at hy
  · rename_i z hz; injection hy with hy; subst hy; exact opv_rel h hz
  · cases hy
theorem opi_rel (h : Tmps cx w μ M t A) {x : Operand} {k : IntKind} {n : Int} (hy : opi t x = some (k, n)) : A.eval x = .int k n := by
  unfold opi at hy
  split at hy
  · rename_i k' n' hz
    injection hy with hy; injection hy with h1 h2; subst h1; subst h2
    exact RelV.int_inv (opv_rel h hz)
  · cases hy
end
theorem opv_congr {t t2 : List (Nat × T)} {x : Operand} (h : ∀ j, x = .tmp j → look t2 j = look t j) : opv t2 x = opv t x := by
  cases x with
  | tmp i => exact h i rfl
  | _ => rfl
theorem opd_congr {t t2 : List (Nat × T)} {x : Operand} (h : ∀ j, x = .tmp j → look t2 j = look t j) : opd t2 x = opd t x := by unfold opd; rw [opv_congr h]
theorem ops_congr {t t2 : List (Nat × T)} {x : Operand} (h : ∀ j, x = .tmp j → look t2 j = look t j) : ops t2 x = ops t x := by unfold ops; rw [opv_congr h]
theorem opi_congr {t t2 : List (Nat × T)} {x : Operand} (h : ∀ j, x = .tmp j → look t2 j = look t j) : opi t2 x = opi t x := by unfold opi; rw [opv_congr h]

/-- An operation that only reckons: it gives x and turns nothing. -/
def PureOK (P : Program) (op : Op) (t : List (Nat × T)) (x : T) : Prop :=
  ∀ t2, (∀ j, Operand.tmp j ∈ op.operands → look t2 j = look t j) → ∀ (cx : Cx) (w : World) μ M (A : Act), Tmps cx w μ M t2 A →
    ∀ o : Oper, o.op = op → ∃ u, (execOp A.eval o).run P w = .ok (.value u) w ∧ RelT cx w μ M x u

/-! move, assign, pick -/
def stMove (t : List (Nat × T)) (x : Operand) (k : T → Tree) : Tree := match opv t x with | some v => k v | none => .fail
theorem stMove_ok {P : Program} {t : List (Nat × T)} {x : Operand} {k : T → Tree} {Q : Ex → St → Prop} {op : Op} (hop : op = .move x ∨ op = .assign x)
    (h : WpT P (stMove t x k) Q) : ∃ y, PureOK P op t y ∧ WpT P (k y) Q := by
  unfold stMove at h
  split at h
  · rename_i v hv
    refine ⟨v, fun t2 ht cx w μ M A hA o ho => ⟨A.eval x, ?_, ?_⟩, h⟩
    · rcases hop with rfl | rfl <;> simp [execOp, ho]
    · refine opv_rel hA ((opv_congr fun j hj => ht j ?_).trans hv)
      subst hj; rcases hop with rfl | rfl <;> simp [Op.operands]
  · exact h.elim

def stPick (t : List (Nat × T)) (c a b : Operand) (k : T → Tree) : Tree :=
  match ops t c with
  | some (.v (.bool x)) => .br x (stMove t a k) (stMove t b k)
  | _ => .fail
theorem stPick_ok {P : Program} {t : List (Nat × T)} {c a b : Operand} {k : T → Tree} {Q : Ex → St → Prop}
    (h : WpT P (stPick t c a b k) Q) : ∃ y, PureOK P (.pick c a b) t y ∧ WpT P (k y) Q := by
  unfold stPick at h
  split at h
  · rename_i x hx
    have hc : ∀ t2, (∀ j, Operand.tmp j ∈ (Op.pick c a b).operands → look t2 j = look t j) → ∀ (cx : Cx) (w : World) μ M (A : Act), Tmps cx w μ M t2 A → A.eval c = .bool x := by
      intro t2 ht cx w μ M A hA
      exact RelV.bool_inv (ops_rel hA ((ops_congr fun j hj => ht j (by subst hj; simp [Op.operands])).trans hx))
    cases x with
    | true =>
      have h' := h.1 rfl
      unfold stMove at h'
      split at h'
      · rename_i v hv
        refine ⟨v, fun t2 ht cx w μ M A hA o ho => ⟨A.eval a, ?_, ?_⟩, h'⟩
        · simp [execOp, ho, hc t2 ht cx w μ M A hA, asBool]
        · exact opv_rel hA ((opv_congr fun j hj => ht j (by subst hj; simp [Op.operands])).trans hv)
      · exact h'.elim
    | false =>
      have h' := h.2 rfl
      unfold stMove at h'
      split at h'
      · rename_i v hv
        refine ⟨v, fun t2 ht cx w μ M A hA o ho => ⟨A.eval b, ?_, ?_⟩, h'⟩
        · simp [execOp, ho, hc t2 ht cx w μ M A hA, asBool]
        · exact opv_rel hA ((opv_congr fun j hj => ht j (by subst hj; simp [Op.operands])).trans hv)
      · exact h'.elim
  · exact h.elim

/-! nilCheck -/
def stNil (t : List (Nat × T)) (x : Operand) (k : T → Tree) : Tree :=
  match ops t x with
  | some (.ptr b off) => k (.d (.sc (.ptr b off)))
  | some (.eptr cs off) => k (.d (.sc (.eptr cs off)))
  | some (.v (.fn f)) => k (.d (.sc (.v (.fn f))))
  | some (.clo f bs) => k (.d (.sc (.clo f bs)))
  | _ => .fail
theorem stNil_ok {P : Program} {t : List (Nat × T)} {x : Operand} {k : T → Tree} {Q : Ex → St → Prop}
    (h : WpT P (stNil t x k) Q) : ∃ y, PureOK P (.nilCheck x) t y ∧ WpT P (k y) Q := by
  have key : ∀ s, ops t x = some s → (∀ (cx : Cx) (w : World) μ M u, RelS cx w μ M s u → (∃ a, u = .pointer (some a)) ∨ ∃ f a b, u = .func (.func f) a b) → PureOK P (.nilCheck x) t (.d (.sc s)) := by
    intro s hs hf t2 ht cx w μ M A hA o ho
    have hr := ops_rel hA ((ops_congr fun j hj => ht j (by subst hj; simp [Op.operands])).trans hs)
    refine ⟨A.eval x, ?_, hr⟩
    rcases hf cx w μ M _ hr with ⟨a, e⟩ | ⟨f, a, b, e⟩ <;> simp [execOp, ho, e]
  unfold stNil at h
  split at h
  · rename_i b off hs
    exact ⟨_, key _ hs (fun cx w μ M u hu => by obtain ⟨k, _, e⟩ := hu; exact .inl ⟨_, e⟩), h⟩
  · rename_i cs off hs
    exact ⟨_, key _ hs (fun cx w μ M u hu => by obtain ⟨a, e, _⟩ := hu; exact .inl ⟨_, e⟩), h⟩
  · rename_i f hs
    exact ⟨_, key _ hs (fun cx w μ M u hu => by cases hu; exact .inr ⟨_, _, _, rfl⟩), h⟩
  · rename_i f bs hs
    exact ⟨_, key _ hs (fun cx w μ M u hu => by obtain ⟨ks, _, _, e⟩ := hu; exact .inr ⟨_, _, _, e⟩), h⟩
  · exact h.elim

/-! unOp -/
def stUn (t : List (Nat × T)) (op : UnOp) (x : Operand) (k : T → Tree) : Tree :=
  match op, ops t x with
  | .not, some (.v (.bool b)) => k (.d (.sc (.v (.bool (!b)))))
  | .neg, some (.v (.int kd n)) => k (.d (.sc (.v (.int kd (kd.wrap (0 - n))))))
  | _, _ => .fail
theorem stUn_ok {P : Program} {t : List (Nat × T)} {op : UnOp} {ty : TypeId} {x : Operand} {k : T → Tree} {Q : Ex → St → Prop}
    (h : WpT P (stUn t op x k) Q) : ∃ y, PureOK P (.unOp op ty x) t y ∧ WpT P (k y) Q := by
  unfold stUn at h
  split at h
  · rename_i b hs
    refine ⟨_, fun t2 ht cx w μ M A hA o ho => ⟨.bool (!b), ?_, mkBool _⟩, h⟩
    have hr := ops_rel hA ((ops_congr fun j hj => ht j (by subst hj; simp [Op.operands])).trans hs)
    have e : A.eval x = .bool b := RelV.bool_inv hr
    simp [execOp, ho, e, Op.unary]
  · rename_i kd n hs
    refine ⟨_, fun t2 ht cx w μ M A hA o ho => ⟨.int kd (kd.wrap (0 - n)), ?_, mkInt _ _⟩, h⟩
    have hr := ops_rel hA ((ops_congr fun j hj => ht j (by subst hj; simp [Op.operands])).trans hs)
    have e : A.eval x = .int kd n := RelV.int_inv hr
    simp [execOp, ho, e, Op.unary, Op.intArith]
  · exact h.elim

/-! binOp -/
def eqCells : List S → List S → Option Bool
  | [], [] => some true
  | .v (.int k a) :: l, .v (.int k' b) :: l' => if k = k' then match eqCells l l' with | some r => some ((a == b) && r) | none => none else none
  | .v (.bool a) :: l, .v (.bool b) :: l' => match eqCells l l' with | some r => some ((a == b) && r) | none => none
  | _, _ => none

def binI (op : BinOp) (kd : IntKind) (a b : Int) (k : V → Tree) : Tree :=
  match op with
  | .add => k (.int kd (kd.wrap (a + b)))
  | .sub => k (.int kd (kd.wrap (a - b)))
  | .mul => k (.int kd (kd.wrap (a * b)))
  | .quo => .chk (b ≠ 0) (k (.int kd (kd.wrap (a.tdiv b))))
  | .rem => .chk (b ≠ 0) (k (.int kd (a.tmod b)))
  | .and => k (.int kd (bits .and kd a b))
  | .or => k (.int kd (bits .or kd a b))
  | .xor => k (.int kd (bits .xor kd a b))
  | .andNot => k (.int kd (bits .andNot kd a b))
  | .eql => k (.bool (a == b))
  | .neq => k (.bool (a != b))
  | .lss => k (.bool (decide (a < b)))
  | .leq => k (.bool (decide (a ≤ b)))
  | .gtr => k (.bool (decide (a > b)))
  | .geq => k (.bool (decide (a ≥ b)))
  | _ => .fail

def isNilSlice : Operand → Bool
  | .const (.slice none 0 0) => true
  | _ => false
def nilOf (op : BinOp) (n : Nat) (k : T → Tree) : Tree :=
  match op with
  | .eql => k (.d (.sc (.ub (n = 0))))
  | _ => .fail

def stBin (ti : TypeId → Option TI) (t : List (Nat × T)) (op : BinOp) (ty : TypeId) (x y : Operand) (k : T → Tree) : Tree :=
  match opd t x, opd t y with
  | some (.sc (.v (.int k1 a))), some (.sc (.v (.int k2 b))) =>
    match op with
    | .shl => .chk (0 ≤ b) (k (.d (.sc (.v (.int k1 (k1.wrap (a * 2 ^ (min b.toNat k1.bits))))))))
    | .shr => .chk (0 ≤ b) (k (.d (.sc (.v (.int k1 (a.fdiv (2 ^ (min b.toNat k1.bits))))))))
    | op => if k1 = k2 then binI op k1 a b fun v => k (.d (.sc (.v v))) else .fail
  | some (.sc (.v (.bool a))), some (.sc (.v (.bool b))) =>
    match ti ty with
    | some ⟨_, _, _, _, _, .bool⟩ => match op with
      | .eql => k (.d (.sc (.v (.bool (a == b)))))
      | .neq => k (.d (.sc (.v (.bool (!(a == b))))))
      | _ => .fail
    | _ => .fail
  | some (.agg l), some (.agg l') =>
    match ti ty with
    | some ⟨_, _, _, true, z, _⟩ => match eqCells l l', eqCells z l with
      | some r, some _ => match op with
        | .eql => k (.d (.sc (.v (.bool r))))
        | .neq => k (.d (.sc (.v (.bool (!r)))))
        | _ => .fail
      | _, _ => .fail
    | _ => .fail
  | some (.sc (.v (.row cs n))), _ => match ti ty with
    | some ⟨_, _, _, _, _, .slice _⟩ => if isNilSlice y then nilOf op n k else .fail
    | _ => .fail
  | some (.sc (.xrow cs n)), _ => match ti ty with
    | some ⟨_, _, _, _, _, .slice _⟩ => if isNilSlice y then nilOf op n k else .fail
    | _ => .fail
  | some (.sc (.mrow b off n sp es ex)), _ => match ti ty with
    | some ⟨_, _, _, _, _, .slice _⟩ => if isNilSlice y then nilOf op n k else .fail
    | _ => .fail
  | _, _ => .fail

theorem binI_ok {P : Program} {op : BinOp} {kd : IntKind} {a b : Int} {k : V → Tree} {Q : Ex → St → Prop} (hs : op ≠ .shl) (hs' : op ≠ .shr)
    (h : WpT P (binI op kd a b k) Q) : ∃ v, (∀ ty w, ∃ u, (binOp op ty (.int kd a) (.int kd b)).run P w = .ok u w ∧ ∀ M, RelV w M v u) ∧ WpT P (k v) Q := by
  cases op <;> simp only [binI] at h <;> first | exact h.elim | exact absurd rfl hs | exact absurd rfl hs' | skip
  case quo =>
    obtain ⟨h0, h⟩ := h
    exact ⟨_, fun ty w => ⟨_, by rw [binOp_quo]; simp [Op.intDiv, h0], fun M => RelV.int _ _⟩, h⟩
  case rem =>
    obtain ⟨h0, h⟩ := h
    exact ⟨_, fun ty w => ⟨_, by rw [binOp_rem]; simp [Op.intDiv, h0], fun M => RelV.int _ _⟩, h⟩
  case eql => exact ⟨_, fun ty w => ⟨_, by rw [binOp_eql]; rfl, fun M => RelV.bool _⟩, h⟩
  case neq => exact ⟨_, fun ty w => ⟨_, by rw [binOp_neq]; rfl, fun M => RelV.bool _⟩, h⟩
  case lss => exact ⟨_, fun ty w => ⟨_, by rw [binOp_lss]; rfl, fun M => RelV.bool _⟩, h⟩
  case leq => exact ⟨_, fun ty w => ⟨_, by rw [binOp_leq]; rfl, fun M => RelV.bool _⟩, h⟩
  case gtr => exact ⟨_, fun ty w => ⟨_, by rw [binOp_gtr]; rfl, fun M => RelV.bool _⟩, h⟩
  case geq => exact ⟨_, fun ty w => ⟨_, by rw [binOp_geq]; rfl, fun M => RelV.bool _⟩, h⟩
  all_goals exact ⟨_, fun ty w => ⟨_, by simp only [binOp_add, binOp_sub, binOp_mul, binOp_and, binOp_or, binOp_xor, binOp_andNot, Op.intArith, intBits_and, intBits_or, intBits_xor, intBits_andNot]; rfl, fun M => RelV.int _ _⟩, h⟩

theorem eqCells_sound {cx : Cx} {w : World} {μ : Nat → Option (Option Nat)} {M : Nat → Prop} : ∀ {l l' : List S} {r : Bool} {us vs : List Value}, eqCells l l' = some r →
    us.length = l.length → vs.length = l'.length → (∀ (i : Nat) x, l[i]? = some x → ∃ u, us[i]? = some u ∧ RelS cx w μ M x u) → (∀ (i : Nat) x, l'[i]? = some x → ∃ u, vs[i]? = some u ∧ RelS cx w μ M x u) → listEq us vs = r := by
  intro l
  induction l with
  | nil =>
    intro l' r us vs h h1 h2 _ _
    cases l' with
    | nil =>
      simp only [eqCells] at h; injection h with h; subst h
      have : us = [] := List.eq_nil_of_length_eq_zero h1
      subst this; simp [listEq]
    | cons => simp [eqCells] at h
  | cons s l ih =>
    intro l' r us vs h h1 h2 hu hv
    cases l' with
    | nil => cases s <;> simp [eqCells] at h
    | cons s' l' =>
      cases us with
      | nil => simp at h1
      | cons u us =>
        cases vs with
        | nil => simp at h2
        | cons v vs =>
          have hu0 := hu 0 s (by simp)
          have hv0 := hv 0 s' (by simp)
          simp at hu0 hv0
          have hu' : ∀ (i : Nat) x, l[i]? = some x → ∃ u, us[i]? = some u ∧ RelS cx w μ M x u := fun i x hi => by simpa using hu (i + 1) x (by simpa using hi)
          have hv' : ∀ (i : Nat) x, l'[i]? = some x → ∃ u, vs[i]? = some u ∧ RelS cx w μ M x u := fun i x hi => by simpa using hv (i + 1) x (by simpa using hi)
          unfold eqCells at h
          split at h
          · cases ‹_ :: _ = []›
          · rename_i k a l1 k' b l1' e1 e2
            injection e1 with e1 e1'; injection e2 with e2 e2'
            subst e1; subst e2; subst e1'; subst e2'
            split at h
            · split at h
              · rename_i r' hr'
                injection h with h; subst h
                cases hu0; cases hv0
                simp only [listEq, cellEq]
                rw [ih hr' (by simpa using h1) (by simpa using h2) hu' hv']
              · cases h
            · cases h
          · rename_i a l1 b l1' e1 e2
            injection e1 with e1 e1'; injection e2 with e2 e2'
            subst e1; subst e2; subst e1'; subst e2'
            split at h
            · rename_i r' hr'
              injection h with h; subst h
              cases hu0; cases hv0
              simp only [listEq, cellEq]
              rw [ih hr' (by simpa using h1) (by simpa using h2) hu' hv']
            · cases h
          · cases h

theorem eqCells_fit {cx : Cx} {w : World} {μ : Nat → Option (Option Nat)} {M : Nat → Prop} : ∀ {zs l : List S} {r : Bool} {ks : List (Option IntKind)} {zv us : List Value}, eqCells zs l = some r → listFit ks zv → mapO cvS zv = some zs →
    us.length = l.length → (∀ (i : Nat) x, l[i]? = some x → ∃ u, us[i]? = some u ∧ RelS cx w μ M x u) → listFit ks us := by
  intro zs
  induction zs with
  | nil =>
    intro l r ks zv us h hf hz hl hu
    cases l with
    | cons => simp [eqCells] at h
    | nil =>
      have : us = [] := List.eq_nil_of_length_eq_zero hl
      subst this
      obtain ⟨h1, _⟩ := mapO_get hz
      have : zv = [] := List.eq_nil_of_length_eq_zero h1
      subst this
      exact hf
  | cons s zs ih =>
    intro l r ks zv us h hf hz hl hu
    cases zv with
    | nil => simp [mapO] at hz
    | cons z zv =>
      simp only [mapO] at hz
      split at hz
      · cases hz
      · rename_i y hy
        split at hz
        · cases hz
        · rename_i ys hys
          injection hz with hz; injection hz with hz1 hz2; subst hz1; subst hz2
          cases ks with
          | nil => exact hf.elim
          | cons kk ks =>
            cases l with
            | nil => cases y <;> simp [eqCells] at h
            | cons s' l =>
              cases us with
              | nil => simp at hl
              | cons u us =>
                have hu0 := hu 0 s' (by simp)
                simp at hu0
                have hu' : ∀ (i : Nat) x, l[i]? = some x → ∃ u, us[i]? = some u ∧ RelS cx w μ M x u := fun i x hi => by simpa using hu (i + 1) x (by simpa using hi)
                unfold eqCells at h
                split at h
                · cases ‹_ :: _ = []›
                · rename_i k a l1 k' b l1' e1 e2
                  injection e1 with e1 e1'; injection e2 with e2 e2'
                  subst e1; subst e2; subst e1'; subst e2'
                  split at h
                  · rename_i hk
                    split at h
                    · rename_i r' hr'
                      cases hu0
                      refine ⟨?_, ih hr' hf.2 hys (by simpa using hl) hu'⟩
                      have hz0 := hf.1
                      unfold cvS at hy
                      split at hy <;> first | cases hy | skip
                      cases kk with
                      | none => obtain ⟨b', hb'⟩ := hz0; cases hb'
                      | some k2 => obtain ⟨n2, hn2⟩ := hz0; injection hn2 with q1 q2; subst q1; subst hk; exact ⟨b, rfl⟩
                    · cases h
                  · cases h
                · rename_i a l1 b l1' e1 e2
                  injection e1 with e1 e1'; injection e2 with e2 e2'
                  subst e1; subst e2; subst e1'; subst e2'
                  split at h
                  · rename_i r' hr'
                    cases hu0
                    refine ⟨?_, ih hr' hf.2 hys (by simpa using hl) hu'⟩
                    have hz0 := hf.1
                    unfold cvS at hy
                    split at hy <;> first | cases hy | skip
                    cases kk with
                    | none => exact ⟨b, rfl⟩
                    | some k2 => obtain ⟨n2, hn2⟩ := hz0; cases hn2
                  · cases h
                · cases h

theorem eqCells_fit2 {cx : Cx} {w : World} {μ : Nat → Option (Option Nat)} {M : Nat → Prop} : ∀ {l l' : List S} {r : Bool} {ks : List (Option IntKind)} {us vs : List Value}, eqCells l l' = some r → listFit ks us →
    us.length = l.length → vs.length = l'.length → (∀ (i : Nat) x, l[i]? = some x → ∃ u, us[i]? = some u ∧ RelS cx w μ M x u) → (∀ (i : Nat) x, l'[i]? = some x → ∃ u, vs[i]? = some u ∧ RelS cx w μ M x u) → listFit ks vs := by
  intro l
  induction l with
  | nil =>
    intro l' r ks us vs h hf h1 h2 _ _
    cases l' with
    | nil =>
      have a : us = [] := List.eq_nil_of_length_eq_zero h1
      have b : vs = [] := List.eq_nil_of_length_eq_zero h2
      subst a; subst b; exact hf
    | cons => simp [eqCells] at h
  | cons s l ih =>
    intro l' r ks us vs h hf h1 h2 hu hv
    cases l' with
    | nil => cases s <;> simp [eqCells] at h
    | cons s' l' =>
      cases us with
      | nil => simp at h1
      | cons u us =>
        cases vs with
        | nil => simp at h2
        | cons v vs =>
          cases ks with
          | nil => exact hf.elim
          | cons kk ks =>
            have hu0 := hu 0 s (by simp)
            have hv0 := hv 0 s' (by simp)
            simp at hu0 hv0
            have hu' : ∀ (i : Nat) x, l[i]? = some x → ∃ u, us[i]? = some u ∧ RelS cx w μ M x u := fun i x hi => by simpa using hu (i + 1) x (by simpa using hi)
            have hv' : ∀ (i : Nat) x, l'[i]? = some x → ∃ u, vs[i]? = some u ∧ RelS cx w μ M x u := fun i x hi => by simpa using hv (i + 1) x (by simpa using hi)
            unfold eqCells at h
            split at h
            · cases ‹_ :: _ = []›
            · rename_i k a l1 k' b l1' e1 e2
              injection e1 with e1 e1'; injection e2 with e2 e2'
              subst e1; subst e2; subst e1'; subst e2'
              split at h
              · rename_i hk
                subst hk
                split at h
                · rename_i r' hr'
                  cases hu0; cases hv0
                  refine ⟨?_, ih hr' hf.2 (by simpa using h1) (by simpa using h2) hu' hv'⟩
                  have := hf.1
                  cases kk with
                  | none => obtain ⟨b', hb'⟩ := this; cases hb'
                  | some k2 => obtain ⟨n2, hn2⟩ := this; injection hn2 with q1 q2; subst q1; exact ⟨b, rfl⟩
                · cases h
              · cases h
            · rename_i a l1 b l1' e1 e2
              injection e1 with e1 e1'; injection e2 with e2 e2'
              subst e1; subst e2; subst e1'; subst e2'
              split at h
              · rename_i r' hr'
                cases hu0; cases hv0
                refine ⟨?_, ih hr' hf.2 (by simpa using h1) (by simpa using h2) hu' hv'⟩
                have := hf.1
                cases kk with
                | none => exact ⟨b, rfl⟩
                | some k2 => obtain ⟨n2, hn2⟩ := this; cases hn2
              · cases h
            · cases h
end Gx
