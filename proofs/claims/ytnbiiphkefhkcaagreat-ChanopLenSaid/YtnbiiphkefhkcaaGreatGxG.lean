import Derived.Test.YtnbiiphkefhkcaaGreatGxF
set_option linter.unusedVariables false
set_option linter.unusedSimpArgs false
namespace Gx
open Go

section
variable {P : Program} {ti : TypeId → Option TI} (hti : ∀ t x, ti t = some x → TIok P t x) {t : List (Nat × T)} {k : T → Tree} {Q : Ex → St → Prop}

theorem run_sizeT {x : TI} {ty : TypeId} (h : TIok P ty x) (w : World) : (Go.sizeOf ty).run P w = .ok x.size w := by
  obtain ⟨i, z, hi, hs, _⟩ := h.info
  simp [Go.sizeOf, typeInfo, hi, hs]
theorem run_infoT {x : TI} {ty : TypeId} (h : TIok P ty x) (w : World) : ∃ i, (typeInfo ty).run P w = .ok i w ∧ i.bytes = x.bytes ∧ i.size = x.size := by
  obtain ⟨i, z, hi, hs, hb, _⟩ := h.info
  exact ⟨i, by simp [typeInfo, hi], hb, hs⟩
/-- The zero value of a type. -/
theorem run_zeroT {x : TI} {ty : TypeId} (h : TIok P ty x) : ∃ z : Value, (∀ w, (zeroValue ty).run P w = .ok z w) ∧ z.cells.size = x.size ∧ z.cells.size = x.zero.length ∧
    (∀ (cx : Cx) (w : World) μ M, RelL cx w μ M x.zero z.cells) ∧ (z = .agg z.cells ∨ z.cells = #[z]) := by
  obtain ⟨i, z, hi, hs, hb, hz, hm, hl, hf⟩ := h.info
  obtain ⟨h1, h2⟩ := mapO_get hm
  refine ⟨z, fun w => by simp [zeroValue, typeInfo, hi, hz], by rw [← hl, ← h1]; simp, by rw [← h1]; simp, fun cx w μ M j s hj => ?_, ?_⟩
  · obtain ⟨v, hv, hc⟩ := h2 j s hj
    exact ⟨v, by simpa using hv, cvS_rel hc⟩
  · rcases hf with hf | ⟨u, rfl, hf⟩
    · exact .inl hf
    · exact .inr hf

/-! convert -/
def stConv (ti : TypeId → Option TI) (t : List (Nat × T)) (src dst : TypeId) (x : Operand) (k : T → Tree) : Tree :=
  match ops t x, ti src, ti dst with
  | some (.v (.int _ n)), some _, some ⟨_, _, _, _, _, .int kd⟩ => k (.d (.sc (.v (.int kd (kd.wrap n)))))
  | _, _, _ => .fail
include hti in
theorem stConv_ok {src dst : TypeId} {x : Operand} (h : WpT P (stConv ti t src dst x k) Q) : ∃ y, PureOK P (.convert src dst x) t y ∧ WpT P (k y) Q := by
  unfold stConv at h
  split at h
  · rename_i k1 n s a b c d z kd hx hs hd
    refine ⟨_, fun t2 ht cx w μ M A hA o ho => ⟨_, ?_, mkInt _ _⟩, h⟩
    have e : A.eval x = .int k1 n := RelV.int_inv (ops_rel hA ((ops_congr fun j hj => ht j (by subst hj; simp [Op.operands])).trans hx))
    have hu : P.underlying dst = some (.int kd) := (hti _ _ hd).td
    have hsrc : ∃ d, P.underlying src = some d := by
      have := (hti _ _ hs).agg
      unfold isAggB at this
      cases hp : P.underlying src with
      | none => rw [hp] at this; cases this
      | some d => exact ⟨d, rfl⟩
    obtain ⟨ds, hds⟩ := hsrc
    simp only [execOp, ho, e, Sem.run_bind, convert, run_underlying hds, run_underlying hu, Result.andThen_ok]
    cases ds <;> simp [Conv.intToInt]
  · exact h.elim

/-! makeFunc -/
def capO (t : List (Nat × T)) (x : Operand) : Option Nat := match ops t x with | some (.ptr b 0) => some b | _ => none
def stFunc (t : List (Nat × T)) (fn : Fn) (first captured : Array Operand) (k : T → Tree) : Tree :=
  match fn, first.toList, mapO (capO t) captured.toList with
  | .func f, [], some bs => k (.d (.sc (match bs with | [] => .v (.fn f) | _ => .clo f bs)))
  | _, _, _ => .fail
theorem capO_rel {cx : Cx} {w : World} {μ : Nat → Option (Option Nat)} {M : Nat → Prop} {A : Act} (hA : Tmps cx w μ M t A) : ∀ {l : List Operand} {bs : List Nat}, mapO (capO t) l = some bs →
    ∃ ks : List Nat, bs.length = ks.length ∧ (∀ (i b : Nat), bs[i]? = some b → ∃ k, ks[i]? = some k ∧ μ b = some (some k)) ∧ l.map A.eval = ks.map fun k => Value.pointer (some ⟨k, 0, none⟩)
  | [], bs, h => by simp [mapO] at h; subst h; exact ⟨[], rfl, by simp, rfl⟩
  | x :: l, bs, h => by
    simp only [mapO] at h
    split at h
    · cases h
    · rename_i b hb
      split at h
      · cases h
      · rename_i bs' hbs
        injection h with h; subst h
        obtain ⟨ks, h1, h2, h3⟩ := capO_rel hA hbs
        unfold capO at hb
        split at hb
        · rename_i b' hp
          injection hb with hb; subst hb
          obtain ⟨kk, hk, he⟩ := ops_rel hA hp
          refine ⟨kk :: ks, by simp [h1], fun i b hi => ?_, by simp [he, h3]⟩
          cases i with
          | zero => simp at hi; subst hi; exact ⟨kk, by simp, hk⟩
          | succ i => simp at hi; obtain ⟨k', a, c⟩ := h2 i b hi; exact ⟨k', by simpa using a, c⟩
        · cases hb
theorem stFunc_ok {fn : Fn} {first captured : Array Operand} (h : WpT P (stFunc t fn first captured k) Q) : ∃ y, PureOK P (.makeFunc fn first captured) t y ∧ WpT P (k y) Q := by
  unfold stFunc at h
  split at h
  · rename_i fn f bs hf hb
    refine ⟨_, fun t2 ht cx w μ M A hA o ho => ?_, h⟩
    have e0 : first = #[] := by cases first; simp at hf; subst hf; rfl
    subst e0
    have hb2 : mapO (capO t2) captured.toList = some bs := by
      rw [← hb]
      have : ∀ l : List Operand, (∀ x ∈ l, x ∈ captured.toList) → mapO (capO t2) l = mapO (capO t) l := by
        intro l
        induction l with
        | nil => intro _; rfl
        | cons x l ih =>
          intro hl
          have hx : capO t2 x = capO t x := by
            unfold capO
            rw [ops_congr (t := t) (t2 := t2) fun j hj => ht j (by subst hj; simp [Op.operands]; simpa using hl _ (by simp))]
          simp only [mapO, hx, ih fun y hy => hl y (by simp [hy])]
      exact this _ fun x hx => hx
    obtain ⟨ks, h1, h2, h3⟩ := capO_rel hA hb2
    have e1 : captured.map A.eval = (ks.map fun k => Value.pointer (some ⟨k, 0, none⟩)).toArray := by
      apply Array.ext'
      simp [h3]
    refine ⟨.func (.func f) #[] (ks.map fun k => Value.pointer (some ⟨k, 0, none⟩)).toArray, by simp [execOp, ho, Instr.makeFunc, e1], ?_⟩
    cases bs with
    | nil =>
      have : ks = [] := List.eq_nil_of_length_eq_zero h1.symm
      subst this
      exact RelV.fn f
    | cons b bs => exact ⟨ks, h1, h2, rfl⟩
  · exact h.elim

/-! fieldAddr -/
def stFieldAddr (ti : TypeId → Option TI) (t : List (Nat × T)) (st : TypeId) (x : Operand) (f : Nat) (k : T → Tree) : Tree :=
  match ti st, ops t x with
  | some ⟨_, _, _, _, _, .struct fs⟩, some (.ptr b off) => match fs[f]? with
    | some (o, _, _) => k (.d (.sc (.ptr b (off + o))))
    | none => .fail
  | some ⟨_, _, _, _, _, .struct fs⟩, some (.eptr cs off) => match fs[f]? with
    | some (o, _, _) => k (.d (.sc (.eptr cs (off + o))))
    | none => .fail
  | _, _ => .fail
theorem run_fieldAt {st : TypeId} {fs : List (Nat × Nat × Bool)} (h : TDok P st (.struct fs)) {f o n : Nat} {ag : Bool} (hf : fs[f]? = some (o, n, ag)) (bl off : Nat) (w : World) :
    (Instr.fieldAt st (.pointer (some ⟨bl, off, none⟩)) f).run P w = .ok (.pointer (some ⟨bl, off + o, none⟩)) w := by
  obtain ⟨fields, hu, hfs⟩ := h
  obtain ⟨_, h2⟩ := mapO_get hfs
  obtain ⟨fd, h3, h4⟩ := h2 f _ hf
  split at h4
  · rename_i i a hi ha
    split at h4
    · cases h4
    · rename_i hne
      injection h4 with h4
      injection h4 with e1 e2
      have hg : fields[f]? = some fd := by simpa using h3
      simp only [Instr.fieldAt, Sem.run_bind, run_underlying hu, Result.andThen_ok]
      simp [hg, Instr.sureAddr, fieldPlace, Go.sizeOf, typeInfo, hi, hne, Addr.add_lit, e1]
  · cases h4
include hti in
theorem stFieldAddr_ok {st : TypeId} {x : Operand} {f : Nat} (h : WpT P (stFieldAddr ti t st x f k) Q) : ∃ y, PureOK P (.fieldAddr st x f) t y ∧ WpT P (k y) Q := by
  unfold stFieldAddr at h
  split at h
  · rename_i a b c d e fs b off hs hx
    split at h
    · rename_i o n ag hf
      refine ⟨_, fun t2 ht cx w μ M A hA o' ho => ?_, h⟩
      obtain ⟨kk, hk, he⟩ := ops_rel hA ((ops_congr fun j hj => ht j (by subst hj; simp [Op.operands])).trans hx)
      exact ⟨_, by simp [execOp, ho, he, run_fieldAt (hti _ _ hs).td hf], ⟨kk, hk, rfl⟩⟩
    · exact h.elim
  · rename_i a b c d e fs cs off hs hx
    split at h
    · rename_i o n ag hf
      refine ⟨_, fun t2 ht cx w μ M A hA o' ho => ?_, h⟩
      obtain ⟨kk, he, hk⟩ := ops_rel hA ((ops_congr fun j hj => ht j (by subst hj; simp [Op.operands])).trans hx)
      exact ⟨.pointer (some ⟨kk.block, kk.off + off + o, none⟩), by simp [execOp, ho, he, run_fieldAt (hti _ _ hs).td hf], ⟨kk, by rw [Nat.add_assoc], hk⟩⟩
    · exact h.elim
  · exact h.elim

/-! cells as a value -/
def mkD (ag : Bool) (l : List S) : Option D :=
  match ag with
  | true => some (.agg l)
  | false => match l with
    | [x] => some (.sc x)
    | _ => none
theorem takeN_spec {α : Type} {l cs : List α} {off n : Nat} (h : takeN l off n = some cs) : off + n ≤ l.length ∧ cs.length = n ∧ ∀ i, i < n → cs[i]? = l[off + i]? := by
  unfold takeN at h
  split at h
  · rename_i hb
    injection h with h
    have hle := Nat.le_of_ble_eq_true hb
    refine ⟨hle, by rw [← h]; simp; omega, fun i hi => ?_⟩
    rw [← h]
    simp [List.getElem?_take, hi]
  · cases h
theorem takeN_get {α : Type} {l cs : List α} {off n : Nat} (h : takeN l off n = some cs) (i : Nat) (x : α) (hi : cs[i]? = some x) : l[off + i]? = some x := by
  obtain ⟨h1, h2, h3⟩ := takeN_spec h
  have : i < n := by rw [← h2]; exact (List.getElem?_eq_some_iff.1 hi).1
  rw [← h3 i this]; exact hi

/-! field -/
def stField (ti : TypeId → Option TI) (t : List (Nat × T)) (st : TypeId) (x : Operand) (f : Nat) (k : T → Tree) : Tree :=
  match ti st, opd t x with
  | some ⟨_, _, _, _, _, .struct fs⟩, some (.agg l) => match fs[f]? with
    | some (o, n, ag) => match takeN l o n with
      | some cs => match mkD ag cs with
        | some d => k (.d d)
        | none => .fail
      | none => .fail
    | none => .fail
  | _, _ => .fail
include hti in
theorem stField_ok {st : TypeId} {x : Operand} {f : Nat} (h : WpT P (stField ti t st x f k) Q) : ∃ y, PureOK P (.field st x f) t y ∧ WpT P (k y) Q := by
  unfold stField at h
  split at h
  · rename_i a b c d e fs l hs hx
    split at h
    · rename_i o n ag hf
      split at h
      · rename_i cs hcs
        split at h
        · rename_i d hd
          refine ⟨_, fun t2 ht cx w μ M A hA o' ho => ?_, h⟩
          obtain ⟨arr, he, hsz, hr⟩ := opd_rel hA ((opd_congr fun j hj => ht j (by subst hj; simp [Op.operands])).trans hx)
          obtain ⟨fields, hu, hfs⟩ := (hti _ _ hs).td
          obtain ⟨_, h2⟩ := mapO_get hfs
          obtain ⟨fd, h3, h4⟩ := h2 f _ hf
          split at h4
          · rename_i i ag' hi ha
            split at h4
            · cases h4
            · rename_i hne
              injection h4 with h4
              injection h4 with e1 e2
              injection e2 with e2 e3
              subst e1; subst e2; subst e3
              have hg : fields[f]? = some fd := by simpa using h3
              obtain ⟨t1, t2', t3⟩ := takeN_spec hcs
              simp only [execOp, ho, he, Instr.field, Sem.run_bind, run_underlying hu, Result.andThen_ok, hg, asAgg, Sem.run_pure, part, run_isAggB ha]
              cases ag' with
              | true =>
                simp only [mkD] at hd
                injection hd with hd; subst hd
                simp only [if_true, Sem.run_bind, Go.sizeOf, typeInfo, run_program, Result.andThen_ok, hi, Sem.run_pure]
                refine ⟨_, rfl, _, rfl, ?_, fun j y hj => ?_⟩
                · simp; omega
                · obtain ⟨u, h5, h6⟩ := hr _ _ (takeN_get hcs j y hj)
                  have hjn : j < i.size := by rw [← t2']; exact (List.getElem?_eq_some_iff.1 hj).1
                  exact ⟨u, by rw [Array.getElem?_extract]; simp; exact ⟨by omega, h5⟩, h6⟩
              | false =>
                simp only [mkD] at hd
                split at hd
                · rename_i y
                  injection hd with hd; subst hd
                  obtain ⟨u, h5, h6⟩ := hr _ _ (takeN_get hcs 0 y (by simp))
                  simp only [Bool.false_eq_true, if_false]
                  rw [Nat.add_zero] at h5
                  rw [h5]
                  exact ⟨u, rfl, h6⟩
                · cases hd
          · cases h4
        · exact h.elim
      · exact h.elim
    · exact h.elim
  · exact h.elim

/-! indexAddr -/
def stIndexAddr (ti : TypeId → Option TI) (t : List (Nat × T)) (ty : TypeId) (x ix : Operand) (k : T → Tree) : Tree :=
  match ti ty, opi t ix with
  | some ⟨_, _, _, _, _, .slice e⟩, some (_, i) => match ti e, ops t x with
    | some ei, some (.v (.row cs n)) => .chk (0 ≤ i ∧ i < (n : Int)) (k (.d (.sc (.eptr cs (i.toNat * ei.size)))))
    | some ei, some (.xrow cs n) => .chk (0 ≤ i ∧ i < (n : Int)) (k (.d (.sc (.eptr cs (i.toNat * ei.size)))))
    | some ei, some (.mrow b off n _ _ _) => .chk (0 ≤ i ∧ i < (n : Int)) (k (.d (.sc (.ptr b (off + i.toNat * ei.size)))))
    | _, _ => .fail
  | some ⟨_, _, _, _, _, .arr n e⟩, some (_, i) => match ti e, ops t x with
    | some ei, some (.ptr b off) => .chk (0 ≤ i ∧ i < (n : Int)) (k (.d (.sc (.ptr b (off + i.toNat * ei.size)))))
    | some ei, some (.eptr cs off) => .chk (0 ≤ i ∧ i < (n : Int)) (k (.d (.sc (.eptr cs (off + i.toNat * ei.size)))))
    | _, _ => .fail
  | _, _ => .fail
theorem addr_add (a : Addr) (hs : a.spot = none) (n : Nat) : a.add n = ⟨a.block, a.off + n, none⟩ := by
  obtain ⟨b, o, s⟩ := a
  have hs' : s = none := hs
  subst hs'
  exact Addr.add_lit b o n
theorem run_indexAt {ty e : TypeId} (hu : P.underlying ty = some (.slice e)) {ei : TI} (he : TIok P e ei) (a : Addr) (n c : Nat) (kd : IntKind) (i : Int) (h0 : 0 ≤ i) (h1 : i < n) (w : World) :
    (Instr.indexAt ty (.slice (some a) n c) (.int kd i)).run P w = .ok (.pointer (some (a.add (i.toNat * ei.size)))) w := by
  simp only [Instr.indexAt, asIntOf, Sem.run_bind, Sem.run_pure, Result.andThen_ok, run_underlying hu]
  rw [if_pos ⟨h0, h1⟩]
  simp [run_sizeT he]
theorem run_indexAtA {ty e : TypeId} {n : Nat} (hu : P.underlying ty = some (.array n e)) {ei : TI} (he : TIok P e ei) (a : Addr) (kd : IntKind) (i : Int) (h0 : 0 ≤ i) (h1 : i < n) (w : World) :
    (Instr.indexAt ty (.pointer (some a)) (.int kd i)).run P w = .ok (.pointer (some (a.add (i.toNat * ei.size)))) w := by
  simp only [Instr.indexAt, asIntOf, Sem.run_bind, Sem.run_pure, Result.andThen_ok, run_underlying hu, Instr.sureAddr]
  rw [if_pos ⟨h0, h1⟩]
  simp [run_sizeT he]
theorem row_at {w : World} {M : Nat → Prop} {cs : List V} {n : Nat} {u : Value} (h : RelV w M (.row cs n) u) (hn : 0 < n) : ∃ a cap, u = .slice (some a) n cap ∧ n ≤ cap ∧ a.spot = none ∧ RowAt w M cs a := by
  cases h with
  | nilRow => omega
  | row cs n a cap vals hn hl ha hc hr =>
    exact ⟨a, cap, rfl, hn, (ha (hl (by omega))).1, fun hne => (ha hne).2, fun i x hi => ⟨_, hc i x hi, hr i x hi⟩⟩
include hti in
theorem stIndexAddr_ok {ty : TypeId} {x ix : Operand} (h : WpT P (stIndexAddr ti t ty x ix k) Q) : ∃ y, PureOK P (.indexAddr ty x ix) t y ∧ WpT P (k y) Q := by
  have cg : ∀ t2, (∀ j, Operand.tmp j ∈ (Op.indexAddr ty x ix).operands → look t2 j = look t j) → ops t2 x = ops t x ∧ opi t2 ix = opi t ix := fun t2 ht =>
    ⟨ops_congr fun j hj => ht j (by subst hj; simp [Op.operands]), opi_congr fun j hj => ht j (by subst hj; simp [Op.operands])⟩
  -- an element of a row of values
  have rowcase : ∀ (e : TypeId) (ei : TI) (kd : IntKind) (i : Int) (cs : List V) (n : Nat), TDok P ty (.slice e) → TIok P e ei → opi t ix = some (kd, i) → 0 ≤ i → i < (n : Int) →
      (∀ (cx : Cx) (w : World) μ M (A : Act), ∀ t2, (∀ j, Operand.tmp j ∈ (Op.indexAddr ty x ix).operands → look t2 j = look t j) → Tmps cx w μ M t2 A → RelV w M (.row cs n) (A.eval x)) →
      PureOK P (.indexAddr ty x ix) t (.d (.sc (.eptr cs (i.toNat * ei.size)))) := by
    intro e ei kd i cs n hty hei hix h0 h1 hx t2 ht cx w μ M A hA o ho
    have ei' := opi_rel hA ((cg t2 ht).2.trans hix)
    obtain ⟨a, cap, ea, _, hsp, hr⟩ := row_at (hx cx w μ M A t2 ht hA) (by omega)
    exact ⟨.pointer (some (a.add (i.toNat * ei.size))), by simp [execOp, ho, ei', ea, run_indexAt hty hei a n cap kd i h0 h1], a, by rw [addr_add a hsp], hr⟩
  unfold stIndexAddr at h
  split at h
  · rename_i q1 q2 q3 q4 q5 e kd i hs hix
    have hty : TDok P ty (.slice e) := (hti _ _ hs).td
    split at h
    · rename_i ei cs n he hx
      obtain ⟨⟨h0, h1⟩, h⟩ := h
      exact ⟨_, rowcase e ei kd i cs n hty (hti _ _ he) hix h0 h1 fun cx w μ M A t2 ht hA => ops_rel hA ((cg t2 ht).1.trans hx), h⟩
    · rename_i ei cs n he hx
      obtain ⟨⟨h0, h1⟩, h⟩ := h
      exact ⟨_, rowcase e ei kd i cs n hty (hti _ _ he) hix h0 h1 fun cx w μ M A t2 ht hA => (ops_rel hA ((cg t2 ht).1.trans hx)).1, h⟩
    · rename_i ei b off n sp es ex he hx
      obtain ⟨⟨h0, h1⟩, h⟩ := h
      refine ⟨_, fun t2 ht cx w μ M A hA o ho => ?_, h⟩
      have ei' := opi_rel hA ((cg t2 ht).2.trans hix)
      rcases ops_rel hA ((cg t2 ht).1.trans hx) with ⟨hn0, _⟩ | ⟨kk, cap, hk, hu, _⟩
      · omega
      · exact ⟨.pointer (some ⟨kk, off + i.toNat * ei.size, none⟩), by simp [execOp, ho, ei', hu, run_indexAt hty (hti _ _ he) _ n cap kd i h0 h1, Addr.add_lit], kk, hk, rfl⟩
    · exact h.elim
  · rename_i q1 q2 q3 q4 q5 n e kd i hs hix
    have hty : P.underlying ty = some (.array n e) := (hti _ _ hs).td
    split at h
    · rename_i ei b off he hx
      obtain ⟨⟨h0, h1⟩, h⟩ := h
      refine ⟨_, fun t2 ht cx w μ M A hA o ho => ?_, h⟩
      have ei' := opi_rel hA ((cg t2 ht).2.trans hix)
      obtain ⟨kk, hk, hu⟩ := ops_rel hA ((cg t2 ht).1.trans hx)
      exact ⟨.pointer (some ⟨kk, off + i.toNat * ei.size, none⟩), by simp [execOp, ho, ei', hu, run_indexAtA hty (hti _ _ he) _ kd i h0 h1, Addr.add_lit], kk, hk, rfl⟩
    · rename_i ei cs off he hx
      obtain ⟨⟨h0, h1⟩, h⟩ := h
      refine ⟨_, fun t2 ht cx w μ M A hA o ho => ?_, h⟩
      have ei' := opi_rel hA ((cg t2 ht).2.trans hix)
      obtain ⟨a, hu, hr⟩ := ops_rel hA ((cg t2 ht).1.trans hx)
      exact ⟨.pointer (some ⟨a.block, a.off + off + i.toNat * ei.size, none⟩), by simp [execOp, ho, ei', hu, run_indexAtA hty (hti _ _ he) _ kd i h0 h1, Addr.add_lit], a, by rw [Nat.add_assoc], hr⟩
    · exact h.elim
  · exact h.elim

/-! a byte of a constant string -/
def stIndexStr (ti : TypeId → Option TI) (t : List (Nat × T)) (ty : TypeId) (x i : Operand) (k : T → Tree) : Tree :=
  match ti ty, x, opi t i with
  | some ⟨_, _, _, _, _, .str⟩, .const (.string s), some (_, n) => .chk (0 ≤ n ∧ n.toNat < s.data.size) (k (.d (.sc (.v (.int .u8 (((s.data[n.toNat]?).getD 0).toNat : Int))))))
  | _, _, _ => .fail
include hti in
theorem stIndexStr_ok {ty : TypeId} {x i : Operand} (h : WpT P (stIndexStr ti t ty x i k) Q) : ∃ y, PureOK P (.index ty x i) t y ∧ WpT P (k y) Q := by
  unfold stIndexStr at h
  split at h
  · rename_i a b c d z s kd n hs hi
    obtain ⟨⟨h0, h1⟩, h⟩ := h
    refine ⟨_, fun t2 ht cx w μ M A hA o ho => ⟨.int .u8 (((s.data[n.toNat]?).getD 0).toNat : Int), ?_, mkInt _ _⟩, h⟩
    have hu : P.underlying ty = some .string := (hti _ _ hs).td
    have ei : A.eval i = .int kd n := opi_rel hA ((opi_congr fun j hj => ht j (by subst hj; simp [Op.operands])).trans hi)
    have hg : s[n.toNat]? = some ((s.data[n.toNat]?).getD 0) := by
      have h2 : n.toNat < s.size := h1
      rw [getElem?_pos s n.toNat h2, Array.getElem?_eq_getElem h1]; rfl
    have ex : A.eval (.const (.string s)) = .string s := rfl
    simp only [execOp, ho, Instr.index, ei, ex, asIntOf, Sem.run_bind, Sem.run_pure, Result.andThen_ok, run_underlying hu, if_pos h0, hg]
  · exact h.elim

/-! extract, len, max, min -/
def stExtract (t : List (Nat × T)) (x : Operand) (i : Nat) (k : T → Tree) : Tree :=
  match opv t x with
  | some (.tup l) => match l[i]? with
    | some d => k (.d d)
    | none => .fail
  | _ => .fail
theorem stExtract_ok {x : Operand} {i : Nat} (h : WpT P (stExtract t x i k) Q) : ∃ y, PureOK P (.extract x i) t y ∧ WpT P (k y) Q := by
  unfold stExtract at h
  split at h
  · rename_i l hx
    split at h
    · rename_i d hd
      refine ⟨_, fun t2 ht cx w μ M A hA o ho => ?_, h⟩
      obtain ⟨arr, he, hs, hr⟩ := opv_rel hA ((opv_congr fun j hj => ht j (by subst hj; simp [Op.operands])).trans hx)
      obtain ⟨u, hu, hd'⟩ := hr i d hd
      exact ⟨u, by simp [execOp, ho, he, Instr.extract, hu], hd'⟩
    · exact h.elim
  · exact h.elim

def lenS : S → Option Nat
  | .v (.row _ n) => some n
  | .xrow _ n => some n
  | .mrow _ _ n _ _ _ => some n
  | _ => none
theorem lenS_rel {cx : Cx} {w : World} {μ : Nat → Option (Option Nat)} {M : Nat → Prop} {s : S} {n : Nat} {u : Value} (h : lenS s = some n) (hu : RelS cx w μ M s u) : ∃ a cap, u = .slice a n cap := by
  unfold lenS at h
  split at h <;> first | (injection h with h; subst h) | cases h
  · obtain ⟨a, cap, e, _⟩ := row_slice hu; exact ⟨a, cap, e⟩
  · obtain ⟨a, cap, e, _⟩ := row_slice hu.1; exact ⟨a, cap, e⟩
  · rcases hu with ⟨rfl, _, _, _, a, e⟩ | ⟨kk, cap, _, e, _⟩
    · exact ⟨a, 0, e⟩
    · exact ⟨_, cap, e⟩
def stLen (ti : TypeId → Option TI) (t : List (Nat × T)) (ts : Array TypeId) (xs : Array Operand) (k : T → Tree) : Tree :=
  match ts.toList, xs.toList with
  | ty :: _, x :: _ => match ti ty, ops t x with
    | some ⟨_, _, _, _, _, .slice _⟩, some s => match lenS s with
      | some n => k (.d (.sc (.v (.int .i64 (n : Int)))))
      | none => .fail
    | _, _ => .fail
  | _, _ => .fail
include hti in
theorem stLen_ok {ts : Array TypeId} {xs : Array Operand} (h : WpT P (stLen ti t ts xs k) Q) : ∃ y, PureOK P (.call { callee := .builtin .len, args := xs, argTypes := ts }) t y ∧ WpT P (k y) Q := by
  unfold stLen at h
  split at h
  · rename_i ty ts' x xs' hts hxs
    split at h
    · rename_i e s hty hx
      split at h
      · rename_i n hn
        refine ⟨_, fun t2 ht cx w μ M A hA o ho => ⟨_, ?_, mkInt _ _⟩, h⟩
        have hx2 : ops t2 x = ops t x := ops_congr fun j hj => ht j (by subst hj; simp only [Op.operands, Call.operands, Array.empty_append]; rw [← Array.mem_toList_iff, hxs]; simp)
        obtain ⟨a, cap, he⟩ := lenS_rel hn (ops_rel hA (hx2.trans hx))
        have h1 : ts = (ty :: ts').toArray := by rw [← hts]
        have h2 : xs = (x :: xs').toArray := by rw [← hxs]
        subst h1; subst h2
        have hu : P.underlying ty = some (.slice e) := (hti _ _ hty).td
        simp [execOp, ho, resolve, invoke, builtin, Builtin.len_, run_underlying hu, he, goInt]
      · exact h.elim
    · exact h.elim
  · exact h.elim

def allI (t : List (Nat × T)) : List Operand → Option (List Int)
  | [] => some []
  | x :: r => match opi t x with
    | some (.i64, n) => match allI t r with
      | some ns => some (n :: ns)
      | none => none
    | _ => none
theorem allI_rel {cx : Cx} {w : World} {μ : Nat → Option (Option Nat)} {M : Nat → Prop} {A : Act} (hA : Tmps cx w μ M t A) : ∀ {l : List Operand} {ns : List Int}, allI t l = some ns → l.map A.eval = ns.map (Value.int .i64)
  | [], ns, h => by simp [allI] at h; subst h; rfl
  | x :: l, ns, h => by
    simp only [allI] at h
    split at h
    · rename_i n hn
      split at h
      · rename_i ns' hns
        injection h with h; subst h
        simp [opi_rel hA hn, allI_rel hA hns]
      · cases h
    · cases h
def stMax (t : List (Nat × T)) (xs : Array Operand) (k : T → Tree) : Tree :=
  match allI t xs.toList with
  | some [a, b] => k (.d (.sc (.v (.int .i64 (if b > a then b else a)))))
  | _ => .fail
def stMin (t : List (Nat × T)) (xs : Array Operand) (k : T → Tree) : Tree :=
  match allI t xs.toList with
  | some [a, b] => k (.d (.sc (.v (.int .i64 (if b < a then b else a)))))
  | _ => .fail
theorem allI_congr {t2 : List (Nat × T)} : ∀ {l : List Operand}, (∀ j, Operand.tmp j ∈ l → look t2 j = look t j) → allI t2 l = allI t l
  | [], _ => rfl
  | x :: l, h => by
    simp only [allI]
    rw [opi_congr (t := t) fun j hj => h j (by simp [hj]), allI_congr fun j hj => h j (by simp [hj])]
theorem stMax_ok {ts : Array TypeId} {xs : Array Operand} (h : WpT P (stMax t xs k) Q) : ∃ y, PureOK P (.call { callee := .builtin .max, args := xs, argTypes := ts }) t y ∧ WpT P (k y) Q := by
  unfold stMax at h
  split at h
  · rename_i a b hx
    refine ⟨_, fun t2 ht cx w μ M A hA o ho => ⟨_, ?_, mkInt _ _⟩, h⟩
    have hx2 : allI t2 xs.toList = some [a, b] := (allI_congr fun j hj => ht j (by simpa [Op.operands, Call.operands] using hj)).trans hx
    have e := allI_rel hA hx2
    have e' : (xs.map A.eval).toList = [.int .i64 a, .int .i64 b] := by simpa using e
    simp only [execOp, ho, resolve, invoke, builtin, Sem.run_bind, Sem.run_pure, Result.andThen_ok, Builtin.max_, e']
    simp [Builtin.max2]
  · exact h.elim
theorem stMin_ok {ts : Array TypeId} {xs : Array Operand} (h : WpT P (stMin t xs k) Q) : ∃ y, PureOK P (.call { callee := .builtin .min, args := xs, argTypes := ts }) t y ∧ WpT P (k y) Q := by
  unfold stMin at h
  split at h
  · rename_i a b hx
    refine ⟨_, fun t2 ht cx w μ M A hA o ho => ⟨_, ?_, mkInt _ _⟩, h⟩
    have hx2 : allI t2 xs.toList = some [a, b] := (allI_congr fun j hj => ht j (by simpa [Op.operands, Call.operands] using hj)).trans hx
    have e := allI_rel hA hx2
    have e' : (xs.map A.eval).toList = [.int .i64 a, .int .i64 b] := by simpa using e
    simp only [execOp, ho, resolve, invoke, builtin, Sem.run_bind, Sem.run_pure, Result.andThen_ok, Builtin.min_, e']
    simp [Builtin.min2]
  · exact h.elim
end
end Gx
