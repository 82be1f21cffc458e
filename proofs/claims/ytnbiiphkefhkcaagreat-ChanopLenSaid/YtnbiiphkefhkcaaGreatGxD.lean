import Derived.Test.YtnbiiphkefhkcaaGreatGxC
set_option linter.unusedVariables false
set_option linter.unusedSimpArgs false
namespace Gx
open Go

/-! ### What is known of types -/
inductive TD where
  | bool
  | int (k : IntKind)
  | slice (e : TypeId)
  | arr (n : Nat) (e : TypeId)
  | struct (fs : List (Nat × Nat × Bool))
  | str
  | other
structure TI where
  size : Nat
  bytes : Nat
  agg : Bool
  eq : Bool
  zero : List S
  und : TD

def cvS : Value → Option S
  | .bool b => some (.v (.bool b))
  | .int k n => some (.v (.int k n))
  | .pointer none => some (.v .nilPtr)
  | .slice none 0 0 => some (.xrow [] 0)
  | .nilFunc => some (.v .nilFn)
  | .string _ => some (.v .str)
  | _ => none

def mapO {α β : Type} (f : α → Option β) : List α → Option (List β)
  | [] => some []
  | x :: r => match f x with
    | none => none
    | some y => match mapO f r with
      | none => none
      | some ys => some (y :: ys)

theorem mapO_get {α β : Type} {f : α → Option β} : ∀ {l : List α} {r : List β}, mapO f l = some r → l.length = r.length ∧ ∀ (i : Nat) (y : β), r[i]? = some y → ∃ x, l[i]? = some x ∧ f x = some y := by
  intro l
  induction l with
  | nil => intro r h; simp [mapO] at h; subst h; simp
  | cons x l ih =>
    intro r h
    simp only [mapO] at h
    split at h
    · cases h
    · rename_i y hy
      split at h
      · cases h
      · rename_i ys hys
        injection h with h; subst h
        obtain ⟨h1, h2⟩ := ih hys
        refine ⟨by simp [h1], fun i z hi => ?_⟩
        cases i with
        | zero => simp at hi; subst hi; exact ⟨x, by simp, hy⟩
        | succ i => simp at hi; obtain ⟨x', h3, h4⟩ := h2 i z hi; exact ⟨x', by simp [h3], h4⟩

def aggD : TypeDesc → Bool
  | .struct _ => true
  | .array _ _ => true
  | _ => false
def isAggB (P : Program) (t : TypeId) : Option Bool := (P.underlying t).map aggD

theorem run_isAggB {P : Program} {t : TypeId} {b : Bool} (h : isAggB P t = some b) (w : World) : (isAgg t).run P w = .ok b w := by
  unfold isAggB at h
  cases hu : P.underlying t with
  | none => rw [hu] at h; cases h
  | some d =>
    rw [hu] at h
    injection h with h
    subst h
    unfold isAgg
    rw [Sem.run_bind, run_underlying hu]
    cases d <;> rfl

def fieldsOK (P : Program) (fs : List Field) : Option (List (Nat × Nat × Bool)) :=
  mapO (fun f => match P.info? f.type, isAggB P f.type with
    | some i, some a => if i.size = 0 then none else some (f.offset, i.size, a)
    | _, _ => none) fs

def TDok (P : Program) (t : TypeId) : TD → Prop
  | .bool => P.underlying t = some .bool
  | .int k => P.underlying t = some (.int k)
  | .slice e => P.underlying t = some (.slice e)
  | .arr n e => P.underlying t = some (.array n e)
  | .struct fs => ∃ fields : Array Field, P.underlying t = some (.struct fields) ∧ fieldsOK P fields.toList = some fs
  | .str => P.underlying t = some .string
  | .other => True

/-! equality of plain structs -/
def cellFit : Option IntKind → Value → Prop
  | none, u => ∃ b, u = .bool b
  | some k, u => ∃ n, u = .int k n
def cellEq : Value → Value → Bool
  | .int _ a, .int _ b => a == b
  | .bool a, .bool b => a == b
  | _, _ => false
def listEq : List Value → List Value → Bool
  | x :: xs, y :: ys => cellEq x y && listEq xs ys
  | _, _ => true
def listFit : List (Option IntKind) → List Value → Prop
  | [], [] => True
  | k :: ks, u :: us => cellFit k u ∧ listFit ks us
  | _, _ => False
theorem listFit_length : ∀ {ks : List (Option IntKind)} {us : List Value}, listFit ks us → us.length = ks.length
  | [], [], _ => rfl
  | _ :: ks, _ :: us, h => by simp [listFit_length h.2]
  | [], _ :: _, h => h.elim
  | _ :: _, [], h => h.elim
theorem listFit_split : ∀ {k1 k2 : List (Option IntKind)} {us : List Value}, listFit (k1 ++ k2) us → ∃ a b, us = a ++ b ∧ listFit k1 a ∧ listFit k2 b
  | [], k2, us, h => ⟨[], us, rfl, trivial, h⟩
  | k :: k1, k2, [], h => h.elim
  | k :: k1, k2, u :: us, h => by
    obtain ⟨a, b, e, ha, hb⟩ := listFit_split (k1 := k1) h.2
    exact ⟨u :: a, b, by simp [e], ⟨h.1, ha⟩, hb⟩
theorem listEq_append : ∀ {a a' b b' : List Value}, a.length = a'.length → listEq (a ++ b) (a' ++ b') = (listEq a a' && listEq b b')
  | [], [], b, b', _ => by simp [listEq]
  | x :: a, y :: a', b, b', h => by
    simp only [List.cons_append, listEq]
    rw [listEq_append (by simpa using h), Bool.and_assoc]
  | [], _ :: _, _, _, h => by simp at h
  | _ :: _, [], _, _, h => by simp at h

mutual
def eqKs (P : Program) : Nat → TypeId → Option (List (Option IntKind))
  | 0, _ => none
  | d + 1, t => match P.underlying t with
    | some .bool => some [none]
    | some (.int k) => some [some k]
    | some (.struct fs) => if P.stoodInHeld t then none else eqFs P d fs.toList 0
    | _ => none
def eqFs (P : Program) : Nat → List Field → Nat → Option (List (Option IntKind))
  | 0, _, _ => none
  | _, [], _ => some []
  | d + 1, f :: fs, off => match eqKs P d f.type with
    | none => none
    | some ks => match eqFs P d fs (off + ks.length) with
      | none => none
      | some rest => if f.name ≠ "_" ∧ f.offset = off ∧ (P.info? f.type).map (·.size) = some ks.length then some (ks ++ rest) else none
end

/-- A value of a type of such cells. -/
def fitT (P : Program) (t : TypeId) (ks : List (Option IntKind)) (u : Value) : Prop :=
  match isAggB P t with
  | some true => ∃ l : List Value, u = .agg l.toArray ∧ listFit ks l
  | _ => ∃ k, ks = [k] ∧ cellFit k u

theorem eq_sound (P : Program) (w : World) : ∀ (n : Nat),
    (∀ t ks, eqKs P n t = some ks → ∀ u v, fitT P t ks u → fitT P t ks v → ∀ m, (Op.equalIn (n + m) t u v).run P w = .ok (listEq u.cells.toList v.cells.toList) w) ∧
    (∀ fs off ks, eqFs P n fs off = some ks → ∀ (a a' b b' c c' : List Value), a.length = off → a'.length = off → listFit ks b → listFit ks b' → ∀ m,
      (Op.eqFields (n + m) (a ++ b ++ c).toArray (a' ++ b' ++ c').toArray fs).run P w = .ok (listEq b b') w) := by
  intro n
  induction n with
  | zero => exact ⟨fun t ks h => by simp [eqKs] at h, fun fs off ks h => by simp [eqFs] at h⟩
  | succ n ih =>
    obtain ⟨ih1, ih2⟩ := ih
    constructor
    · intro t ks h u v hu hv m
      simp only [eqKs] at h
      have hnm : n + 1 + m = (n + m) + 1 := by omega
      rw [hnm]
      cases hd : P.underlying t with
      | none => rw [hd] at h; cases h
      | some d =>
        rw [hd] at h
        cases d <;> simp only [reduceCtorEq] at h
        case bool =>
          injection h with h; subst h
          simp only [fitT, isAggB, hd, Option.map_some, aggD] at hu hv
          obtain ⟨k1, hk1, hu⟩ := hu
          injection hk1 with hk1; subst hk1
          obtain ⟨a, rfl⟩ := hu
          obtain ⟨k2, hk2, hv⟩ := hv
          injection hk2 with hk2; subst hk2
          obtain ⟨b, rfl⟩ := hv
          rw [run_equalIn_bool' w _ t a b hd]
          simp [listEq, Value.cells, cellEq]
        case int k =>
          injection h with h; subst h
          simp only [fitT, isAggB, hd, Option.map_some, aggD] at hu hv
          obtain ⟨k1, hk1, hu⟩ := hu
          injection hk1 with hk1; subst hk1
          obtain ⟨a, rfl⟩ := hu
          obtain ⟨k2, hk2, hv⟩ := hv
          injection hk2 with hk2; subst hk2
          obtain ⟨b, rfl⟩ := hv
          rw [run_equalIn_int w _ t k k a b hd]
          simp [listEq, Value.cells, cellEq]
        case struct fs =>
          split at h
          · cases h
          · rename_i hst
            simp only [fitT, isAggB, hd, Option.map_some, aggD] at hu hv
            obtain ⟨l, rfl, hl⟩ := hu
            obtain ⟨l', rfl, hl'⟩ := hv
            have hf : P.fieldsOf t = fs := by unfold Program.fieldsOf; rw [hd]
            rw [run_equalIn_struct w _ t _ _ (by rw [hf]; exact hd) (by simpa using hst), hf]
            have := ih2 fs.toList 0 ks h [] [] l l' [] [] rfl rfl hl hl' m
            simpa [Value.cells] using this
    · intro fs off ks h a a' b b' c c' ha ha' hb hb' m
      have hnm : n + 1 + m = (n + m) + 1 := by omega
      cases fs with
      | nil =>
        simp only [eqFs] at h
        injection h with h; subst h
        have h1 : b = [] := List.eq_nil_of_length_eq_zero (listFit_length hb)
        have h2 : b' = [] := List.eq_nil_of_length_eq_zero (listFit_length hb')
        subst h1; subst h2
        simp [Op.eqFields, listEq]
      | cons f fs =>
        simp only [eqFs] at h
        split at h
        · cases h
        · rename_i k1 hk1
          split at h
          · cases h
          · rename_i k2 hk2
            split at h
            · rename_i hc
              injection h with h; subst h
              obtain ⟨hname, hoff, hsz⟩ := hc
              obtain ⟨b1, b2, rfl, f1, f2⟩ := listFit_split hb
              obtain ⟨c1, c2, rfl, g1, g2⟩ := listFit_split hb'
              have l1 := listFit_length f1
              have l2 := listFit_length g1
              obtain ⟨i, hi, hsi⟩ : ∃ i, P.info? f.type = some i ∧ i.size = k1.length := by
                cases hi : P.info? f.type with
                | none => rw [hi] at hsz; cases hsz
                | some i => rw [hi] at hsz; injection hsz with hsz; exact ⟨i, rfl, hsz⟩
              -- the part of a field
              have hpart : ∀ (p q r s : List Value), p.length = off → listFit k1 q → ∃ u, (part f.type (p ++ (q ++ r) ++ s).toArray f.offset).run P w = .ok u w ∧ fitT P f.type k1 u ∧ u.cells.toList = q := by
                intro p q r s hp hq
                have hql := listFit_length hq
                cases hag : isAggB P f.type with
                | none =>
                  exfalso
                  unfold isAggB at hag
                  cases hd : P.underlying f.type with
                  | none => cases n <;> simp [eqKs, hd] at hk1
                  | some d => rw [hd] at hag; cases hag
                | some ag =>
                  cases ag with
                  | true =>
                    refine ⟨.agg q.toArray, ?_, ?_, by simp [Value.cells]⟩
                    · unfold part
                      simp only [Sem.run_bind, run_isAggB hag, Result.andThen_ok, if_true, Go.sizeOf, typeInfo, run_program, hi, Sem.run_pure]
                      congr 2
                      rw [hoff, hsi, ← hp]
                      simp [← hql]
                    · simp only [fitT, hag]; exact ⟨q, rfl, hq⟩
                  | false =>
                    have hone : ∃ k u, k1 = [k] ∧ q = [u] := by
                      cases n with
                      | zero => simp [eqKs] at hk1
                      | succ n =>
                        simp only [eqKs] at hk1
                        unfold isAggB at hag
                        cases hd : P.underlying f.type with
                        | none => rw [hd] at hag; cases hag
                        | some d =>
                          rw [hd] at hag hk1
                          cases d <;> simp only [reduceCtorEq] at hk1
                          case bool => injection hk1 with hk1; subst hk1; cases q with
                            | nil => simp at hql
                            | cons u q => cases q with
                              | nil => exact ⟨_, _, rfl, rfl⟩
                              | cons _ _ => simp at hql
                          case int k => injection hk1 with hk1; subst hk1; cases q with
                            | nil => simp at hql
                            | cons u q => cases q with
                              | nil => exact ⟨_, _, rfl, rfl⟩
                              | cons _ _ => simp at hql
                          case struct => simp [aggD] at hag
                    obtain ⟨k, u, rfl, rfl⟩ := hone
                    refine ⟨u, ?_, ?_, ?_⟩
                    · unfold part
                      simp only [Sem.run_bind, run_isAggB hag, Result.andThen_ok, Bool.false_eq_true, if_false]
                      have : (p ++ ([u] ++ r) ++ s).toArray[f.offset]? = some u := by
                        rw [hoff, ← hp]; simp
                      rw [this]; rfl
                    · simp only [fitT, hag]; exact ⟨k, rfl, hq.1⟩
                    · obtain ⟨h1, _⟩ := hq
                      cases k with
                      | none => obtain ⟨x, rfl⟩ := h1; rfl
                      | some k => obtain ⟨x, rfl⟩ := h1; rfl
              obtain ⟨u, hu1, hu2, hu3⟩ := hpart a b1 b2 c ha f1
              obtain ⟨v, hv1, hv2, hv3⟩ := hpart a' c1 c2 c' ha' g1
              have e1 := ih1 f.type k1 hk1 u v hu2 hv2 (1 + m)
              have e2 := ih2 fs (off + k1.length) k2 hk2 (a ++ b1) (a' ++ c1) b2 c2 c c' (by simp [ha, l1]) (by simp [ha', l2]) f2 g2 (1 + m)
              have ee : n + (1 + m) = n + m + 1 := by omega
              rw [ee] at e1 e2
              rw [hnm]
              simp only [Op.eqFields, hname, ne_eq, not_false_eq_true, if_true, Sem.run_bind, hu1, hv1, Result.andThen_ok, e1]
              rw [hu3, hv3]
              rw [listEq_append (l1.trans l2.symm)]
              cases hq : listEq b1 c1 with
              | false => simp
              | true =>
                simp only [Bool.not_true, Bool.false_eq_true, if_false, Bool.true_and]
                have e3 : a ++ (b1 ++ b2) ++ c = a ++ b1 ++ b2 ++ c := by simp
                have e4 : a' ++ (c1 ++ c2) ++ c' = a' ++ c1 ++ c2 ++ c' := by simp
                rw [e3, e4]
                exact e2
            · cases h

structure TIok (P : Program) (t : TypeId) (x : TI) : Prop where
  td : TDok P t x.und
  agg : isAggB P t = some x.agg
  info : ∃ i z, P.info? t = some i ∧ i.size = x.size ∧ i.bytes = x.bytes ∧ i.zero = some z ∧ mapO cvS z.cells.toList = some x.zero ∧ x.zero.length = x.size ∧ (z = .agg z.cells ∨ ∃ u, z = u ∧ z.cells = #[u])
  one : x.agg = false → x.size = 1
  eq : x.eq = true → ∃ ks, eqKs P 20 t = some ks ∧ P.eqGuardType P.depth t = false ∧ x.agg = true ∧ ∃ zl, listFit ks zl ∧ mapO cvS zl = some x.zero

def tdOf (P : Program) : TypeDesc → TD
  | .bool => .bool
  | .int k => .int k
  | .slice e => .slice e
  | .array n e => .arr n e
  | .string => .str
  | .struct fs => match fieldsOK P fs.toList with
    | some l => .struct l
    | none => .other
  | _ => .other

def zeroK : Option IntKind → Value
  | none => .bool false
  | some k => .int k 0
def sameS : List S → List S → Bool
  | [], [] => true
  | .v (.bool a) :: l, .v (.bool b) :: l' => (a == b) && sameS l l'
  | .v (.int k a) :: l, .v (.int k' b) :: l' => decide (k = k') && decide (a = b) && sameS l l'
  | _, _ => false
theorem sameS_eq : ∀ {l l' : List S}, sameS l l' = true → l = l' := by
  intro l l' h
  induction l generalizing l' with
  | nil => cases l' <;> simp [sameS] at h ⊢
  | cons s l ih =>
    unfold sameS at h
    split at h
    · cases ‹_ :: _ = []›
    · rename_i a l1 b l1' e1
      injection e1 with e1 e2; subst e1; subst e2
      simp only [Bool.and_eq_true, beq_iff_eq] at h
      rw [h.1, ih h.2]
    · rename_i a l1 b l1' e1
      injection e1 with e1 e2; subst e1; subst e2
      simp only [Bool.and_eq_true, decide_eq_true_eq] at h
      rw [h.1.1, h.1.2, ih h.2]
    · cases h
theorem zeroK_fit : ∀ ks : List (Option IntKind), listFit ks (ks.map zeroK)
  | [] => trivial
  | none :: ks => ⟨⟨_, rfl⟩, zeroK_fit ks⟩
  | some k :: ks => ⟨⟨_, rfl⟩, zeroK_fit ks⟩
def eqOf (P : Program) (t : TypeId) (d : TypeDesc) (zs : List S) : Bool :=
  match eqKs P 20 t with
  | some ks => !P.eqGuardType P.depth t && aggD d && (match mapO cvS (ks.map zeroK) with | some z => sameS z zs | none => false)
  | none => false

def tiOf (P : Program) (t : TypeId) : Option TI :=
  match P.info? t, P.underlying t with
  | some i, some d => match i.zero with
    | some z => match mapO cvS z.cells.toList with
      | some zs => if zs.length = i.size ∧ (aggD d = false → i.size = 1) then
          some { size := i.size, bytes := i.bytes, agg := aggD d, eq := eqOf P t d zs, zero := zs, und := tdOf P d } else none
      | none => none
    | none => none
  | _, _ => none

theorem tiOf_ok {P : Program} {t : TypeId} {x : TI} (h : tiOf P t = some x) : TIok P t x := by
  unfold tiOf at h
  split at h
  · rename_i i d hi hd
    split at h
    · rename_i z hz
      split at h
      · rename_i zs hzs
        split at h
        · rename_i hl
          injection h with h; subst h
          refine ⟨?_, ?_, ⟨i, z, hi, rfl, rfl, hz, hzs, hl.1, ?_⟩, hl.2, ?_⟩
          · show TDok P t (tdOf P d)
            cases d <;> simp only [tdOf, TDok] <;> first | exact hd | trivial | skip
            rename_i fs
            cases hf : fieldsOK P fs.toList with
            | none => trivial
            | some l => exact ⟨fs, hd, hf⟩
          · unfold isAggB; rw [hd]; rfl
          · cases z <;> first | exact .inl rfl | exact .inr ⟨_, rfl, rfl⟩
          · intro he
            dsimp only at he
            unfold eqOf at he
            split at he
            · rename_i ks hk
              simp only [Bool.and_eq_true, Bool.not_eq_true'] at he
              obtain ⟨⟨h1, h2⟩, h3⟩ := he
              split at h3
              · rename_i z hz
                exact ⟨ks, hk, h1, h2, _, zeroK_fit ks, hz.trans (congrArg some (sameS_eq h3))⟩
              · cases h3
            · cases he
        · cases h
      · cases h
    · cases h
  · cases h
end Gx
