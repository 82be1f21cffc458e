import Derived.Test.YtnbiiphkefhkcaaGreatGxM
set_option linter.unusedVariables false
set_option linter.unusedSimpArgs false
namespace Gx
open Go

/-! ### Which operations come before which -/
def maskE (acc : List Nat) (e : Edge) (m : Nat) : Nat := if Region.binds .any e then 2 ^ e.on ||| acc.getD e.on 0 ||| m else m
def mask (acc : List Nat) (o : Oper) : Nat := o.after.toList.foldr (maskE acc) 0
def befGo : List Oper → List Nat → List Nat
  | [], acc => acc
  | o :: r, acc => befGo r (acc ++ [mask acc o])
def ltOK : List Oper → Nat → Bool
  | [], _ => true
  | o :: r, i => o.after.toList.all (fun e => !Region.binds .any e || Nat.blt e.on i) && ltOK r (i + 1)
def BitB (l : List Oper) (i j : Nat) : Prop := ((befGo l []).getD i 0).testBit j = true

theorem befGo_keep : ∀ (r : List Oper) (acc : List Nat) (i x : Nat), acc[i]? = some x → (befGo r acc)[i]? = some x
  | [], acc, i, x, h => h
  | o :: r, acc, i, x, h => befGo_keep r _ i x (by rw [List.getElem?_append_left (List.getElem?_eq_some_iff.1 h).1]; exact h)
theorem ltOK_get : ∀ {l : List Oper} {k i : Nat} {o : Oper} {e : Edge}, ltOK l k = true → l[i]? = some o → e ∈ o.after → Region.binds .any e = true → e.on < k + i
  | [], k, i, o, e, _, h, _, _ => by simp at h
  | o' :: r, k, 0, o, e, h, hi, he, hb => by
    simp at hi; subst hi
    simp only [ltOK, Bool.and_eq_true, List.all_eq_true] at h
    have := h.1 e (by simpa using he)
    rw [hb] at this
    simp [Nat.blt_eq] at this
    omega
  | o' :: r, k, i + 1, o, e, h, hi, he, hb => by
    simp only [ltOK, Bool.and_eq_true] at h
    have := ltOK_get (k := k + 1) h.2 (by simpa using hi) he hb
    omega
theorem mask_bit {acc : List Nat} {o : Oper} {j : Nat} (h : (mask acc o).testBit j = true) : ∃ e, e ∈ o.after ∧ Region.binds .any e = true ∧ (e.on = j ∨ (acc.getD e.on 0).testBit j = true) := by
  unfold mask at h
  have : ∀ es : List Edge, (es.foldr (maskE acc) 0).testBit j = true → ∃ e, e ∈ es ∧ Region.binds .any e = true ∧ (e.on = j ∨ (acc.getD e.on 0).testBit j = true) := by
    intro es
    induction es with
    | nil => intro h; simp at h
    | cons e es ih =>
      intro h
      simp only [List.foldr_cons, maskE] at h
      split at h
      · rename_i hb
        rw [Nat.testBit_or, Nat.testBit_or, Bool.or_eq_true, Bool.or_eq_true] at h
        rcases h with (h | h) | h
        · rw [Nat.testBit_two_pow] at h
          exact ⟨e, by simp, hb, .inl (by simpa using h)⟩
        · exact ⟨e, by simp, hb, .inr h⟩
        · obtain ⟨e', h1, h2⟩ := ih h
          exact ⟨e', by simp [h1], h2⟩
      · obtain ⟨e', h1, h2⟩ := ih h
        exact ⟨e', by simp [h1], h2⟩
  obtain ⟨e, h1, h2⟩ := this _ h
  exact ⟨e, by simpa using h1, h2⟩
theorem befGo_spec : ∀ (r : List Oper) (acc : List Nat) (i : Nat) (o : Oper), r[i]? = some o → ∃ acc' : List Nat, (befGo r acc)[acc.length + i]? = some (mask acc' o) ∧ ∀ (j x : Nat), acc'[j]? = some x → (befGo r acc)[j]? = some x
  | [], acc, i, o, h => by simp at h
  | o' :: r, acc, 0, o, h => by
    simp at h; subst h
    refine ⟨acc, befGo_keep r _ _ _ (by simp), fun j x hx => befGo_keep r _ j x ?_⟩
    rw [List.getElem?_append_left (List.getElem?_eq_some_iff.1 hx).1]; exact hx
  | o' :: r, acc, i + 1, o, h => by
    obtain ⟨acc', h1, h2⟩ := befGo_spec r (acc ++ [mask acc o']) i o (by simpa using h)
    refine ⟨acc', ?_, h2⟩
    rw [← h1]
    simp only [befGo, List.length_append, List.length_cons, List.length_nil]
    congr 1
    omega

theorem bef_ok {ops : Array Oper} (h : ltOK ops.toList 0 = true) : Bef ops (BitB ops.toList) := by
  refine ⟨fun i o e ho he hb => ?_, fun i j hij => ?_⟩
  · have := ltOK_get h (by simpa using ho) he hb
    omega
  · unfold BitB at hij
    cases ho : ops.toList[i]? with
    | none =>
      exfalso
      have hlen : ∀ (r : List Oper) (acc : List Nat), (befGo r acc).length = acc.length + r.length := by
        intro r
        induction r with
        | nil => intro acc; simp [befGo]
        | cons o r ih => intro acc; simp [befGo, ih]; omega
      have h1 : ops.toList.length ≤ i := by simpa using ho
      rw [List.getD_eq_getElem?_getD, List.getElem?_eq_none (by rw [hlen]; simpa using h1)] at hij
      simp at hij
    | some o =>
      obtain ⟨acc', h1, h2⟩ := befGo_spec ops.toList [] i o ho
      simp only [List.length_nil, Nat.zero_add] at h1
      rw [List.getD_eq_getElem?_getD, h1] at hij
      obtain ⟨e, h3, h4, h5⟩ := mask_bit (by simpa using hij)
      refine ⟨o, e, by simpa using ho, h3, h4, ?_⟩
      rcases h5 with h5 | h5
      · exact .inl h5
      · refine .inr ?_
        unfold BitB
        cases ha : acc'[e.on]? with
        | none => rw [List.getD_eq_getElem?_getD, ha] at h5; simp at h5
        | some x =>
          rw [List.getD_eq_getElem?_getD, ha] at h5
          rw [List.getD_eq_getElem?_getD, h2 _ _ ha]
          simpa using h5

/-! ### May two operations change places? -/
def opTmps (ol : List Oper) (o : Oper) : List Nat :=
  (o.op.operands.toList.filterMap fun | .tmp t => some t | _ => none) ++
  (match o.guard with
   | some (g, _) => match ol[g]? with
     | some o' => o'.dst.toList
     | none => []
   | none => [])
theorem opTmps_eq (ops : Array Oper) (o : Oper) : opTmps ops.toList o = Oper.looksAt ops o := by
  unfold opTmps Oper.looksAt
  congr 1
  cases o.guard with
  | none => rfl
  | some g =>
    obtain ⟨g, w⟩ := g
    simp only [Array.getElem?_toList]
    cases ops[g]? <;> rfl
def inL (n : Nat) : List Nat → Bool
  | [] => false
  | m :: r => Nat.beq m n || inL n r
theorem inL_iff {n : Nat} {l : List Nat} : inL n l = true ↔ n ∈ l := by
  induction l with
  | nil => simp [inL]
  | cons m r ih =>
    simp only [inL, Bool.or_eq_true, ih, List.mem_cons]
    constructor
    · rintro (h | h)
      · exact .inl (Nat.eq_of_beq_eq_true h).symm
      · exact .inr h
    · rintro (rfl | h)
      · exact .inl (Nat.beq_refl _)
      · exact .inr h
def noneOf (d : Option Nat) (l : List Nat) : Bool := match d with | some d => !inL d l | none => true
def namesW : List (Nat × Option Blk) → List Nat
  | [] => []
  | (n, _) :: r => n :: namesW r
theorem namesW_eq (l : List (Nat × Option Blk)) : namesW l = l.map (·.1) := by
  induction l with
  | nil => rfl
  | cons p l ih => obtain ⟨n, b⟩ := p; simp [namesW, ih]
def apart (a b : List Nat) : Bool := a.all fun n => !inL n b
def neD (a b : Option Nat) : Bool := match a, b with | some a, some b => !Nat.beq a b | _, _ => true
def indepB (ol : List Oper) (x y : Nat × Eff) : Bool :=
  match ol[x.1]?, ol[y.1]? with
  | some ox, some oy =>
    noneOf ox.dst (opTmps ol oy) && noneOf oy.dst (opTmps ol ox) && neD ox.dst oy.dst &&
    apart (namesW x.2.wr) y.2.rd && apart (namesW x.2.wr) (namesW y.2.wr) && apart (namesW y.2.wr) x.2.rd
  | _, _ => false
def pairs1 (ol : List Oper) (B : List Nat) (y : Nat × Eff) : List (Nat × Eff) → Bool
  | [] => true
  | x :: r => ((B.getD y.1 0).testBit x.1 || indepB ol x y) && pairs1 ol B y r
/-- L: the operations with what they came to, the last one first. -/
def pairsOK (ol : List Oper) (B : List Nat) : List (Nat × Eff) → Bool
  | [] => true
  | y :: r => pairs1 ol B y r && pairsOK ol B r

theorem apart_iff {a b : List Nat} (h : apart a b = true) : ∀ n, n ∈ a → n ∉ b := by
  unfold apart at h
  rw [List.all_eq_true] at h
  intro n hn hb
  have := h n hn
  rw [inL_iff.2 hb] at this
  cases this
theorem indepB_ok {ops : Array Oper} {x y : Nat × Eff} (hx : x.2.dst.map (·.1) = (ops[x.1]?).bind (·.dst)) (hy : y.2.dst.map (·.1) = (ops[y.1]?).bind (·.dst)) (h : indepB ops.toList x y = true) : Indep ops x y := by
  unfold indepB at h
  split at h
  · rename_i ox oy hox hoy
    simp only [Array.getElem?_toList] at hox hoy
    simp only [Bool.and_eq_true] at h
    obtain ⟨⟨⟨⟨⟨h1, h2⟩, h3⟩, h4⟩, h5⟩, h6⟩ := h
    rw [hox] at hx; rw [hoy] at hy
    simp only [Option.bind_some] at hx hy
    have ty : Oper.tr ops y.1 = opTmps ops.toList oy := by unfold Oper.tr; rw [hoy, opTmps_eq]; rfl
    have tx : Oper.tr ops x.1 = opTmps ops.toList ox := by unfold Oper.tr; rw [hox, opTmps_eq]; rfl
    refine ⟨fun d hd => ⟨?_, ?_⟩, fun d hd => ?_, fun b hb => ⟨?_, ?_⟩, fun b hb => ?_⟩
    · rw [hx] at hd; rw [hd] at h1
      rw [ty]
      intro hm
      simp only [noneOf, inL_iff.2 hm] at h1
      cases h1
    · rw [hy]; intro he
      rw [hx] at hd
      rw [hd, he] at h3
      simp [neD] at h3
    · rw [hy] at hd; rw [hd] at h2
      rw [tx]
      intro hm
      simp only [noneOf, inL_iff.2 hm] at h2
      cases h2
    · exact apart_iff h4 b (by rw [namesW_eq]; exact hb)
    · have := apart_iff h5 b (by rw [namesW_eq]; exact hb)
      rw [namesW_eq] at this; exact this
    · exact apart_iff h6 b (by rw [namesW_eq]; exact hb)
  · cases h

theorem pairs_pw {ops : Array Oper} : ∀ {L : List (Nat × Eff)}, pairsOK ops.toList (befGo ops.toList []) L = true → (∀ x ∈ L, x.2.dst.map (·.1) = (ops[x.1]?).bind (·.dst)) →
    L.reverse.Pairwise fun x y => BitB ops.toList y.1 x.1 ∨ Indep ops x y := by
  intro L
  induction L with
  | nil => intro _ _; simp
  | cons y r ih =>
    intro h hd
    simp only [pairsOK, Bool.and_eq_true] at h
    have h1 : ∀ r' : List (Nat × Eff), pairs1 ops.toList (befGo ops.toList []) y r' = true → (∀ x ∈ r', x.2.dst.map (·.1) = (ops[x.1]?).bind (·.dst)) → ∀ x ∈ r', BitB ops.toList y.1 x.1 ∨ Indep ops x y := by
      intro r'
      induction r' with
      | nil => intro _ _ x hx; cases hx
      | cons z r' ih' =>
        intro hp hd' x hx
        simp only [pairs1, Bool.and_eq_true, Bool.or_eq_true] at hp
        rcases List.mem_cons.1 hx with rfl | hx
        · rcases hp.1 with hb | hi
          · exact .inl hb
          · exact .inr (indepB_ok (hd' _ (by simp)) (hd y (by simp)) hi)
        · exact ih' hp.2 (fun x hx => hd' x (by simp [hx])) x hx
    rw [List.reverse_cons, List.pairwise_append]
    refine ⟨ih h.2 fun x hx => hd x (by simp [hx]), by simp, fun x hx z hz => ?_⟩
    simp at hz; subst hz
    exact h1 r h.1 (fun x hx => hd x (by simp [hx])) x (by simpa using hx)

/-! ### A region -/
def skipE (o : Oper) : Eff := rT o (.tup []) [] []
def St.put (s : St) (q : Nat) (b : Bool) : St := { s with t := (q, .d (.sc (.v (.bool b)))) :: s.t }
def dstOK (o : Oper) (m : Nat) : Bool := match o.dst with | some d => Nat.blt d m | none => true
theorem dstOK_ok {o : Oper} {m : Nat} (h : dstOK o m = true) : dstB o m := by
  intro d hd
  unfold dstOK at h
  rw [hd] at h
  simpa [Nat.blt_eq] using h

def evOps (ti : TypeId → Option TI) (ol : List Oper) : List Oper → Nat → St → List (Nat × Eff) → (List (Nat × Eff) → St → Tree) → Tree
  | [], _, s, L, K => K L s
  | o :: r, i, s, L, K =>
    match dstOK o s.m with
    | false => .fail
    | true => match o.guard with
      | none => stOp ti s (s.nx + 4 * i) o fun e => evOps ti ol r (i + 1) (e.app s) ((i, e) :: L) K
      | some (j, want) => match ol[j]? with
        | some oj => match oj.dst with
          | some q => match look s.t q with
            | some (.d (.sc (.v (.bool b)))) => match want with
              | true => .br b (stOp ti (s.put q true) (s.nx + 4 * i) o fun e => evOps ti ol r (i + 1) (e.app (s.put q true)) ((i, e) :: L) K)
                  (evOps ti ol r (i + 1) ((skipE o).app (s.put q false)) ((i, skipE o) :: L) K)
              | false => .br b (evOps ti ol r (i + 1) ((skipE o).app (s.put q true)) ((i, skipE o) :: L) K)
                  (stOp ti (s.put q false) (s.nx + 4 * i) o fun e => evOps ti ol r (i + 1) (e.app (s.put q false)) ((i, e) :: L) K)
            | some (.tup []) => evOps ti ol r (i + 1) ((skipE o).app s) ((i, skipE o) :: L) K
            | _ => .fail
          | none => .fail
        | none => .fail

section
variable {P : Program} {ti : TypeId → Option TI} (hti : ∀ t x, ti t = some x → TIok P t x) {Q : Ex → St → Prop}

theorem put_eqv {s : St} {q : Nat} {b : Bool} (h : look s.t q = some (.d (.sc (.v (.bool b))))) : Eqv s (s.put q b) := by
  refine ⟨rfl, fun i => ?_, fun _ => rfl⟩
  unfold St.put
  rw [look_cons]
  split
  · rename_i e; subst e; exact h
  · rfl

/-- What the guard says. -/
theorem guard_none {o : Oper} (h : o.guard = none) (y : Nat → Option Bool) : Region.wanted o y = true := by simp [Region.wanted, h]

theorem effOK_run {ops : Array Oper} {i : Nat} {o : Oper} {e : Eff} {s : St} (ho : ops[i]? = some o) (he : OEff P o s e)
    (hg : ∀ s2, Ag ops i e s s2 → ∀ (cx : Cx) μ A w, Good cx μ s2 A w → Region.wanted o (yielded ops A.tmps) = true) : EffOK P ops i e s := by
  refine ⟨by rw [he.1, ho]; rfl, fun s2 ha hf cx μ A w g K Q hK => ?_⟩
  unfold wpOp
  simp only [ho]
  rw [if_pos (hg s2 ha cx μ A w g)]
  refine .inl (he.2 s2 ha.m (fun j hj => ha.t j ?_) ha.σ hf cx μ A w g K Q hK)
  unfold Oper.tr
  rw [ho]
  simp only [Option.map_some, Option.getD_some, Oper.looksAt, List.mem_append, List.mem_filterMap]
  exact .inl ⟨_, by simpa using hj, rfl⟩
theorem effOK_skip {ops : Array Oper} {i : Nat} {o : Oper} {s : St} (ho : ops[i]? = some o) (hd : dstB o s.m)
    (hg : ∀ s2, Ag ops i (skipE o) s s2 → ∀ (cx : Cx) μ A w, Good cx μ s2 A w → Region.wanted o (yielded ops A.tmps) = false) : EffOK P ops i (skipE o) s := by
  refine ⟨by rw [skipE, rT_dst, ho]; rfl, fun s2 ha hf cx μ A w g K Q hK => ?_⟩
  unfold wpOp
  simp only [ho]
  rw [if_neg (by rw [hg s2 ha cx μ A w g]; simp)]
  refine hK μ _ w (good_rT (wr := []) g (by rw [ha.m]; exact hd) fun _ => ⟨#[], rfl, rfl, fun i x h => by simp at h⟩)
theorem wanted_of {ops : Array Oper} {o oj : Oper} {i j q : Nat} {want b : Bool} {e : Eff} {s s2 : St} (ho : ops[i]? = some o) (hgd : o.guard = some (j, want)) (hj : ops[j]? = some oj) (hq : oj.dst = some q)
    (hb : look s.t q = some (.d (.sc (.v (.bool b))))) (ha : Ag ops i e s s2) {cx : Cx} {μ : Nat → Option (Option Nat)} {A : Act} {w : World} (g : Good cx μ s2 A w) : Region.wanted o (yielded ops A.tmps) = (b == want) := by
  have hm : q ∈ Oper.tr ops i := by
    unfold Oper.tr
    rw [ho]
    simp [Oper.looksAt, hgd, hj, hq]
  have h2 : look s2.t q = some (.d (.sc (.v (.bool b)))) := (ha.t q hm).trans hb
  obtain ⟨u, hu, hr⟩ := g.temps q _ h2
  have hr' : u = .bool b := RelV.bool_inv hr
  subst hr'
  unfold Region.wanted yielded
  rw [hgd]
  simp only [hj, Option.bind_some, hq]
  have : (A.tmps[q]? : Option Value) = some (.bool b) := hu
  simp [this]

theorem wanted_undef {ops : Array Oper} {o oj : Oper} {i j q : Nat} {want : Bool} {e : Eff} {s s2 : St} (ho : ops[i]? = some o) (hgd : o.guard = some (j, want)) (hj : ops[j]? = some oj) (hq : oj.dst = some q)
    (hb : look s.t q = some (.tup [])) (ha : Ag ops i e s s2) {cx : Cx} {μ : Nat → Option (Option Nat)} {A : Act} {w : World} (g : Good cx μ s2 A w) : Region.wanted o (yielded ops A.tmps) = false := by
  have hm : q ∈ Oper.tr ops i := by
    unfold Oper.tr
    rw [ho]
    simp [Oper.looksAt, hgd, hj, hq]
  have h2 : look s2.t q = some (.tup []) := (ha.t q hm).trans hb
  obtain ⟨u, hu, arr, hr, _⟩ := g.temps q _ h2
  subst hr
  unfold Region.wanted yielded
  rw [hgd]
  simp only [hj, Option.bind_some, hq]
  have : (A.tmps[q]? : Option Value) = some (.tuple arr) := hu
  simp [this]

include hti in
theorem evOps_ok {ops : Array Oper} {K : List (Nat × Eff) → St → Tree} : ∀ (r : List Oper) (i : Nat) (s : St) (L : List (Nat × Eff)), (∀ (j : Nat) o, r[j]? = some o → ops[i + j]? = some o) → WpT P (evOps ti ops.toList r i s L K) Q →
    ∃ L' s', L'.map (·.1) = (List.range r.length).map (i + ·) ∧ Ok P ops L' s ∧ Eqv (runE L' s) s' ∧ s'.nx = s.nx ∧ s'.m = s.m ∧ (∀ x ∈ L', x.2.dst.map (·.1) = (ops[x.1]?).bind (·.dst)) ∧ WpT P (K (L'.reverse ++ L) s') Q
  | [], i, s, L, _, h => ⟨[], s, rfl, trivial, Eqv.refl _, rfl, rfl, by simp, h⟩
  | o :: r, i, s, L, hr, h => by
    have ho : ops[i]? = some o := by simpa using hr 0 o rfl
    have hr' : ∀ (j : Nat) o, r[j]? = some o → ops[i + 1 + j]? = some o := fun j o' hj => by
      have := hr (j + 1) o' (by simpa using hj)
      rw [← this]; congr 1; omega
    simp only [evOps] at h
    split at h
    · exact h.elim
    · rename_i hd
      have hdb := dstOK_ok hd
      -- one operation behind another state that reads alike
      have one : ∀ (s1 : St) (e : Eff), Eqv s s1 → s1.nx = s.nx → EffOK P ops i e s → Fresh e s → WpT P (evOps ti ops.toList r (i + 1) (e.app s1) ((i, e) :: L) K) Q →
          ∃ L' s', L'.map (·.1) = (List.range (o :: r).length).map (i + ·) ∧ Ok P ops L' s ∧ Eqv (runE L' s) s' ∧ s'.nx = s.nx ∧ s'.m = s.m ∧ (∀ x ∈ L', x.2.dst.map (·.1) = (ops[x.1]?).bind (·.dst)) ∧ WpT P (K (L'.reverse ++ L) s') Q := by
        intro s1 e hv hnx he hf hw
        obtain ⟨L', s', a1, a2, a3, a4, a5, a6, a7⟩ := evOps_ok r (i + 1) (e.app s1) ((i, e) :: L) hr' hw
        refine ⟨(i, e) :: L', s', ?_, ⟨he, hf, a2.eqv (hv.symm.app e)⟩, (runE_eqv (hv.app e)).trans a3, a4.trans hnx, a5.trans hv.m.symm, ?_, by simpa using a7⟩
        · simp only [List.map_cons, a1, List.length_cons, List.range_succ_eq_map, List.map_map, Nat.add_zero]
          congr 1
          apply List.map_congr_left
          intro j _
          simp; omega
        · intro x hx
          rcases List.mem_cons.1 hx with rfl | hx
          · exact he.1
          · exact a6 x hx
      split at h
      · rename_i hgd
        obtain ⟨e, h1, h2, h3⟩ := stOp_ok hti hdb h
        exact one s e (Eqv.refl _) rfl (effOK_run ho h1 fun s2 _ cx μ A w _ => guard_none hgd _) h2 h3
      · rename_i j want hgd
        split at h
        case h_2 => exact h.elim
        rename_i oj hoj
        have hoj' : ops[j]? = some oj := by simpa using hoj
        split at h
        case h_2 => exact h.elim
        rename_i q hq
        split at h
        case h_3 => exact h.elim
        case h_2 =>
          rename_i hb
          refine one s (skipE o) (Eqv.refl _) rfl (effOK_skip ho hdb fun s2 ha cx μ A w g => ?_) (fun b hb => by simp [skipE, rT] at hb) h
          exact wanted_undef ho hgd hoj' hq hb ha g
        rename_i b hb
        have run : ∀ v, b = v → want = v → WpT P (stOp ti (s.put q v) (s.nx + 4 * i) o fun e => evOps ti ops.toList r (i + 1) (e.app (s.put q v)) ((i, e) :: L) K) Q →
            ∃ L' s', L'.map (·.1) = (List.range (o :: r).length).map (i + ·) ∧ Ok P ops L' s ∧ Eqv (runE L' s) s' ∧ s'.nx = s.nx ∧ s'.m = s.m ∧ (∀ x ∈ L', x.2.dst.map (·.1) = (ops[x.1]?).bind (·.dst)) ∧ WpT P (K (L'.reverse ++ L) s') Q := fun v e1 e2 hw => by
          subst e1
          have hv := put_eqv hb
          obtain ⟨e, h1, h2, h3⟩ := stOp_ok (s := s.put q b) hti hdb hw
          refine one (s.put q b) e hv rfl ?_ (fun b1 hb1 hn => (hv.σ b1).trans (h2 b1 hb1 hn)) h3
          refine (effOK_run ho h1 fun s2 ha cx μ A w g => ?_).eqv hv.symm
          have ha' : Ag ops i e s s2 := ⟨ha.m, fun j hj => (ha.t j hj).trans (hv.t j).symm, ha.σ⟩
          rw [wanted_of ho hgd hoj' hq hb ha' g, e2]
          simp
        have skip : ∀ v, b = v → want = !v → WpT P (evOps ti ops.toList r (i + 1) ((skipE o).app (s.put q v)) ((i, skipE o) :: L) K) Q →
            ∃ L' s', L'.map (·.1) = (List.range (o :: r).length).map (i + ·) ∧ Ok P ops L' s ∧ Eqv (runE L' s) s' ∧ s'.nx = s.nx ∧ s'.m = s.m ∧ (∀ x ∈ L', x.2.dst.map (·.1) = (ops[x.1]?).bind (·.dst)) ∧ WpT P (K (L'.reverse ++ L) s') Q := fun v e1 e2 hw => by
          subst e1
          have hv := put_eqv hb
          refine one (s.put q b) (skipE o) hv rfl ?_ (fun b hb => by simp [skipE, rT] at hb) hw
          refine effOK_skip ho hdb fun s2 ha cx μ A w g => ?_
          rw [wanted_of ho hgd hoj' hq hb ha g, e2]
          cases b <;> rfl
        split at h
        · cases b with
          | true => exact run true rfl rfl (h.1 rfl)
          | false => exact skip false rfl rfl (h.2 rfl)
        · cases b with
          | true => exact skip true rfl rfl (h.1 rfl)
          | false => exact run false rfl rfl (h.2 rfl)
end
end Gx
