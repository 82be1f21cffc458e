import Derived.Test.YtnbiiphkefhkcaaGreatGxK
set_option linter.unusedVariables false
set_option linter.unusedSimpArgs false
namespace Gx
open Go

section
variable {P : Program} {ti : TypeId → Option TI} (hti : ∀ t x, ti t = some x → TIok P t x) {s : St} {nm : Nat} {o : Oper} {k : Eff → Tree} {Q : Ex → St → Prop}

theorem goodB_row {cx : Cx} {μ : Nat → Option (Option Nat)} {σ : List (Nat × Option Blk)} {w : World} (g : GoodB cx μ σ w) {b kk : Nat} {bl : Blk} (hb : look σ b = some (some bl)) (hk : μ b = some (some kk)) :
    ∃ arr ty, w.heap[kk]? = some (Obj.cells arr ty (0, 0)) ∧ bl.l.length ≤ arr.size ∧ RelL cx w μ (Mut cx μ σ) bl.l arr := by
  rcases g.blks b bl hb with ⟨h', _⟩ | ⟨k', arr, ty, h1, h2, h3, h4⟩
  · rw [hk] at h'; cases h'
  · rw [hk] at h1; injection h1 with h1; injection h1 with h1; subst h1
    exact ⟨arr, ty, h2, h3, h4⟩

theorem ones {cx : Cx} {μ : Nat → Option (Option Nat)} {M : Nat → Prop} {w : World} {us : List Value} {new : List S} (hst : ∀ x, x ∈ new → x.st = true) (hl : us.length = new.length)
    (hr : ∀ (i : Nat) x, new[i]? = some x → ∃ v, us[i]? = some v ∧ RelS cx w μ M x v) : ∀ u ∈ us, u.oneCell' = true := by
  intro u hu
  obtain ⟨j, hj⟩ := List.getElem?_of_mem hu
  have hjl : j < new.length := by rw [← hl]; exact (List.getElem?_eq_some_iff.1 hj).1
  obtain ⟨v, hv, hx⟩ := hr j _ (List.getElem?_eq_getElem hjl)
  rw [hj] at hv; injection hv with hv; subst hv
  exact (st_one (hst _ (List.getElem_mem hjl)) hx).1

/-! copy -/
def stCopy (ti : TypeId → Option TI) (s : St) (o : Oper) (ts : Array TypeId) (xs : Array Operand) (k : Eff → Tree) : Tree :=
  match ts.toList, xs.toList with
  | t1 :: _, [x, y] => match ti t1 with
    | some ⟨_, _, _, _, _, .slice e⟩ => match ti e, ops s.t x, ops s.t y with
      | some ei, some (.mrow b off nd sp es ex), some src => match look s.σ b with
        | some (some bl) => if Nat.beq es ei.size then srcRead s src ei.size fun new n rd => .chk ((∀ x, x ∈ new → x.st = true) ∧ n ≤ nd ∧ 0 < nd) (bl.write off new fun bl' =>
            k (rT o (.d (.sc (.v (.int .i64 (n : Int))))) [(b, some bl')] (b :: rd))) else .fail
        | _ => .fail
      | _, _, _ => .fail
    | _ => .fail
  | _, _ => .fail
include hti in
theorem stCopy_ok {ts : Array TypeId} {xs : Array Operand} (hop : o.op = .call { callee := .builtin .copy, args := xs, argTypes := ts }) (hd : dstB o s.m) (h : WpT P (stCopy ti s o ts xs k) Q) :
    ∃ e, OEff P o s e ∧ FreshW e.wr e.rd s ∧ WpT P (k e) Q := by
  unfold stCopy at h
  split at h
  case h_2 => exact h.elim
  rename_i t1 ts' x y hts hxs
  have exs : xs = #[x, y] := by rw [← Array.toArray_toList (xs := xs), hxs]
  have ets : ts[0]? = some t1 := by rw [← Array.getElem?_toList, hts]; rfl
  subst exs
  split at h
  case h_2 => exact h.elim
  rename_i a1 b1 c1 d1 z1 e ht1
  split at h
  case h_2 => exact h.elim
  rename_i ei b off nd sp es ex src hei hx hy
  split at h
  case h_2 => exact h.elim
  rename_i bl hbl
  split at h
  case isFalse => exact h.elim
  rename_i hes
  have hes1 : es = ei.size := Nat.eq_of_beq_eq_true hes
  have hu1 : P.underlying t1 = some (.slice e) := (hti _ _ ht1).td
  have htk := hti _ _ hei
  obtain ⟨new, n, rd, hrd, hsrc, h⟩ := srcRead_ok h
  obtain ⟨⟨hst, hle, hpos⟩, h⟩ := h
  obtain ⟨bl', hw1, hw2, h⟩ := write_ok h
  refine ⟨_, oeff_value hd fun s2 hm ht hb hf cx μ A w g => ?main, ?fr, h⟩
  case fr =>
    intro b' hb' hr
    simp [rT] at hb' hr
    exact absurd hb' hr.1
  have rx : ops s2.t x = some (.mrow b off nd sp es ex) := (ops_congr fun j hj => ht j (by subst hj; rw [hop]; simp [Op.operands, Call.operands])).trans hx
  have ry : ops s2.t y = some src := (ops_congr fun j hj => ht j (by subst hj; rw [hop]; simp [Op.operands, Call.operands])).trans hy
  obtain ⟨us, hus⟩ := hsrc s2 (fun b' hb' => hb b' (List.mem_cons_of_mem _ hb')) cx μ w g.toGoodB _ (ops_rel g.temps ry)
  have hb2' : look s2.σ b = some (some bl) := (hb b (by simp)).trans hbl
  obtain ⟨u1, u2, u3, _⟩ := id hus
  rcases ops_rel g.temps rx with ⟨h00, _⟩ | ⟨kk, cap, hk, ev, hle', hx', hrow⟩
  · omega
  · obtain ⟨arr, rt, hh, hal, har⟩ := goodB_row g.toGoodB hb2' hk
    have hbnd : off + 0 + us.length ≤ arr.size := by omega
    obtain ⟨w', arr', r1, r2, r3⟩ := run_storeCells_row (P := P) (k := kk) (ty := rt) (off := off) us 0 w arr hh hbnd (ones hst (by omega) u3)
    rw [Nat.add_zero] at r3
    have hlen : (putN bl.l off new).length = bl.l.length := putN_length _ _ _ hw1
    obtain ⟨q1, q2⟩ := goodB_set (bl := bl') g.toGoodB ⟨bl, hb2'⟩ hk hh r2 r3.size (by rw [hw2, hlen]; have := r3.size; omega) (by rw [hw2]; exact har.put r3 (by omega) u3 hw1)
    refine ⟨_, w', μ, ?_, q1, q2, r2.shape hh r3.size, Ext.refl _, mkInt _ _⟩
    obtain ⟨f1, f2⟩ := hus.run (P := P) w rfl
    have hmin : Nat.min n nd = n := Nat.min_eq_left hle
    simp only [execOp, hop, resolve, invoke, builtin, Sem.run_bind, Sem.run_pure, Result.andThen_ok, Builtin.copy_, ets]
    simp [run_underlying hu1, ev, f2, hmin, run_sizeT htk, f1, r1, goInt]

/-! clear -/
theorem zeros_st {P : Program} {ty : TypeId} {x : TI} (h : TIok P ty x) : ∀ y, y ∈ x.zero → y.st = true := by
  obtain ⟨i, z, _, _, _, _, hm, _, _⟩ := h.info
  obtain ⟨h1, h2⟩ := mapO_get hm
  intro y hy
  obtain ⟨j, hj⟩ := List.getElem?_of_mem hy
  obtain ⟨v, _, hv⟩ := h2 j y hj
  unfold cvS at hv
  split at hv <;> first | (injection hv with hv; subst hv; rfl) | cases hv
theorem rep_mem : ∀ {n : Nat} {z : List S} {y : S}, y ∈ repS n z → y ∈ z := by
  intro n z y h
  unfold repS at h
  rw [List.mem_flatten] at h
  obtain ⟨l, h1, h2⟩ := h
  rw [List.mem_replicate] at h1
  rw [← h1.2]; exact h2
def stClear (ti : TypeId → Option TI) (s : St) (o : Oper) (ts : Array TypeId) (xs : Array Operand) (k : Eff → Tree) : Tree :=
  match ts.toList, xs.toList with
  | t1 :: _, x :: _ => match ti t1 with
    | some ⟨_, _, _, _, _, .slice e⟩ => match ti e, ops s.t x with
      | some ei, some (.mrow b off nd sp es ex) => match look s.σ b with
        | some (some bl) => if Nat.beq es ei.size then .chk (0 < nd) (bl.write off (repS nd ei.zero) fun bl' => k (rT o (.tup []) [(b, some bl')] [b])) else .fail
        | _ => .fail
      | some ei, some (.v (.row cs n)) => .chk (n = 0) (k (rT o (.tup []) [] []))
      | _, _ => .fail
    | _ => .fail
  | _, _ => .fail
include hti in
theorem stClear_ok {ts : Array TypeId} {xs : Array Operand} (hop : o.op = .call { callee := .builtin .clear, args := xs, argTypes := ts }) (hd : dstB o s.m) (h : WpT P (stClear ti s o ts xs k) Q) :
    ∃ e, OEff P o s e ∧ FreshW e.wr e.rd s ∧ WpT P (k e) Q := by
  unfold stClear at h
  split at h
  case h_2 => exact h.elim
  rename_i t1 ts' x xs' hts hxs
  have exs : xs[0]? = some x := by rw [← Array.getElem?_toList, hxs]; rfl
  have ets : ts[0]? = some t1 := by rw [← Array.getElem?_toList, hts]; rfl
  have hmem : x ∈ o.op.operands := by
    rw [hop]; simp only [Op.operands, Call.operands, Array.empty_append]; rw [← Array.mem_toList_iff, hxs]; simp
  split at h
  case h_2 => exact h.elim
  rename_i a1 b1 c1 d1 z1 e ht1
  have hu1 : P.underlying t1 = some (.slice e) := (hti _ _ ht1).td
  have hev : ∀ A : Act, (xs.map A.eval)[0]? = some (A.eval x) := fun A => by simp [exs]
  split at h
  · rename_i ei b off nd sp es ex hei hx
    have htk := hti _ _ hei
    split at h
    case h_2 => exact h.elim
    rename_i bl hbl
    split at h
    case isFalse => exact h.elim
    obtain ⟨hpos, h⟩ := h
    obtain ⟨bl', hw1, hw2, h⟩ := write_ok h
    refine ⟨_, oeff_value hd fun s2 hm ht hb hf cx μ A w g => ?main, ?fr, h⟩
    case fr =>
      intro b' hb' hr
      simp [rT] at hb' hr
      exact absurd hb' hr
    have rx : ops s2.t x = some (.mrow b off nd sp es ex) := (ops_congr fun j hj => ht j (by subst hj; exact hmem)).trans hx
    have hb2' : look s2.σ b = some (some bl) := (hb b (by simp)).trans hbl
    obtain ⟨zv, h1, h2, h3, h4, h5⟩ := run_zeroT htk
    rcases ops_rel g.temps rx with ⟨h00, _⟩ | ⟨kk, cap, hk, ev, hle', hx', hrow⟩
    · omega
    · obtain ⟨arr, rt, hh, hal, har⟩ := goodB_row g.toGoodB hb2' hk
      have hzr : RelL cx w μ (Mut cx μ s2.σ) (repS nd ei.zero) (Builtin.zeroCells zv.cells nd) := by
        have := rep_rel (n := nd) (h4 cx w μ (Mut cx μ s2.σ)) h3
        unfold Builtin.zeroCells
        rw [h3]
        rw [h3] at this
        exact this
      have hzl : (Builtin.zeroCells zv.cells nd).toList.length = (repS nd ei.zero).length := by rw [repS_length]; simp [Builtin.zeroCells, h3]
      have hbnd : off + 0 + (Builtin.zeroCells zv.cells nd).toList.length ≤ arr.size := by omega
      obtain ⟨w', arr', r1, r2, r3⟩ := run_storeCells_row (P := P) (k := kk) (ty := rt) (off := off) _ 0 w arr hh hbnd (ones (fun y hy => zeros_st htk y (rep_mem hy)) hzl hzr.toList)
      rw [Nat.add_zero] at r3
      have hlen : (putN bl.l off (repS nd ei.zero)).length = bl.l.length := putN_length _ _ _ hw1
      obtain ⟨q1, q2⟩ := goodB_set (bl := bl') g.toGoodB ⟨bl, hb2'⟩ hk hh r2 r3.size (by rw [hw2, hlen]; have := r3.size; omega) (by rw [hw2]; exact har.put r3 (by omega) hzr.toList hw1)
      refine ⟨.tuple #[], w', μ, ?_, q1, q2, r2.shape hh r3.size, Ext.refl _, ⟨#[], rfl, rfl, fun i x hi => by cases hi⟩⟩
      simp only [execOp, hop, resolve, invoke, builtin, Sem.run_bind, Sem.run_pure, Result.andThen_ok, Builtin.clear_, ets, hev]
      rw [ev]
      have hnd : ∃ m, nd = m + 1 := ⟨nd - 1, by omega⟩
      obtain ⟨m, rfl⟩ := hnd
      simp [run_underlying hu1, h1, r1]
  · rename_i ei cs n hei hx
    obtain ⟨hn0, h⟩ := h
    subst hn0
    refine ⟨_, oeff_value hd fun s2 hm ht hb hf cx μ A w g => ?main2, ?fr2, h⟩
    case fr2 =>
      intro b' hb' hr
      simp [rT] at hb'
    have rx : ops s2.t x = some (.v (.row cs 0)) := (ops_congr fun j hj => ht j (by subst hj; exact hmem)).trans hx
    obtain ⟨a, cap, ev, _⟩ := row_slice (ops_rel g.temps rx)
    refine ⟨.tuple #[], w, μ, ?_, g.toGoodB, ⟨fun _ _ h _ => h, fun _ _ _ h => h⟩, Shape.refl _, Ext.refl _, ⟨#[], rfl, rfl, fun i x hi => by cases hi⟩⟩
    simp only [execOp, hop, resolve, invoke, builtin, Sem.run_bind, Sem.run_pure, Result.andThen_ok, Builtin.clear_, ets, hev]
    rw [ev]
    cases a <;> simp [run_underlying hu1]
  · exact h.elim

/-! slice -/
def opiO (t : List (Nat × T)) : Option Operand → Option (Option Int)
  | none => some none
  | some x => match opi t x with
    | some (_, n) => some (some n)
    | none => none
theorem opiO_rel {cx : Cx} {w : World} {μ : Nat → Option (Option Nat)} {M : Nat → Prop} {t : List (Nat × T)} {A : Act} (hA : Tmps cx w μ M t A) {x : Option Operand} {r : Option Int} (h : opiO t x = some r) :
    (r = none ∧ x.map A.eval = none) ∨ ∃ n kd, r = some n ∧ x.map A.eval = some (.int kd n) := by
  cases x with
  | none => simp [opiO] at h; subst h; exact .inl ⟨rfl, rfl⟩
  | some x =>
    simp only [opiO] at h
    split at h
    · rename_i kd n hn
      injection h with h; subst h
      exact .inr ⟨n, kd, rfl, by simp [opi_rel hA hn]⟩
    · cases h
theorem opiO_congr {t t2 : List (Nat × T)} {x : Option Operand} (h : ∀ j, x = some (.tmp j) → look t2 j = look t j) : opiO t2 x = opiO t x := by
  cases x with
  | none => rfl
  | some x => simp only [opiO]; rw [opi_congr fun j hj => h j (by rw [hj])]

def stSlice (ti : TypeId → Option TI) (t : List (Nat × T)) (ty : TypeId) (x : Operand) (lo hi mx : Option Operand) (k : T → Tree) : Tree :=
  match ti ty, opiO t lo, opiO t hi, opiO t mx with
  | some ⟨_, _, _, _, _, .slice e⟩, some l, some h, some m => match ti e, ops t x with
    | some ei, some (.v (.row cs n)) => rowS cs n ei.size (l.getD 0) (h.getD n) m
    | some ei, some (.xrow cs n) => rowS cs n ei.size (l.getD 0) (h.getD n) m
    | some ei, some (.mrow b off n sp es ex) =>
      if Nat.beq es ei.size then .chk (0 ≤ l.getD 0 ∧ l.getD 0 ≤ h.getD n ∧ h.getD n ≤ (n + sp.getD 0 : Nat) ∧ (∀ q, m = some q → q = h.getD n))
        (.br (decide (l.getD 0 = h.getD n)) (k (.d (.sc (.v (.row [] 0)))))
          (k (.d (.sc (match m with
            | some _ => .mrow b (off + (l.getD 0).toNat * es) ((h.getD n).toNat - (l.getD 0).toNat) none es true
            | none => .mrow b (off + (l.getD 0).toNat * es) ((h.getD n).toNat - (l.getD 0).toNat) (some (n + sp.getD 0 - (h.getD n).toNat)) es ex))))) else .fail
    | _, _ => .fail
  | _, _, _, _ => .fail
where
  rowS (cs : List V) (n es : Nat) (l h : Int) (m : Option Int) : Tree :=
    .chk (0 ≤ l ∧ l ≤ h ∧ h ≤ n ∧ cs.length = n * es ∧ 0 < es ∧ (∀ q, m = some q → q = h))
      (k (.d (.sc (match m with
        | some _ => .xrow ((cs.drop (l.toNat * es)).take ((h.toNat - l.toNat) * es)) (h.toNat - l.toNat)
        | none => .v (.row ((cs.drop (l.toNat * es)).take ((h.toNat - l.toNat) * es)) (h.toNat - l.toNat))))))

/-- What the model's slicing of a slice gives. -/
theorem run_sliceAt {ty e : TypeId} {ei : TI} (hu : P.underlying ty = some (.slice e)) (he : TIok P e ei) (w : World) (a : Option Addr) (n cap : Nat) (lo hi mx : Option Value) (l h : Int) (m : Option Int)
    (hl : (l = 0 ∧ lo = none) ∨ ∃ kd, lo = some (.int kd l)) (hh : (h = n ∧ hi = none ∧ mx = none) ∨ ∃ kd, hi = some (.int kd h)) (hm : (m = none ∧ mx = none) ∨ ∃ kd, m = some h ∧ mx = some (.int kd h))
    (h0 : 0 ≤ l) (h1 : l ≤ h) (h2 : h ≤ cap) :
    ∃ mm : Nat, (mx = none → mm = cap) ∧ (mx ≠ none → mm = h.toNat) ∧ (Instr.sliceAt ty (.slice a n cap) lo hi mx).run P w = .ok (.slice (if mm = l.toNat then a else a.map (·.add (l.toNat * ei.size))) (h.toNat - l.toNat) (mm - l.toNat)) w := by
  have bound : ∀ (kd : IntKind) (i : Int) (y : Nat) (code : BoundsCode), 0 ≤ i → i ≤ y → (Instr.sliceBound (.int kd i) y code).run P w = .ok i.toNat w := by
    intro kd i y code a b
    simp only [Instr.sliceBound, asIntOf, Sem.run_bind, Sem.run_pure, Result.andThen_ok]
    rw [if_pos ⟨a, b⟩]; rfl
  have base : ∀ (L H M : Nat), (Instr.sliceBounds true n cap lo hi mx).run P w = .ok (L, H, M) w → (Instr.sliceAt ty (.slice a n cap) lo hi mx).run P w = .ok (.slice (if M = L then a else a.map (·.add (L * ei.size))) (H - L) (M - L)) w := by
    intro L H M hb
    simp only [Instr.sliceAt, Sem.run_bind, run_underlying hu, Result.andThen_ok, Instr.slice, hb, run_sizeT he, Sem.run_pure]
  rcases hm with ⟨rfl, rfl⟩ | ⟨km, rfl, rfl⟩
  · refine ⟨cap, (fun _ => rfl), (fun h => absurd rfl h), base l.toNat h.toNat cap ?_⟩
    rcases hh with ⟨rfl, rfl, _⟩ | ⟨kh, rfl⟩
    · rcases hl with ⟨rfl, rfl⟩ | ⟨kl, rfl⟩
      · simp [Instr.sliceBounds]
      · simp [Instr.sliceBounds, bound kl l n _ h0 h1]
    · rcases hl with ⟨rfl, rfl⟩ | ⟨kl, rfl⟩
      · simp [Instr.sliceBounds, bound kh h cap _ h1 h2]
      · have e1 : l ≤ (h.toNat : Int) := by omega
        simp [Instr.sliceBounds, bound kh h cap _ (by omega) h2, bound kl l h.toNat _ h0 e1]
  · refine ⟨h.toNat, (fun h => by cases h), (fun _ => rfl), base l.toNat h.toNat h.toNat ?_⟩
    rcases hh with ⟨_, _, h⟩ | ⟨kh, rfl⟩
    · cases h
    · have e2 : h ≤ (h.toNat : Int) := by omega
      rcases hl with ⟨rfl, rfl⟩ | ⟨kl, rfl⟩
      · simp [Instr.sliceBounds, bound km h cap _ h1 h2, bound kh h h.toNat _ h1 e2]
      · have e1 : l ≤ (h.toNat : Int) := by omega
        simp [Instr.sliceBounds, bound km h cap _ (by omega) h2, bound kh h h.toNat _ (by omega) e2, bound kl l h.toNat _ h0 e1]

theorem row_sub {w : World} {M : Nat → Prop} {cs : List V} {n cap l h mm es : Nat} {a : Option Addr} (hr : RelV w M (.row cs n) (.slice a n cap)) (h1 : l ≤ h) (h2 : h ≤ n) (hlen : cs.length = n * es) (hes : 0 < es)
    (hm : h ≤ mm) (hm0 : cap = 0 → mm = 0) : RelV w M (.row ((cs.drop (l * es)).take ((h - l) * es)) (h - l)) (.slice (if mm = l then a else a.map (·.add (l * es))) (h - l) (mm - l)) := by
  have hget : ∀ (i : Nat) y, ((cs.drop (l * es)).take ((h - l) * es))[i]? = some y → cs[l * es + i]? = some y := by
    intro i y hi
    rw [List.getElem?_take] at hi
    split at hi
    · rw [List.getElem?_drop] at hi; exact hi
    · cases hi
  cases hr with
  | nilRow =>
    have e1 : h = 0 := by omega
    have e2 : l = 0 := by omega
    have e3 : mm = 0 := hm0 rfl
    subst e1; subst e2; subst e3
    simp
    exact .nilRow
  | row cs n a cap vals hn hl ha hc hr =>
    by_cases h0 : h = l
    · subst h0
      have e : (cs.drop (h * es)).take ((h - h) * es) = [] := by simp
      rw [e, Nat.sub_self]
      have : ∃ a', (if mm = h then some a else (some a).map (·.add (h * es))) = some a' := by split <;> exact ⟨_, rfl⟩
      obtain ⟨a', ha'⟩ := this
      rw [ha']
      exact .row [] 0 a' (mm - h) (fun _ => undef) (by omega) (fun h => by omega) (fun h => absurd rfl h) (fun i x h => by simp at h) (fun i x h => by simp at h)
    · rw [if_neg (by omega)]
      have hne : cs ≠ [] := hl (by omega)
      obtain ⟨hs, hm'⟩ := ha hne
      simp only [Option.map_some]
      rw [addr_add a hs]
      refine .row _ (h - l) ⟨a.block, a.off + l * es, none⟩ (mm - l) (fun i => vals (l * es + i)) (by omega) (fun hp => ?_) (fun _ => ⟨rfl, hm'⟩) (fun i x hi => ?_) (fun i x hi => hr _ x (hget i x hi))
      · intro he
        have := congrArg List.length he
        rw [List.length_take, List.length_drop, hlen, List.length_nil] at this
        have h3 : (h - l) * es ≤ n * es - l * es := by rw [← Nat.sub_mul]; exact Nat.mul_le_mul_right _ (by omega)
        have h4 : 0 < (h - l) * es := Nat.mul_pos hp hes
        omega
      · have := hc _ x (hget i x hi)
        rw [← Nat.add_assoc] at this
        exact this

include hti in
theorem stSlice_ok {t : List (Nat × T)} {ty : TypeId} {x : Operand} {lo hi mx : Option Operand} {k : T → Tree} (hmx : mx.isSome = true → hi.isSome = true) (h : WpT P (stSlice ti t ty x lo hi mx k) Q) : ∃ y, PureOK P (.slice ty x lo hi mx) t y ∧ WpT P (k y) Q := by
  unfold stSlice at h
  split at h
  case h_2 => exact h.elim
  rename_i a1 b1 c1 d1 z1 e l hh m hty hl hhi hm
  have hu : P.underlying ty = some (.slice e) := (hti _ _ hty).td
  have cg : ∀ t2, (∀ j, Operand.tmp j ∈ (Op.slice ty x lo hi mx).operands → look t2 j = look t j) → ops t2 x = ops t x ∧ opiO t2 lo = some l ∧ opiO t2 hi = some hh ∧ opiO t2 mx = some m := by
    intro t2 ht
    refine ⟨ops_congr fun j hj => ht j (by subst hj; simp [Op.operands]), (opiO_congr fun j hj => ht j (by subst hj; simp [Op.operands])).trans hl, (opiO_congr fun j hj => ht j (by subst hj; simp [Op.operands])).trans hhi, (opiO_congr fun j hj => ht j (by subst hj; simp [Op.operands])).trans hm⟩
  -- the model's step
  have step : ∀ (ei : TI), TIok P e ei → ∀ t2, (∀ j, Operand.tmp j ∈ (Op.slice ty x lo hi mx).operands → look t2 j = look t j) → ∀ (cx : Cx) (w : World) μ M (A : Act), Tmps cx w μ M t2 A → ∀ o : Oper, o.op = .slice ty x lo hi mx →
      ∀ a n cap, A.eval x = .slice a n cap → 0 ≤ l.getD 0 → l.getD 0 ≤ hh.getD n → hh.getD n ≤ cap → (∀ q, m = some q → q = hh.getD n) →
      ∃ mm : Nat, (m = none → mm = cap) ∧ (m ≠ none → mm = (hh.getD n).toNat) ∧ (execOp A.eval o).run P w = .ok (.value (.slice (if mm = (l.getD 0).toNat then a else a.map (·.add ((l.getD 0).toNat * ei.size))) ((hh.getD n).toNat - (l.getD 0).toNat) (mm - (l.getD 0).toNat))) w := by
    intro ei hei t2 ht cx w μ M A hA o ho a n cap ex h0 h1 h2 hq
    obtain ⟨_, g1, g2, g3⟩ := cg t2 ht
    have r1 := opiO_rel hA g1
    have r2 := opiO_rel hA g2
    have r3 := opiO_rel hA g3
    have key := run_sliceAt (P := P) hu hei w a n cap (lo.map A.eval) (hi.map A.eval) (mx.map A.eval) (l.getD 0) (hh.getD n) m
      (by rcases r1 with ⟨rfl, e⟩ | ⟨q, kd, rfl, e⟩
          · exact .inl ⟨rfl, e⟩
          · exact .inr ⟨kd, e⟩)
      (by rcases r2 with ⟨rfl, e⟩ | ⟨q, kd, rfl, e⟩
          · refine .inl ⟨rfl, e, ?_⟩
            cases mx with
            | none => rfl
            | some z =>
              have := hmx rfl
              cases hi with
              | none => cases this
              | some _ => cases e
          · exact .inr ⟨kd, e⟩)
      (by rcases r3 with ⟨rfl, e⟩ | ⟨q, kd, rfl, e⟩
          · exact .inl ⟨rfl, e⟩
          · have := hq q rfl
            subst this
            exact .inr ⟨kd, rfl, e⟩)
      h0 h1 h2
    obtain ⟨mm, k1, k2, k3⟩ := key
    have hmm : m = none ↔ mx.map A.eval = none := by
      rcases r3 with ⟨rfl, e⟩ | ⟨q, kd, rfl, e⟩
      · simp [e]
      · simp [e]
    refine ⟨mm, fun h => k1 (hmm.1 h), fun h => k2 fun h' => h (hmm.2 h'), ?_⟩
    simp [execOp, ho, ex, k3]
  -- a row of values
  have rowcase : ∀ (ei : TI) (cs : List V) (n : Nat), TIok P e ei → WpT P (stSlice.rowS k cs n ei.size (l.getD 0) (hh.getD n) m) Q →
      (∀ t2, (∀ j, Operand.tmp j ∈ (Op.slice ty x lo hi mx).operands → look t2 j = look t j) → ∀ (cx : Cx) (w : World) μ M (A : Act), Tmps cx w μ M t2 A → RelV w M (.row cs n) (A.eval x)) → ∃ y, PureOK P (.slice ty x lo hi mx) t y ∧ WpT P (k y) Q := by
    intro ei cs n hei hw hx
    unfold stSlice.rowS at hw
    obtain ⟨⟨h0, h1, h2, h3, h4, h5⟩, hw⟩ := hw
    refine ⟨_, fun t2 ht cx w μ M A hA o ho => ?_, hw⟩
    have hr := hx t2 ht cx w μ M A hA
    obtain ⟨a, cap, ex, hnil⟩ := row_slice hr
    have hcap : n ≤ cap ∧ (cap = 0 → n = 0) := by
      rw [ex] at hr
      cases hr with
      | nilRow => simp
      | row _ _ _ _ _ hn => exact ⟨hn, fun h => by omega⟩
    obtain ⟨mm, k1, k2, k3⟩ := step ei hei t2 ht cx w μ M A hA o ho a n cap ex h0 h1 (by omega) h5
    rw [ex] at hr
    have hle : (hh.getD (n : Int)).toNat ≤ mm := by
      cases hmc : m with
      | none => rw [k1 hmc]; omega
      | some q => rw [k2 (by rw [hmc]; simp)]; exact Nat.le_refl _
    have hmm0 : cap = 0 → mm = 0 := by
      intro hc
      cases hmc : m with
      | none => rw [k1 hmc]; exact hc
      | some q => rw [k2 (by rw [hmc]; simp)]; omega
    have hsub := row_sub (es := ei.size) (l := (l.getD 0).toNat) (h := (hh.getD (n : Int)).toNat) (mm := mm) hr (by omega) (by omega) h3 h4 hle hmm0
    refine ⟨_, k3, ?_⟩
    cases hmc : m with
    | none => exact hsub
    | some q =>
      refine ⟨hsub, fun a' l' c' he => ?_⟩
      injection he with _ e2 e3
      rw [← e3, k2 (by rw [hmc]; simp)]
  split at h
  · rename_i ei cs n hei hx
    exact rowcase ei cs n (hti _ _ hei) h fun t2 ht cx w μ M A hA => ops_rel hA ((cg t2 ht).1.trans hx)
  · rename_i ei cs n hei hx
    exact rowcase ei cs n (hti _ _ hei) h fun t2 ht cx w μ M A hA => (ops_rel hA ((cg t2 ht).1.trans hx)).1
  · rename_i ei b off n sp es ex hei hx
    split at h
    case isFalse => exact h.elim
    rename_i hes
    have hes1 : es = ei.size := Nat.eq_of_beq_eq_true hes
    obtain ⟨⟨h0, h1, h2, h5⟩, h⟩ := h
    -- the value and its room
    have val : ∀ t2, (∀ j, Operand.tmp j ∈ (Op.slice ty x lo hi mx).operands → look t2 j = look t j) → ∀ (cx : Cx) (w : World) μ M (A : Act), Tmps cx w μ M t2 A →
        ∃ a cap, A.eval x = .slice a n cap ∧ n + sp.getD 0 ≤ cap ∧ (l.getD 0 ≠ hh.getD (n : Int) → ∃ kk, μ b = some (some kk) ∧ a = some ⟨kk, off, none⟩ ∧ (ex = true → cap = n + sp.getD 0) ∧ isRow w kk (off + cap * es)) := by
      intro t2 ht cx w μ M A hA
      rcases ops_rel hA ((cg t2 ht).1.trans hx) with ⟨q1, q2, q3, q4, a, q5⟩ | ⟨kk, cap, q1, q2, q3, q4, q5⟩
      · subst q1; subst q2
        exact ⟨a, 0, q5, by simp, fun hne => by simp only [Option.getD_none] at h2; exact absurd (Int.le_antisymm h1 (by omega)) hne⟩
      · exact ⟨_, cap, q2, q3, fun _ => ⟨kk, q1, rfl, q4, q5⟩⟩
    by_cases heq : l.getD 0 = hh.getD (n : Int)
    · have h := h.1 (by simpa using heq)
      refine ⟨_, fun t2 ht cx w μ M A hA o ho => ?_, h⟩
      obtain ⟨a, cap, ex', hc, _⟩ := val t2 ht cx w μ M A hA
      obtain ⟨mm, k1, k2, k3⟩ := step ei (hti _ _ hei) t2 ht cx w μ M A hA o ho a n cap ex' h0 h1 (by omega) h5
      refine ⟨_, k3, ?_⟩
      have e0 : (hh.getD (n : Int)).toNat - (l.getD 0).toNat = 0 := by omega
      rw [e0]
      show RelV w M (.row [] 0) _
      cases ha : (if mm = (l.getD 0).toNat then a else a.map (·.add ((l.getD 0).toNat * ei.size))) with
      | none =>
        have hz : mm - (l.getD 0).toNat = 0 := by
          have ha' : a = none := by
            split at ha
            · exact ha
            · cases a with
              | none => rfl
              | some _ => cases ha
          subst ha'
          -- a nil slice has no room
          rcases ops_rel hA ((cg t2 ht).1.trans hx) with ⟨q1, q2, q3, q4, a, q5⟩ | ⟨kk, cap', q1, q2, q3, q4, q5⟩
          · rw [ex'] at q5; injection q5 with _ _ q6
            subst q6
            cases hmc : m with
            | none => rw [k1 hmc]; omega
            | some q => rw [k2 (by rw [hmc]; simp)]; omega
          · rw [ex'] at q2; injection q2 with q2; cases q2
        rw [hz]
        exact .nilRow
      | some a' => exact .row [] 0 a' _ (fun _ => undef) (by omega) (fun h => by omega) (fun h => absurd rfl h) (fun i x h => by simp at h) (fun i x h => by simp at h)
    · have h := h.2 (by simpa using heq)
      refine ⟨_, fun t2 ht cx w μ M A hA o ho => ?_, h⟩
      obtain ⟨a, cap, ex', hc, hreal⟩ := val t2 ht cx w μ M A hA
      obtain ⟨kk, hk, rfl, hex, hrow⟩ := hreal heq
      obtain ⟨mm, k1, k2, k3⟩ := step ei (hti _ _ hei) t2 ht cx w μ M A hA o ho _ n cap ex' h0 h1 (by omega) h5
      refine ⟨_, k3, ?_⟩
      have hmm : (hh.getD (n : Int)).toNat ≤ mm ∧ mm ≤ cap := by
        cases hmc : m with
        | none => rw [k1 hmc]; omega
        | some q => rw [k2 (by rw [hmc]; simp)]; omega
      rw [if_neg (by omega)]
      simp only [Option.map_some, Addr.add_lit]
      rw [← hes1]
      obtain ⟨arr, rt, r1, r2⟩ := hrow
      have hroom : off + (l.getD 0).toNat * es + (mm - (l.getD 0).toNat) * es ≤ arr.size := by
        have e1 : (l.getD 0).toNat * es + (mm - (l.getD 0).toNat) * es = mm * es := by rw [← Nat.add_mul]; congr 1; omega
        have e2 : mm * es ≤ cap * es := Nat.mul_le_mul_right _ hmm.2
        omega
      cases hmc : m with
      | some q =>
        have := k2 (by rw [hmc]; simp)
        exact .inr ⟨kk, _, hk, rfl, by simp only [Option.getD_none]; omega, (fun _ => by simp only [Option.getD_none]; omega), arr, rt, r1, hroom⟩
      | none =>
        have := k1 hmc
        exact .inr ⟨kk, _, hk, rfl, by simp only [Option.getD_some]; omega, (fun he => by have := hex he; simp only [Option.getD_some]; omega), arr, rt, r1, hroom⟩
  · exact h.elim
end
end Gx
