import Derived.Test.YtnbiiphkefhkcaaGreatGxJ
set_option linter.unusedVariables false
set_option linter.unusedSimpArgs false
namespace Gx
open Go

section
variable {P : Program} {ti : TypeId → Option TI} (hti : ∀ t x, ti t = some x → TIok P t x) {s : St} {nm : Nat} {o : Oper} {k : Eff → Tree} {Q : Ex → St → Prop}

/-! ### The cells of a slice that is read -/
def srcRead (s : St) (x : S) (es : Nat) (k : List S → Nat → List Nat → Tree) : Tree :=
  match x with
  | .v (.row cs n) => if Nat.beq es 0 then .fail else .chk (cs.length = n * es) (k (cs.map S.v) n [])
  | .xrow cs n => if Nat.beq es 0 then .fail else .chk (cs.length = n * es) (k (cs.map S.v) n [])
  | .mrow b off n _ es' _ => match look s.σ b with
    | some (some bl) => if Nat.beq es es' then bl.read off (n * es) fun cs => k cs n [b] else .fail
    | _ => .fail
  | _ => .fail

/-- The cells of a slice value, as memory holds them. -/
def SrcAt (cx : Cx) (w : World) (μ : Nat → Option (Option Nat)) (M : Nat → Prop) (cs : List S) (n es : Nat) (u : Value) (us : List Value) : Prop :=
  us.length = n * es ∧ cs.length = n * es ∧ (∀ (i : Nat) x, cs[i]? = some x → ∃ v, us[i]? = some v ∧ RelS cx w μ M x v) ∧
  ∃ a cap, u = .slice a n cap ∧ (∀ ad, a = some ad → ∀ (j : Nat) v, us[j]? = some v → w.cell? (ad.add j) = some v) ∧ (a = none → n = 0)

theorem SrcAt.run {cx : Cx} {w : World} {μ : Nat → Option (Option Nat)} {M : Nat → Prop} {cs : List S} {n es : Nat} {u : Value} {us : List Value} (h : SrcAt cx w μ M cs n es u us) (w' : World) (hw : w'.heap = w.heap) :
    (Builtin.firstCells es n u).run P w' = .ok us.toArray w' ∧ (Builtin.lenOf u).run P w' = .ok n w' := by
  obtain ⟨h1, h2, h3, a, cap, rfl, h4, h5⟩ := h
  refine ⟨?_, rfl⟩
  cases a with
  | none =>
    have : n = 0 := h5 rfl
    subst this
    have : us = [] := List.eq_nil_of_length_eq_zero (by simpa using h1)
    subst this
    simp [Builtin.firstCells]
  | some ad =>
    refine run_firstCells_some w' es n ad n cap us h1 fun j v hj => ?_
    have e : w'.cell? (ad.add j) = w.cell? (ad.add j) := cell_same (by rw [hw])
    rw [e]
    exact h4 ad rfl j v hj

theorem row_src {cx : Cx} {w : World} {μ : Nat → Option (Option Nat)} {M : Nat → Prop} {cs : List V} {n es : Nat} {u : Value} (h : RelV w M (.row cs n) u) (hl : cs.length = n * es) :
    ∃ us, SrcAt cx w μ M (cs.map S.v) n es u us := by
  cases h with
  | nilRow => exact ⟨[], by simp, by simp, by simp, none, 0, rfl, (fun ad h => by cases h), fun _ => rfl⟩
  | row cs n a cap vals hn hl' ha hc hr =>
    refine ⟨(List.range cs.length).map vals, by simp [hl], by simpa using hl, fun i x hi => ?_, some a, cap, rfl, fun ad had j v hj => ?_, fun h => by cases h⟩
    · rw [List.getElem?_map] at hi
      cases hx : cs[i]? with
      | none => rw [hx] at hi; cases hi
      | some y =>
        rw [hx] at hi; injection hi with hi; subst hi
        have hlt := (List.getElem?_eq_some_iff.1 hx).1
        exact ⟨vals i, by rw [List.getElem?_map, List.getElem?_range hlt]; rfl, hr i y hx⟩
    · injection had with had; subst had
      rw [List.getElem?_map] at hj
      have hlt : j < cs.length := by
        cases hlt : decide (j < cs.length) with
        | true => exact of_decide_eq_true hlt
        | false =>
          have := of_decide_eq_false hlt
          rw [List.getElem?_eq_none (by simp; omega)] at hj; cases hj
      rw [List.getElem?_range hlt] at hj
      simp at hj; subst hj
      have hne : cs ≠ [] := by rintro rfl; simp at hlt
      rw [addr_add a (ha hne).1]
      exact hc j _ (List.getElem?_eq_getElem hlt)

theorem mrow_src {cx : Cx} {w : World} {μ : Nat → Option (Option Nat)} {σ : List (Nat × Option Blk)} {b off n : Nat} {sp : Option Nat} {es : Nat} {ex : Bool} {bl : Blk} {cs : List S} {u : Value} (g : GoodB cx μ σ w) (hb2 : look σ b = some (some bl))
    (hu : RelS cx w μ (Mut cx μ σ) (.mrow b off n sp es ex) u) (hcs : takeN bl.l off (n * es) = some cs) : ∃ us, SrcAt cx w μ (Mut cx μ σ) cs n es u us := by
  rcases hu with ⟨rfl, rfl, rfl, hv, a, rfl⟩ | ⟨kk, cap, hk, rfl, h1, h2, h3⟩
  · have hcl := (takeN_spec hcs).2.1
    have : cs = [] := List.eq_nil_of_length_eq_zero (by simpa using hcl)
    subst this
    exact ⟨[], by simp, by simp, by simp, a, 0, rfl, by simp, fun _ => rfl⟩
  · obtain ⟨us, u1, u2, u3⟩ := cells_at g hb2 hk hcs
    refine ⟨us, u1, (takeN_spec hcs).2.1, u3, _, cap, rfl, fun ad had j v hj => ?_, fun h => by cases h⟩
    injection had with had; subst had
    rw [Addr.add_lit]; exact u2 j v hj

theorem srcRead_ok {x : S} {es : Nat} {k : List S → Nat → List Nat → Tree} (h : WpT P (srcRead s x es k) Q) :
    ∃ cs n rd, (∀ b, b ∈ rd → look s.σ b ≠ none) ∧ (∀ s2 : St, (∀ b, b ∈ rd → look s2.σ b = look s.σ b) → ∀ (cx : Cx) μ w, GoodB cx μ s2.σ w → ∀ u, RelS cx w μ (Mut cx μ s2.σ) x u → ∃ us, SrcAt cx w μ (Mut cx μ s2.σ) cs n es u us) ∧ WpT P (k cs n rd) Q := by
  unfold srcRead at h
  split at h
  · rename_i cs n
    split at h
    · exact h.elim
    · rename_i he
      obtain ⟨hl, h⟩ := h
      have he' : es ≠ 0 := by rintro rfl; exact he rfl
      exact ⟨_, _, _, (fun b hb => by cases hb), fun s2 _ cx μ w g u hu => row_src hu hl, h⟩
  · rename_i cs n
    split at h
    · exact h.elim
    · rename_i he
      obtain ⟨hl, h⟩ := h
      have he' : es ≠ 0 := by rintro rfl; exact he rfl
      exact ⟨_, _, _, (fun b hb => by cases hb), fun s2 _ cx μ w g u hu => row_src hu.1 hl, h⟩
  · rename_i b off n sp es' ex
    split at h
    · rename_i bl hbl
      split at h
      · rename_i he
        have he' := Nat.eq_of_beq_eq_true he
        subst he'
        obtain ⟨cs, hcs, h⟩ := read_ok h
        refine ⟨_, _, _, (fun b' hb' => by simp at hb'; subst hb'; rw [hbl]; simp), fun s2 hb cx μ w g u hu => ?_, h⟩
        have hb2 : look s2.σ b = some (some bl) := (hb b (by simp)).trans hbl
        exact mrow_src g hb2 hu hcs
      · exact h.elim
    · exact h.elim
  · exact h.elim

/-! ### append -/
/-- A new row of old and new cells (the rest of its room is zero). -/
def appNew (nm : Nat) (o : Oper) (old new : List S) (n es : Nat) (dead : List (Nat × Option Blk)) (rd : List Nat) (k : Eff → Tree) : Tree :=
  k (rT o (.d (.sc (.mrow nm 0 n none es false))) ((nm, some (.arr (old ++ new))) :: dead) rd)

def stAppend (ti : TypeId → Option TI) (s : St) (nm : Nat) (o : Oper) (ts : Array TypeId) (xs : Array Operand) (k : Eff → Tree) : Tree :=
  match ts.toList, xs.toList, look s.σ nm with
  | [t1, t2], [x, y], none => match ti t1, ti t2 with
    | some ⟨_, _, _, _, _, .slice e⟩, some ⟨_, _, _, _, _, .slice _⟩ => match ti e, ops s.t x, ops s.t y with
      | some ei, some bs, some src => srcRead s src ei.size fun new n rd => match bs with
        | .xrow [] 0 => .chk (n * ei.bytes ≤ 2 ^ 46 ∧ n ≤ 2 ^ 46) (appNew nm o [] new n ei.size [] rd k)
        | .xrow cs n0 => .br (decide (n = 0)) (k (rT o (.d (.sc (.xrow cs n0))) [] rd)) (.chk ((n0 + n) * ei.bytes ≤ 2 ^ 46 ∧ n0 + n ≤ 2 ^ 46 ∧ cs.length = n0 * ei.size) (appNew nm o (cs.map S.v) new (n0 + n) ei.size [] rd k))
        | .mrow b off n0 sp es ex => match look s.σ b with
          | some (some bl) => if Nat.beq es ei.size && !Nat.beq es 0 then match sp, ex with
            | none, true => .br (decide (n = 0)) (k (rT o (.d (.sc (.mrow b off n0 none es true))) [] rd))
                (.chk ((n0 + n) * ei.bytes ≤ 2 ^ 46 ∧ n0 + n ≤ 2 ^ 46) (bl.read off (n0 * es) fun old => appNew nm o old new (n0 + n) es [] (b :: rd) k))
            | none, false => .chk ((∀ x, x ∈ new → x.st = true) ∧ off = 0 ∧ bl.l.length = n0 * es ∧ (n0 + n) * ei.bytes ≤ 2 ^ 46 ∧ n0 + n ≤ 2 ^ 46) (appNew nm o bl.l new (n0 + n) es [(b, none)] (b :: rd) k)
            | some sp, ex => .chk ((∀ x, x ∈ new → x.st = true) ∧ n ≤ sp) (bl.write (off + n0 * es) new fun bl' => k (rT o (.d (.sc (.mrow b off (n0 + n) (some (sp - n)) es ex))) [(b, some bl')] (b :: rd)))
            else .fail
          | _ => .fail
        | _ => .fail
      | _, _, _ => .fail
    | _, _ => .fail
  | _, _, _ => .fail

theorem zeroCells_size (z : Array Value) (n : Nat) : (Builtin.zeroCells z n).size = n * z.size := by simp [Builtin.zeroCells]

/-- The grown row: what the model does. -/
theorem run_append_new {w : World} {t1 t2 ty e : TypeId} {ei : TI} (h1 : P.underlying t1 = some (.slice e)) (h2 : ∃ e2, P.underlying t2 = some (.slice e2)) (he : TIok P e ei) {base : Option Addr} {sLen sCap n : Nat} {src : Value}
    {olds news : List Value} (ho : ∀ w' : World, w'.heap = w.heap → (Builtin.firstCells ei.size sLen (.slice base sLen sCap)).run P w' = .ok olds.toArray w')
    (hn : ∀ w' : World, w'.heap = w.heap → (Builtin.firstCells ei.size n src).run P w' = .ok news.toArray w' ∧ (Builtin.lenOf src).run P w' = .ok n w')
    (ol : olds.length = sLen * ei.size) (nl : news.length = n * ei.size) (hg : sCap < sLen + n) (hb : (sLen + n) * ei.bytes ≤ 2 ^ 46) (hs : sLen + n ≤ 2 ^ 46) :
    ∃ w' cap rest, (Builtin.append_ #[t1, t2] ty #[.slice base sLen sCap, src]).run P w = .ok (.slice (some ⟨w.heap.size, 0, none⟩) (sLen + n) cap) w' ∧ sLen + n ≤ cap ∧
      WNew w w' (olds.toArray ++ news.toArray ++ rest) e ∧ (olds.toArray ++ news.toArray ++ rest).size = cap * ei.size := by
  obtain ⟨e2, h2⟩ := h2
  obtain ⟨i, z, hi, his, hib, hz, hm, hzl, _⟩ := he.info
  have z2 : z.cells.size = ei.size := by obtain ⟨q, _⟩ := mapO_get hm; simp at q; omega
  have hcap : sLen + n ≤ grownCap w (sLen + n) sCap e := Nat.le_add_right _ _
  refine ⟨w.drew.alloc (.cells (olds.toArray ++ news.toArray ++ Builtin.zeroCells z.cells (grownCap w (sLen + n) sCap e - (sLen + n))) e), grownCap w (sLen + n) sCap e, Builtin.zeroCells z.cells (grownCap w (sLen + n) sCap e - (sLen + n)), ?_, hcap, ⟨rfl, rfl, rfl, rfl⟩, ?_⟩
  · have c1 : ¬ (sLen + n ≤ sCap) := by omega
    have p46 : (2 : Nat) ^ 46 = 70368744177664 := by decide
    rw [p46] at hb hs
    have c2 : ¬ (9223372036854775807 < ((sLen : Int) + (n : Int))) := by omega
    have c3 : ¬ (281474976710656 < Builtin.nextslicecap (sLen + n) sCap * i.bytes) := by
      have := growslice_fits (need := sLen + n) (old := sCap) (bytes := ei.bytes) hg (by omega)
      rw [hib]; omega
    clear hb hs p46
    have q1 := ho w.drew rfl
    have q2 := (hn w.drew rfl).1
    have q3 := (hn w rfl).2
    rw [← his] at q1 q2
    simp [Builtin.append_, run_underlying h1, run_underlying h2, Go.sizeOf, typeInfo, zeroValue, hi, hz, q3, c1, c2, c3, Question.forced, q1, q2, newRow, grownCap]
    congr 2
    apply Array.ext'
    simp [List.append_assoc]
  · simp [zeroCells_size, ol, nl, z2]
    rw [← Nat.add_mul, ← Nat.add_mul]
    congr 1
    omega

theorem run_append_in {w : World} {t1 t2 ty e : TypeId} {ei : TI} (h1 : P.underlying t1 = some (.slice e)) (h2 : ∃ e2, P.underlying t2 = some (.slice e2)) (he : TIok P e ei) {kk off sLen sCap n : Nat} {src : Value}
    {news : List Value} (hn : (Builtin.firstCells ei.size n src).run P w = .ok news.toArray w ∧ (Builtin.lenOf src).run P w = .ok n w)
    (hg : sLen + n ≤ sCap) {arr : Array Value} {rt : TypeId} (hk : w.heap[kk]? = some (Obj.cells arr rt (0, 0))) (hb : off + sLen * ei.size + news.length ≤ arr.size) (hone : ∀ u ∈ news, u.oneCell' = true) :
    ∃ w' arr', (Builtin.append_ #[t1, t2] ty #[.slice (some ⟨kk, off, none⟩) sLen sCap, src]).run P w = .ok (.slice (some ⟨kk, off, none⟩) (sLen + n) sCap) w' ∧ WSet w w' kk arr' rt ∧ WrAt arr arr' (off + sLen * ei.size) news := by
  obtain ⟨e2, h2⟩ := h2
  obtain ⟨i, z, hi, his, hib, hz, hm, hzl, _⟩ := he.info
  obtain ⟨w', arr', r1, r2, r3⟩ := run_storeCells_row (P := P) (k := kk) (ty := rt) (off := off + sLen * ei.size) news 0 w arr hk (by simpa using hb) hone
  refine ⟨w', arr', ?_, r2, by simpa using r3⟩
  obtain ⟨q1, q2⟩ := hn
  rw [← his] at q1 r1
  have e1 : (⟨kk, off, none⟩ : Addr).add (sLen * i.size) = ⟨kk, off + sLen * i.size, none⟩ := Addr.add_lit ..
  simp [Builtin.append_, run_underlying h1, run_underlying h2, Go.sizeOf, typeInfo, zeroValue, hi, hz, q2, hg, q1, e1, r1]
theorem run_append_none {w : World} {t1 t2 ty e : TypeId} {ei : TI} (h1 : P.underlying t1 = some (.slice e)) (h2 : ∃ e2, P.underlying t2 = some (.slice e2)) (he : TIok P e ei) {base : Option Addr} {sLen sCap : Nat} {src : Value}
    (hn : (Builtin.firstCells ei.size 0 src).run P w = .ok #[] w ∧ (Builtin.lenOf src).run P w = .ok 0 w) (hg : sLen ≤ sCap) :
    (Builtin.append_ #[t1, t2] ty #[.slice base sLen sCap, src]).run P w = .ok (.slice base sLen sCap) w := by
  obtain ⟨e2, h2⟩ := h2
  obtain ⟨i, z, hi, his, hib, hz, hm, hzl, _⟩ := he.info
  obtain ⟨q1, q2⟩ := hn
  rw [← his] at q1
  cases base <;> simp [Builtin.append_, run_underlying h1, run_underlying h2, Go.sizeOf, typeInfo, zeroValue, hi, hz, q2, hg, q1, storeCells]

/-- A new row of cells that were there: the blocks that it makes. -/
theorem app_new {cx : Cx} {μ : Nat → Option (Option Nat)} {σ : List (Nat × Option Blk)} {w w' : World} {nm n cap es : Nat} {e : TypeId} {old new : List S} {olds news : List Value} {rest : Array Value}
    (g : GoodB cx μ σ w) (hn : look σ nm = none) (hw : WNew w w' (olds.toArray ++ news.toArray ++ rest) e) (hs : (olds.toArray ++ news.toArray ++ rest).size = cap * es) (hnc : n ≤ cap)
    (ho : old.length = olds.length) (hr : ∀ (i : Nat) x, old[i]? = some x → ∃ u, olds[i]? = some u ∧ RelS cx w μ (Mut cx μ σ) x u)
    (hno : new.length = news.length) (hrn : ∀ (i : Nat) x, new[i]? = some x → ∃ u, news[i]? = some u ∧ RelS cx w μ (Mut cx μ σ) x u) :
    ∃ μ', GoodB cx μ' ((nm, some (.arr (old ++ new))) :: σ) w' ∧ Stab w w' (Mut cx μ σ) (Mut cx μ' ((nm, some (.arr (old ++ new))) :: σ)) ∧ Shape w w' ∧ Ext μ μ' ∧
      RelS cx w' μ' (Mut cx μ' ((nm, some (.arr (old ++ new))) :: σ)) (.mrow nm 0 n none es false) (.slice (some ⟨w.heap.size, 0, none⟩) n cap) := by
  have hrel : RelL cx w μ (Mut cx μ σ) (old ++ new) (olds.toArray ++ news.toArray ++ rest) := by
    intro i x hi
    by_cases h1 : i < old.length
    · rw [List.getElem?_append_left h1] at hi
      obtain ⟨u, hu, hx⟩ := hr i x hi
      refine ⟨u, ?_, hx⟩
      rw [Array.append_assoc, Array.getElem?_append_left (by simp; omega)]
      simpa using hu
    · rw [List.getElem?_append_right (by omega)] at hi
      obtain ⟨u, hu, hx⟩ := hrn _ x hi
      refine ⟨u, ?_, hx⟩
      have h2 := (List.getElem?_eq_some_iff.1 hu).1
      rw [Array.getElem?_append_left (by simp; omega), Array.getElem?_append_right (by simp; omega)]
      simp only [List.size_toArray, List.getElem?_toArray]
      rw [← ho]; exact hu
  obtain ⟨q1, q2, q3⟩ := goodB_new (bl := .arr (old ++ new)) g hn hw (by simp [Blk.l]; omega) hrel
  refine ⟨_, q1, q2, hw.shape, q3, .inr ⟨_, cap, upd_same .., rfl, (by show n + 0 ≤ cap; omega), (fun h => by cases h), _, e, hw.new, ?_⟩⟩
  rw [hs]; omega

theorem stab_trans {w w1 w2 : World} {M M1 M2 : Nat → Prop} (h : Stab w w1 M M1) (h' : Stab w1 w2 M1 M2) : Stab w w2 M M2 :=
  ⟨fun k o hk hm => h'.same k o (h.same k o hk hm) (h.out k o hk hm), fun k o hk hm => h'.out k o (h.same k o hk hm) (h.out k o hk hm)⟩

include hti in
theorem stAppend_ok {ts : Array TypeId} {xs : Array Operand} (hop : o.op = .call { callee := .builtin .append, args := xs, argTypes := ts }) (hd : dstB o s.m) (h : WpT P (stAppend ti s nm o ts xs k) Q) :
    ∃ e, OEff P o s e ∧ FreshW e.wr e.rd s ∧ WpT P (k e) Q := by
  unfold stAppend at h
  split at h
  case h_2 => exact h.elim
  rename_i t1 t2 x y hts hxs hnm
  have ets : ts = #[t1, t2] := by rw [← Array.toArray_toList (xs := ts), hts]
  have exs : xs = #[x, y] := by rw [← Array.toArray_toList (xs := xs), hxs]
  subst ets; subst exs
  split at h
  case h_2 => exact h.elim
  rename_i a1 b1 c1 d1 z1 e a2 b2 c2 d2 z2 e2 ht1 ht2
  split at h
  case h_2 => exact h.elim
  rename_i ei bs src hei hx hy
  have hu1 : P.underlying t1 = some (.slice e) := (hti _ _ ht1).td
  have hu2 : ∃ e2, P.underlying t2 = some (.slice e2) := ⟨_, (hti _ _ ht2).td⟩
  have htk := hti _ _ hei
  obtain ⟨new, n, rd, hrd, hsrc, h⟩ := srcRead_ok h
  -- what an append comes to in a state
  have hexec : ∀ A : Act, (execOp A.eval o) = (do pure (.value (← Builtin.append_ #[t1, t2] o.type #[A.eval x, A.eval y]))) := by
    intro A
    simp [execOp, hop, resolve, invoke, builtin]
  have cgx : ∀ s2 : St, (∀ j, Operand.tmp j ∈ o.op.operands → look s2.t j = look s.t j) → ops s2.t x = some bs ∧ ops s2.t y = some src := fun s2 ht =>
    ⟨(ops_congr fun j hj => ht j (by subst hj; rw [hop]; simp [Op.operands, Call.operands])).trans hx, (ops_congr fun j hj => ht j (by subst hj; rw [hop]; simp [Op.operands, Call.operands])).trans hy⟩
  have hfr : nm ∉ rd := fun hr => hrd nm hr hnm
  -- cells of one cell each
  have hone : ∀ {cx : Cx} {μ : Nat → Option (Option Nat)} {M : Nat → Prop} {w : World} {us : List Value}, (∀ x, x ∈ new → x.st = true) → us.length = new.length → (∀ (i : Nat) x, new[i]? = some x → ∃ v, us[i]? = some v ∧ RelS cx w μ M x v) → ∀ u ∈ us, u.oneCell' = true := by
    intro cx μ M w us hst hl hr u hu
    obtain ⟨j, hj⟩ := List.getElem?_of_mem hu
    have hjl : j < new.length := by rw [← hl]; exact (List.getElem?_eq_some_iff.1 hj).1
    obtain ⟨v, hv, hx⟩ := hr j _ (List.getElem?_eq_getElem hjl)
    rw [hj] at hv; injection hv with hv; subst hv
    exact (st_one (hst _ (List.getElem_mem hjl)) hx).1
  split at h
  · -- behind nil, or an empty row that is full
    obtain ⟨⟨hb1, hb2⟩, h⟩ := h
    refine ⟨_, oeff_value hd fun s2 hm ht hb hf cx μ A w g => ?_, by intro b hb _; simp [rT] at hb; subst hb; exact hnm, h⟩
    obtain ⟨rx, ry⟩ := cgx s2 ht
    obtain ⟨us, hus⟩ := hsrc s2 hb cx μ w g.toGoodB _ (ops_rel g.temps ry)
    have hn2 : look s2.σ nm = none := hf nm (by simp) hfr
    obtain ⟨hrx, hcap⟩ := ops_rel g.temps rx
    obtain ⟨a, cap, ex, _⟩ := row_slice hrx
    have hc0 : cap = 0 := hcap a 0 cap ex
    subst hc0
    obtain ⟨u1, u2, u3, _⟩ := id hus
    by_cases h0 : n = 0
    · subst h0
      have e1 : us = [] := List.eq_nil_of_length_eq_zero (by simpa using u1)
      have e2 : new = [] := List.eq_nil_of_length_eq_zero (by simpa using u2)
      subst e1; subst e2
      obtain ⟨q1, q2, q3⟩ := goodB_none (bl := .arr ([] ++ [])) g.toGoodB hn2 rfl
      have r := run_append_none (P := P) (ty := o.type) (base := a) hu1 hu2 htk (by simpa using hus.run w rfl) (Nat.le_refl 0)
      refine ⟨_, w, _, ?_, q1, q2, Shape.refl _, q3, .inl ⟨rfl, rfl, rfl, upd_same .., a, rfl⟩⟩
      rw [hexec, ex]; simp [r]
    · obtain ⟨w', cap, rest, r1, r2, r3, r4⟩ := run_append_new (P := P) (ty := o.type) (base := a) (sLen := 0) (sCap := 0) (olds := []) hu1 hu2 htk (fun w' _ => by cases a <;> simp [Builtin.firstCells, loadCells, loadCellsFrom]) (fun w' hw' => hus.run w' hw') (by simp) u1 (by omega) (by simpa using hb1) (by simpa using hb2)
      obtain ⟨μ', q1, q2, q3, q4, q5⟩ := app_new (es := ei.size) (n := n) (old := []) (new := new) g.toGoodB hn2 r3 r4 (by omega) rfl (by simp) (by omega) u3
      refine ⟨_, w', μ', ?_, q1, q2, q3, q4, q5⟩
      rw [hexec, ex]; simp [r1]
  · rename_i cs n0 hne _
    by_cases h0 : n = 0
    · have h := h.1 (by simpa using h0)
      refine ⟨_, oeff_value hd fun s2 hm ht hb hf cx μ A w g => ?_, by intro b hb _; simp [rT] at hb, h⟩
      obtain ⟨rx, ry⟩ := cgx s2 ht
      obtain ⟨us, hus⟩ := hsrc s2 hb cx μ w g.toGoodB _ (ops_rel g.temps ry)
      have hrx := ops_rel g.temps rx
      obtain ⟨a, cap, ex, _⟩ := row_slice hrx.1
      have hc0 : cap = n0 := hrx.2 a n0 cap ex
      subst hc0
      subst h0
      have e1 : us = [] := List.eq_nil_of_length_eq_zero (by simpa using hus.1)
      subst e1
      have r := run_append_none (P := P) (ty := o.type) (base := a) hu1 hu2 htk (by simpa using hus.run w rfl) (Nat.le_refl cap)
      refine ⟨_, w, μ, ?_, g.toGoodB, ⟨fun _ _ h _ => h, fun _ _ _ h => h⟩, Shape.refl _, Ext.refl _, hrx⟩
      rw [hexec, ex]; simp [r]
    · obtain ⟨⟨hb1, hb2, hl⟩, h⟩ := h.2 (by simpa using h0)
      refine ⟨_, oeff_value hd fun s2 hm ht hb hf cx μ A w g => ?_, by intro b hb _; simp [rT] at hb; subst hb; exact hnm, h⟩
      obtain ⟨rx, ry⟩ := cgx s2 ht
      obtain ⟨us, hus⟩ := hsrc s2 hb cx μ w g.toGoodB _ (ops_rel g.temps ry)
      have hn2 : look s2.σ nm = none := hf nm (by simp) hfr
      obtain ⟨hrx, hcap⟩ := ops_rel g.temps rx
      obtain ⟨a, cap, ex, _⟩ := row_slice hrx
      have hc0 : cap = n0 := hcap a n0 cap ex
      subst hc0
      obtain ⟨os, hos⟩ := row_src (es := ei.size) (cx := cx) (μ := μ) hrx hl
      obtain ⟨u1, u2, u3, _⟩ := id hus
      obtain ⟨o1, o2, o3, _⟩ := id hos
      rw [ex] at hos
      obtain ⟨w', cap', rest, r1, r2, r3, r4⟩ := run_append_new (P := P) (ty := o.type) hu1 hu2 htk (fun w' hw' => (hos.run w' hw').1) (fun w' hw' => hus.run w' hw') o1 u1 (by omega) hb1 hb2
      obtain ⟨μ', q1, q2, q3, q4, q5⟩ := app_new (es := ei.size) (n := cap + n) (old := cs.map S.v) (new := new) g.toGoodB hn2 r3 r4 (by omega) (by omega) o3 (by omega) u3
      refine ⟨_, w', μ', ?_, q1, q2, q3, q4, q5⟩
      rw [hexec, ex]; simp [r1]
  · rename_i b off n0 sp es ex _
    split at h
    case h_2 => exact h.elim
    rename_i bl hbl
    split at h
    case isFalse => exact h.elim
    rename_i hes
    simp only [Bool.and_eq_true, Bool.not_eq_true'] at hes
    have hes1 : es = ei.size := Nat.eq_of_beq_eq_true hes.1
    have hnb : nm ≠ b := by rintro rfl; rw [hbl] at hnm; cases hnm
    split at h
    · -- full: a new row behind it
      by_cases h0 : n = 0
      · have h := h.1 (by simpa using h0)
        refine ⟨_, oeff_value hd fun s2 hm ht hb hf cx μ A w g => ?_, by intro b hb _; simp [rT] at hb, h⟩
        obtain ⟨rx, ry⟩ := cgx s2 ht
        obtain ⟨us, hus⟩ := hsrc s2 hb cx μ w g.toGoodB _ (ops_rel g.temps ry)
        have hrx := ops_rel g.temps rx
        obtain ⟨a, cap, ex, hle⟩ : ∃ a cap, A.eval x = .slice a n0 cap ∧ n0 ≤ cap := by
          rcases hrx with ⟨rfl, _, _, _, a, e⟩ | ⟨kk, cap, _, e, hle, _⟩
          · exact ⟨a, 0, e, Nat.le_refl _⟩
          · exact ⟨_, cap, e, by omega⟩
        subst h0
        have e1 : us = [] := List.eq_nil_of_length_eq_zero (by simpa using hus.1)
        subst e1
        have r := run_append_none (P := P) (ty := o.type) (base := a) hu1 hu2 htk (by simpa using hus.run w rfl) hle
        refine ⟨_, w, μ, ?_, g.toGoodB, ⟨fun _ _ h _ => h, fun _ _ _ h => h⟩, Shape.refl _, Ext.refl _, hrx⟩
        rw [hexec, ex]; simp [r]
      · obtain ⟨⟨hb1, hb2⟩, h⟩ := h.2 (by simpa using h0)
        obtain ⟨old, hold, h⟩ := read_ok h
        refine ⟨_, oeff_value hd fun s2 hm ht hb hf cx μ A w g => ?_, by intro b hb _; simp [rT] at hb; subst hb; exact hnm, h⟩
        obtain ⟨rx, ry⟩ := cgx s2 ht
        obtain ⟨us, hus⟩ := hsrc s2 (fun b' hb' => hb b' (List.mem_cons_of_mem _ hb')) cx μ w g.toGoodB _ (ops_rel g.temps ry)
        have hn2 : look s2.σ nm = none := hf nm (by simp) (by simp [hnb, hfr])
        have hb2' : look s2.σ b = some (some bl) := (hb b (by simp)).trans hbl
        have hrx := ops_rel g.temps rx
        obtain ⟨os, hos⟩ := mrow_src g.toGoodB hb2' hrx hold
        obtain ⟨a, cap, ex, hcap⟩ : ∃ a cap, A.eval x = .slice a n0 cap ∧ cap = n0 := by
          rcases hrx with ⟨rfl, _, _, _, a, e⟩ | ⟨kk, cap, _, e, hle, hx, _⟩
          · exact ⟨a, 0, e, rfl⟩
          · exact ⟨_, cap, e, by simpa using hx rfl⟩
        subst hcap
        obtain ⟨u1, u2, u3, _⟩ := id hus
        obtain ⟨o1, o2, o3, _⟩ := id hos
        rw [ex] at hos
        rw [hes1] at hos o1 o2
        obtain ⟨w', cap', rest, r1, r2, r3, r4⟩ := run_append_new (P := P) (ty := o.type) hu1 hu2 htk (fun w' hw' => (hos.run w' hw').1) (fun w' hw' => hus.run w' hw') o1 u1 (by omega) hb1 hb2
        obtain ⟨μ', q1, q2, q3, q4, q5⟩ := app_new (es := es) (n := cap + n) (old := old) (new := new) g.toGoodB hn2 r3 (by rw [r4, hes1]) (by omega) (by omega) o3 (by omega) u3
        refine ⟨_, w', μ', ?_, q1, q2, q3, q4, q5⟩
        rw [hexec, ex]; simp [r1]
    · -- it goes on where there is room, or in a new row: the old name is given up
      obtain ⟨⟨hst, hoff, hlen, hb1, hb2⟩, hk0⟩ := h
      subst hoff
      refine ⟨_, oeff_value hd fun s2 hm ht hb hf cx μ A w g => ?main, ?fr, hk0⟩
      case fr =>
        intro b' hb' hr
        simp [rT] at hb' hr
        rcases hb' with rfl | rfl
        · exact hnm
        · exact absurd rfl hr.1
      obtain ⟨rx, ry⟩ := cgx s2 ht
      obtain ⟨us, hus⟩ := hsrc s2 (fun b' hb' => hb b' (List.mem_cons_of_mem _ hb')) cx μ w g.toGoodB _ (ops_rel g.temps ry)
      have hn2 : look s2.σ nm = none := hf nm (by simp) (by simp [hnb, hfr])
      have hb2' : look s2.σ b = some (some bl) := (hb b (by simp)).trans hbl
      have hrx := ops_rel g.temps rx
      have hold : takeN bl.l 0 (n0 * es) = some bl.l := by
        unfold takeN
        rw [if_pos (by rw [Nat.zero_add, hlen]; exact Nat.ble_eq_true_of_le (Nat.le_refl _))]
        rw [List.drop_zero, ← hlen, List.take_length]
      obtain ⟨os, hos⟩ := mrow_src g.toGoodB hb2' hrx hold
      obtain ⟨u1, u2, u3, _⟩ := id hus
      obtain ⟨o1, o2, o3, _⟩ := id hos
      obtain ⟨d1, d2⟩ := goodB_dead g.toGoodB (n := b) (by rw [hb2']; simp)
      have hn3 : look ((b, none) :: s2.σ) nm = none := by rw [look_cons, if_neg (Ne.symm hnb)]; exact hn2
      have sh0 : Shape w w := Shape.refl w
      -- a new row
      have newcase : ∀ a cap, A.eval x = .slice a n0 cap → cap < n0 + n → ∃ u w' μ', (execOp A.eval o).run P w = .ok (.value u) w' ∧ GoodB cx μ' ((nm, some (.arr (bl.l ++ new))) :: (b, none) :: s2.σ) w' ∧
          Stab w w' (Mut cx μ s2.σ) (Mut cx μ' ((nm, some (.arr (bl.l ++ new))) :: (b, none) :: s2.σ)) ∧ Shape w w' ∧ Ext μ μ' ∧ RelS cx w' μ' (Mut cx μ' ((nm, some (.arr (bl.l ++ new))) :: (b, none) :: s2.σ)) (.mrow nm 0 (n0 + n) none es false) u := by
        intro a cap ex hc
        rw [ex] at hos
        rw [hes1] at hos o1 o2
        obtain ⟨w', cap', rest, r1, r2, r3, r4⟩ := run_append_new (P := P) (ty := o.type) hu1 hu2 htk (fun w' hw' => (hos.run w' hw').1) (fun w' hw' => hus.run w' hw') o1 u1 hc hb1 hb2
        obtain ⟨μ', q1, q2, q3, q4, q5⟩ := app_new (es := es) (n := n0 + n) (old := bl.l) (new := new) d1 hn3 r3 (by rw [r4, hes1]) (by omega) (by omega) (fun i x hi => (o3 i x hi).imp fun v hv => ⟨hv.1, hv.2.stab d2 sh0 (Ext.refl _)⟩) (by omega) (fun i x hi => (u3 i x hi).imp fun v hv => ⟨hv.1, hv.2.stab d2 sh0 (Ext.refl _)⟩)
        refine ⟨_, w', μ', ?_, q1, stab_trans d2 q2, q3, q4, q5⟩
        rw [hexec, ex]; simp [r1]
      rcases id hrx with ⟨h00, _, _, hv, a, e⟩ | ⟨kk, cap, hk, e, hle, hx, hrow⟩
      · subst h00
        by_cases h0 : n = 0
        · subst h0
          have e1 : us = [] := List.eq_nil_of_length_eq_zero (by simpa using u1)
          have e2 : new = [] := List.eq_nil_of_length_eq_zero (by simpa using u2)
          have e3 : bl.l = [] := List.eq_nil_of_length_eq_zero (by simpa using hlen)
          subst e1; subst e2
          obtain ⟨q1, q2, q3⟩ := goodB_none (bl := .arr (bl.l ++ [])) d1 hn3 (by show bl.l ++ [] = []; rw [e3]; rfl)
          have r := run_append_none (P := P) (ty := o.type) (base := a) hu1 hu2 htk (by simpa using hus.run w rfl) (Nat.le_refl 0)
          refine ⟨_, w, _, ?_, q1, stab_trans d2 q2, Shape.refl _, q3, .inl ⟨rfl, rfl, rfl, upd_same .., a, rfl⟩⟩
          rw [hexec, e]; simp [r]
        · exact newcase a 0 e (by omega)
      · by_cases hroom : n0 + n ≤ cap
        · obtain ⟨arr, rt, hh, hsz⟩ := hrow
          rw [Nat.zero_add] at hsz
          have hbnd : 0 + n0 * ei.size + us.length ≤ arr.size := by
            rw [u1, ← hes1]
            have : (n0 + n) * es ≤ cap * es := Nat.mul_le_mul_right _ hroom
            rw [Nat.add_mul] at this
            omega
          obtain ⟨w', arr', r1, r2, r3⟩ := run_append_in (P := P) (ty := o.type) hu1 hu2 htk (hus.run w rfl) hroom hh hbnd (hone hst (by omega) u3)
          rcases g.blks b bl hb2' with ⟨h', _⟩ | ⟨k', arr0, ty0, g1, g2, g3, g4⟩
          · rw [hk] at h'; cases h'
          · rw [hk] at g1; injection g1 with g1; injection g1 with g1; subst g1
            rw [hh] at g2; injection g2 with g2; injection g2 with g2 _ _; subst g2
            have hrel : RelL cx w μ (Mut cx μ s2.σ) (bl.l ++ new) arr' := by
              intro i y hi
              rw [r3.get]
              by_cases h1 : i < bl.l.length
              · rw [List.getElem?_append_left h1] at hi
                rw [if_neg (by rw [← hes1]; omega)]
                exact g4 i y hi
              · rw [List.getElem?_append_right (by omega)] at hi
                have h2 := (List.getElem?_eq_some_iff.1 hi).1
                rw [if_pos (by rw [← hes1]; omega)]
                have e5 : i - (0 + n0 * ei.size) = i - bl.l.length := by rw [← hes1, hlen]; omega
                rw [e5]
                exact u3 _ y hi
            have hle2 : (bl.l ++ new).length ≤ arr'.size := by
              rw [r3.size, List.length_append, hlen, u2]
              rw [u1, ← hes1] at hbnd
              rw [← hes1]
              omega
            obtain ⟨q1, q2, q3⟩ := goodB_take (bl := .arr (bl.l ++ new)) g.toGoodB ⟨bl, hb2'⟩ hk hn2 hh r2 r3.size hle2 hrel
            refine ⟨_, w', _, ?_, q1, q2, r2.shape hh r3.size, q3, .inr ⟨kk, cap, upd_same .., rfl, (by show n0 + n + 0 ≤ cap; omega), (fun h => by cases h), arr', rt, r2.here, by rw [r3.size]; omega⟩⟩
            rw [hexec, e]; simp [r1]
        · exact newcase _ cap e (by omega)
    · -- within its room
      rename_i sp
      obtain ⟨⟨hst, hle⟩, h⟩ := h
      obtain ⟨bl', hw1, hw2, h⟩ := write_ok h
      refine ⟨_, oeff_value hd fun s2 hm ht hb hf cx μ A w g => ?main2, ?fr2, h⟩
      case fr2 =>
        intro b' hb' hr
        simp [rT] at hb' hr
        exact absurd hb' hr.1
      obtain ⟨rx, ry⟩ := cgx s2 ht
      obtain ⟨us, hus⟩ := hsrc s2 (fun b' hb' => hb b' (List.mem_cons_of_mem _ hb')) cx μ w g.toGoodB _ (ops_rel g.temps ry)
      have hb2' : look s2.σ b = some (some bl) := (hb b (by simp)).trans hbl
      have hrx := ops_rel g.temps rx
      obtain ⟨u1, u2, u3, _⟩ := id hus
      rcases id hrx with ⟨h00, hsp, _, hv, a, e⟩ | ⟨kk, cap, hk, e, hle', hx, hrow⟩
      · cases hsp
      · simp only [Option.getD_some] at hle' hx
        obtain ⟨arr, rt, hh, hsz⟩ := hrow
        have hbnd : off + n0 * ei.size + us.length ≤ arr.size := by
          rw [u1, ← hes1]
          have : (n0 + n) * es ≤ cap * es := Nat.mul_le_mul_right _ (by omega)
          rw [Nat.add_mul] at this
          omega
        obtain ⟨w', arr', r1, r2, r3⟩ := run_append_in (P := P) (ty := o.type) (kk := kk) (off := off) (sLen := n0) (sCap := cap) (n := n) hu1 hu2 htk (hus.run w rfl) (by omega) hh hbnd (hone hst (by omega) u3)
        rcases g.blks b bl hb2' with ⟨h', _⟩ | ⟨k', arr0, ty0, g1, g2, g3, g4⟩
        · rw [hk] at h'; cases h'
        · rw [hk] at g1; injection g1 with g1; injection g1 with g1; subst g1
          rw [hh] at g2; injection g2 with g2; injection g2 with g2 _ _; subst g2
          rw [← hes1] at r3
          have hlen : (putN bl.l (off + n0 * es) new).length = bl.l.length := putN_length _ _ _ hw1
          obtain ⟨q1, q2⟩ := goodB_set (bl := bl') g.toGoodB ⟨bl, hb2'⟩ hk hh r2 r3.size (by rw [hw2, hlen]; have := r3.size; omega) (by rw [hw2]; exact g4.put r3 (by omega) u3 hw1)
          refine ⟨_, w', μ, ?_, q1, q2, r2.shape hh r3.size, Ext.refl _, .inr ⟨kk, cap, hk, rfl, (by simp only [Option.getD_some]; omega), (fun hex => by have := hx hex; simp only [Option.getD_some] at this ⊢; omega), arr', rt, r2.here, by rw [r3.size]; omega⟩⟩
          rw [hexec, e]; simp [r1]
  · exact h.elim
end
end Gx
