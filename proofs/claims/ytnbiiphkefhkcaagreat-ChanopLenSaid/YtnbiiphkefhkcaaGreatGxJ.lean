import Derived.Test.YtnbiiphkefhkcaaGreatGxI
import Derived.IntWalk
set_option linter.unusedVariables false
set_option linter.unusedSimpArgs false
namespace Gx
open Go

section
variable {P : Program} {ti : TypeId → Option TI} (hti : ∀ t x, ti t = some x → TIok P t x) {s : St} {nm : Nat} {o : Oper} {k : Eff → Tree} {Q : Ex → St → Prop}

theorem wnew_row (w : World) (arr : Array Value) (ty : TypeId) : ∀ (b : Nat), isRow { w with heap := w.heap.push (Obj.cells arr ty) } w.heap.size arr.size := fun b =>
  ⟨arr, ty, by rw [Array.getElem?_push, if_pos rfl], Nat.le_refl _⟩

/-! buildSlice -/
def stBuildSlice (ti : TypeId → Option TI) (s : St) (nm : Nat) (o : Oper) (ty : TypeId) (len : Nat) (ps : Array (Nat × Operand)) (k : Eff → Tree) : Tree :=
  match ti ty, mapO (partO s.t) ps.toList, look s.σ nm with
  | some ⟨_, _, _, _, _, .slice e⟩, some ds, none => match ti e with
    | some ei => match fillS (fun i => some (i * ei.size, ei.size)) (repS len ei.zero) ds with
      | some l => if Nat.ble (len * ei.size) 1000 then k (rT o (.d (.sc (.mrow nm 0 len none ei.size true))) [(nm, some (.arr l))] []) else .fail
      | none => .fail
    | none => .fail
  | _, _, _ => .fail
include hti in
theorem stBuildSlice_ok {ty : TypeId} {len : Nat} {ps : Array (Nat × Operand)} (hop : o.op = .buildSlice ty len ps) (hd : dstB o s.m) (h : WpT P (stBuildSlice ti s nm o ty len ps k) Q) : ∃ e, OEff P o s e ∧ FreshW e.wr e.rd s ∧ WpT P (k e) Q := by
  unfold stBuildSlice at h
  split at h
  · rename_i a b c d z e ds hs hds hn
    split at h
    · rename_i ei hei
      split at h
      · rename_i l hl
        split at h
        · rename_i hle
          refine ⟨_, oeff_value hd fun s2 hm ht hb hf cx μ A w g => ?_, by intro b hb _; simp [rT] at hb; subst hb; exact hn, h⟩
          have hle' := Nat.le_of_ble_eq_true hle
          have hn2 : look s2.σ nm = none := hf nm (by simp) (by simp)
          have hu : P.underlying ty = some (.slice e) := (hti _ _ hs).td
          have htk := hti _ _ hei
          obtain ⟨zv, h1, h2, h3, h4, h5⟩ := run_zeroT htk
          have cg : mapO (partO s2.t) ps.toList = some ds := by
            rw [← hds]
            refine mapO_congr fun p hp => ?_
            unfold partO
            rw [opd_congr (t := s.t) fun j hj => ht j (by rw [hop]; simp only [Op.operands, List.mem_toArray, List.mem_map]; exact ⟨p, hp, hj⟩)]
          obtain ⟨p1, p2⟩ := partO_rel g.temps cg
          have eqv : (ps.map fun (i, x) => (i, A.eval x)).toList = ps.toList.map fun p => (p.1, A.eval p.2) := by simp
          -- the zero cells
          have hzr := rep_rel (n := len) (h4 cx w μ (Mut cx μ s2.σ)) h3
          have hsz : ei.zero.length = ei.size := by omega
          rw [hsz] at hzr
          obtain ⟨arr', f1, f2, f3, f4⟩ := fill_rel hl hzr (by rw [repS_length]; simp [hsz]) p1 p2
          have hw := wnew_push w arr' e
          obtain ⟨q1, q2, q3⟩ := goodB_new (bl := .arr l) g.toGoodB hn2 hw (by show l.length ≤ _; rw [f4, f3, repS_length]; simp [hsz]) f2
          refine ⟨.slice (some ⟨w.heap.size, 0, none⟩) len len, _, _, ?_, q1, q2, hw.shape, q3, .inr ⟨_, len, upd_same .., rfl, Nat.le_refl _, fun _ => rfl, ?_⟩⟩
          · simp only [execOp, hop, Instr.buildSlice, Sem.run_bind, run_underlying hu, run_sizeT htk, Result.andThen_ok]
            rw [if_neg (by omega)]
            have key : ∀ zz : Array Value, (Array.range (len * ei.size)).map (zz[· % zz.size]!) = (Array.range (len * ei.size)).map (zv.cells[· % zv.cells.size]!) →
                Instr.fill (fun i => some (i * ei.size, ei.size)) ((Array.range (len * ei.size)).map (zz[· % zz.size]!)) (ps.toList.map fun p => (p.1, A.eval p.2)) = some arr' := fun zz hzz => by rw [hzz]; exact f1
            by_cases h0 : len * ei.size = 0
            · rw [if_pos h0]
              simp only [Sem.run_bind, Sem.run_pure, Result.andThen_ok, eqv]
              rw [key #[] (by rw [h0]; simp)]
              simp [newRow]
            · rw [if_neg h0]
              simp only [Sem.run_bind, Sem.run_pure, Result.andThen_ok, eqv, h1]
              rw [key zv.cells rfl]
              simp [newRow]
          · have := wnew_row w arr' e 0
            have e1 : arr'.size = len * ei.size := by rw [f3]; simp
            rw [e1] at this
            simpa using this
        · exact h.elim
      · exact h.elim
    · exact h.elim
  · exact h.elim

/-! makeSlice -/
def stMake (ti : TypeId → Option TI) (s : St) (nm : Nat) (o : Oper) (ty : TypeId) (x y : Operand) (k : Eff → Tree) : Tree :=
  match ti ty, opi s.t x, opi s.t y, look s.σ nm with
  | some ⟨_, _, _, _, _, .slice e⟩, some (_, n), some (_, c), none => match ti e with
    | some ei => .chk (n = c ∧ 0 ≤ n ∧ n < 2 ^ 40 ∧ n * ei.bytes ≤ 2 ^ 48) (k (rT o (.d (.sc (.mrow nm 0 n.toNat none ei.size true))) [(nm, some (.arr (repS n.toNat ei.zero)))] []))
    | none => .fail
  | _, _, _, _ => .fail
include hti in
theorem stMake_ok {ty : TypeId} {x y : Operand} (hop : o.op = .makeSlice ty x y) (hd : dstB o s.m) (h : WpT P (stMake ti s nm o ty x y k) Q) : ∃ e, OEff P o s e ∧ FreshW e.wr e.rd s ∧ WpT P (k e) Q := by
  unfold stMake at h
  split at h
  · rename_i a b c d z e k1 n k2 cc hs hx hy hn
    split at h
    · rename_i ei hei
      obtain ⟨⟨rfl, h0, hlt, hby⟩, h⟩ := h
      refine ⟨_, oeff_value hd fun s2 hm ht hb hf cx μ A w g => ?_, by intro b hb _; simp [rT] at hb; subst hb; exact hn, h⟩
      have hn2 : look s2.σ nm = none := hf nm (by simp) (by simp)
      have hu : P.underlying ty = some (.slice e) := (hti _ _ hs).td
      have htk := hti _ _ hei
      obtain ⟨zv, h1, h2, h3, h4, h5⟩ := run_zeroT htk
      have ex : A.eval x = .int k1 n := opi_rel g.temps ((opi_congr fun j hj => ht j (by subst hj; rw [hop]; simp [Op.operands])).trans hx)
      have ey : A.eval y = .int k2 n := opi_rel g.temps ((opi_congr fun j hj => ht j (by subst hj; rw [hop]; simp [Op.operands])).trans hy)
      have hzr := rep_rel (n := n.toNat) (h4 cx w μ (Mut cx μ s2.σ)) h3
      have hsz : ei.zero.length = ei.size := by omega
      rw [hsz] at hzr
      have hw := wnew_push w ((Array.range (n.toNat * ei.size)).map (zv.cells[· % zv.cells.size]!)) e
      obtain ⟨q1, q2, q3⟩ := goodB_new (bl := .arr (repS n.toNat ei.zero)) g.toGoodB hn2 hw (by show (repS n.toNat ei.zero).length ≤ _; rw [repS_length]; simp [hsz]) hzr
      refine ⟨.slice (some ⟨w.heap.size, 0, none⟩) n.toNat n.toNat, _, _, ?_, q1, q2, hw.shape, q3, .inr ⟨_, n.toNat, upd_same .., rfl, Nat.le_refl _, fun _ => rfl, ?_⟩⟩
      · have hwr : IntKind.i64.wrap n = n := by
          have : (2 : Int) ^ 40 = 1099511627776 := by decide
          exact IntWalk.i64_in n (by omega)
        obtain ⟨i, hi, hib, his⟩ := run_infoT htk w
        have htl : ∀ b' : Int, (decide (n < 0) || decide ((i.bytes : Int) * n > 2 ^ 48)) = false := by
          intro _
          rw [hib]
          have e1 : decide (n < 0) = false := decide_eq_false (by omega)
          have e2 : decide ((ei.bytes : Int) * n > 2 ^ 48) = false := decide_eq_false (by rw [Int.mul_comm]; omega)
          rw [e1, e2]; rfl
        simp only [execOp, hop, Instr.makeSlice, ex, ey, Sem.run_bind, run_underlying hu, Result.andThen_ok, asInt, asIntOf, Sem.run_pure, hi, hwr, htl 0]
        rw [if_neg (by simp; omega)]
        simp only [Sem.run_bind, run_askRoom, Result.andThen_ok, run_sizeT htk]
        by_cases h0 : n.toNat * ei.size = 0
        · rw [if_pos h0]
          simp [newRow, h0, Array.range_zero']
        · rw [if_neg h0]
          simp [newRow, h1]
      · have := wnew_row w ((Array.range (n.toNat * ei.size)).map (zv.cells[· % zv.cells.size]!)) e 0
        simpa using this
    · exact h.elim
  · exact h.elim

/-! load -/
theorem run_loadVar {x : TI} {ty : TypeId} (hx : TIok P ty x) (w : World) (bl off : Nat) (us : List Value) (hl : us.length = x.size) (h : ∀ (i : Nat) u, us[i]? = some u → w.cell? ⟨bl, off + i, none⟩ = some u) :
    ∃ u, (Instr.loadAt ty (.pointer (some ⟨bl, off, none⟩))).run P w = .ok u w ∧ (x.agg = true → u = .agg us.toArray) ∧ (x.agg = false → ∀ v, us = [v] → u = v) := by
  have hag := hx.agg
  cases ha : x.agg with
  | true =>
    rw [ha] at hag
    have := run_loadCells_list (P := P) w ⟨bl, off, none⟩ us (fun j v hj => by rw [Addr.add_lit]; exact h j v hj)
    rw [hl] at this
    exact ⟨.agg us.toArray, by simp [Instr.loadAt, Instr.sureAddr, loadVar, run_isAggB hag, run_sizeT hx, this], fun _ => rfl, fun h => by cases h⟩
  | false =>
    rw [ha] at hag
    by_cases hone : ∃ v, us = [v]
    · obtain ⟨v, rfl⟩ := hone
      have hc := h 0 v rfl
      have hc' : w.cell? ⟨bl, off, none⟩ = some v := hc
      exact ⟨v, by simp [Instr.loadAt, Instr.sureAddr, loadVar, run_isAggB hag, hc'], (fun h => by cases h), (fun _ v' e => by injection e)⟩
    · -- a type of no single cell that is no aggregate: not met
      exfalso
      obtain ⟨i, z, _, his, _, _, hm, hzl, hf⟩ := hx.info
      exact hone (by
        have : us.length = 1 := by
          rw [hl]
          exact hx.one ha
        match us, this with
        | [v], _ => exact ⟨v, rfl⟩)

def Blk.read (l : Blk) (off n : Nat) (k : List S → Tree) : Tree :=
  match l with
  | .var l => match takeN l off n with | some cs => k cs | none => .fail
  | .arr l => .rd l off n k
theorem read_ok {l : Blk} {off n : Nat} {k : List S → Tree} (h : WpT P (l.read off n k) Q) : ∃ cs, takeN l.l off n = some cs ∧ WpT P (k cs) Q := by
  cases l with
  | var l =>
    simp only [Blk.read] at h
    split at h
    · rename_i cs hcs; exact ⟨cs, hcs, h⟩
    · exact h.elim
  | arr l => exact h

/-- The values of cells of a row that is live. -/
theorem cells_at {cx : Cx} {μ : Nat → Option (Option Nat)} {σ : List (Nat × Option Blk)} {w : World} (g : GoodB cx μ σ w) {b kk : Nat} {bl : Blk} (hb : look σ b = some (some bl)) (hμ : μ b = some (some kk)) {off n : Nat} {cs : List S} (hc : takeN bl.l off n = some cs) :
    ∃ us : List Value, us.length = n ∧ (∀ (i : Nat) u, us[i]? = some u → w.cell? ⟨kk, off + i, none⟩ = some u) ∧ ∀ (i : Nat) x, cs[i]? = some x → ∃ u, us[i]? = some u ∧ RelS cx w μ (Mut cx μ σ) x u := by
  rcases g.blks b bl hb with ⟨h, _⟩ | ⟨k', arr, ty, h1, h2, h3, h4⟩
  · rw [hμ] at h; cases h
  · rw [hμ] at h1; injection h1 with h1; injection h1 with h1; subst h1
    obtain ⟨t1, t2, t3⟩ := takeN_spec hc
    refine ⟨(arr.toList.drop off).take n, by simp; omega, fun i u hi => ?_, fun i x hi => ?_⟩
    · rw [cell_of_row w kk _ arr ty (0, 0) h2]
      rw [List.getElem?_take] at hi
      split at hi
      · rw [List.getElem?_drop] at hi; simpa using hi
      · cases hi
    · obtain ⟨u, h5, h6⟩ := h4 _ _ (takeN_get hc i x hi)
      refine ⟨u, ?_, h6⟩
      have : i < n := by rw [← t2]; exact (List.getElem?_eq_some_iff.1 hi).1
      rw [List.getElem?_take, if_pos this, List.getElem?_drop]
      simpa using h5

def stLoad (ti : TypeId → Option TI) (s : St) (o : Oper) (ty : TypeId) (a : Operand) (k : Eff → Tree) : Tree :=
  match ti ty, ops s.t a with
  | some x, some (.ptr b off) => match look s.σ b with
    | some (some bl) => bl.read off x.size fun cs => match mkD x.agg cs with
      | some d => k (rT o (.d d) [] [b])
      | none => .fail
    | _ => .fail
  | some x, some (.eptr cs off) => .rdv cs off x.size fun vs => match mkD x.agg (vs.map S.v) with
    | some d => k (rT o (.d d) [] [])
    | none => .fail
  | _, _ => .fail
theorem mkD_rel {cx : Cx} {w : World} {μ : Nat → Option (Option Nat)} {M : Nat → Prop} {ag : Bool} {cs : List S} {d : D} {us : List Value} {u : Value} (h : mkD ag cs = some d) (hl : us.length = cs.length)
    (hr : ∀ (i : Nat) x, cs[i]? = some x → ∃ u, us[i]? = some u ∧ RelS cx w μ M x u) (h1 : ag = true → u = .agg us.toArray) (h2 : ag = false → ∀ v, us = [v] → u = v) : RelD cx w μ M d u := by
  cases ag with
  | true =>
    simp only [mkD] at h
    injection h with h; subst h
    exact ⟨us.toArray, h1 rfl, by simpa using hl, fun i x hi => (hr i x hi).imp fun v hv => ⟨by simpa using hv.1, hv.2⟩⟩
  | false =>
    simp only [mkD] at h
    split at h
    · rename_i x
      injection h with h; subst h
      obtain ⟨v, h3, h4⟩ := hr 0 x rfl
      match us, hl with
      | [v'], _ =>
        simp at h3; subst h3
        rw [h2 rfl v' rfl]; exact h4
    · cases h
include hti in
theorem stLoad_ok {ty : TypeId} {a : Operand} (hop : o.op = .load ty a) (hd : dstB o s.m) (h : WpT P (stLoad ti s o ty a k) Q) : ∃ e, OEff P o s e ∧ FreshW e.wr e.rd s ∧ WpT P (k e) Q := by
  unfold stLoad at h
  split at h
  · rename_i x b off hs ha
    split at h
    · rename_i bl hbl
      obtain ⟨cs, hcs, h⟩ := read_ok h
      split at h
      · rename_i d hdd
        refine ⟨_, oeff_value hd fun s2 hm ht hb hf cx μ A w g => ?_, by intro b hb _; simp [rT] at hb, h⟩
        have hb2 : look s2.σ b = some (some bl) := (hb b (by simp)).trans hbl
        obtain ⟨kk, hk, hu⟩ := ops_rel g.temps ((ops_congr fun j hj => ht j (by subst hj; rw [hop]; simp [Op.operands])).trans ha)
        obtain ⟨us, u1, u2, u3⟩ := cells_at g.toGoodB hb2 hk hcs
        obtain ⟨u, h1, h2, h3⟩ := run_loadVar (hti _ _ hs) w kk off us u1 u2
        refine ⟨u, w, μ, ?_, g.toGoodB, ⟨fun _ _ h _ => h, fun _ _ _ h => h⟩, Shape.refl _, Ext.refl _, ?_⟩
        · simp [execOp, hop, hu, h1]
        · exact mkD_rel hdd (by rw [u1, (takeN_spec hcs).2.1]) u3 h2 h3
      · exact h.elim
    · exact h.elim
  · rename_i x cs off hs ha
    obtain ⟨vs, hvs, h⟩ := h
    dsimp only at h
    split at h
    · rename_i d hdd
      refine ⟨_, oeff_value hd fun s2 hm ht hb hf cx μ A w g => ?_, by intro b hb _; simp [rT] at hb, h⟩
      obtain ⟨ad, hu, hr0, hr⟩ := ops_rel g.temps ((ops_congr fun j hj => ht j (by subst hj; rw [hop]; simp [Op.operands])).trans ha)
      obtain ⟨t1, t2, t3⟩ := takeN_spec hvs
      have hex : ∃ us : List Value, us.length = x.size ∧ (∀ (i : Nat) u, us[i]? = some u → w.cell? ⟨ad.block, ad.off + off + i, none⟩ = some u) ∧ ∀ (i : Nat) y, (vs.map S.v)[i]? = some y → ∃ u, us[i]? = some u ∧ RelS cx w μ (Mut cx μ s2.σ) y u := by
        refine ⟨(List.range x.size).map fun i => (w.cell? ⟨ad.block, ad.off + off + i, none⟩).getD undef, by simp, fun i u hi => ?_, fun i y hi => ?_⟩
        · rw [List.getElem?_map] at hi
          by_cases hlt : i < x.size
          · rw [List.getElem?_range hlt] at hi
            simp at hi
            have : ∃ y, vs[i]? = some y := by
              have : i < vs.length := by omega
              exact ⟨_, List.getElem?_eq_getElem this⟩
            obtain ⟨y, hy⟩ := this
            obtain ⟨v, hv, _⟩ := hr _ _ (takeN_get hvs i y hy)
            rw [← Nat.add_assoc] at hv
            rw [hv] at hi ⊢
            simpa using hi
          · rw [List.getElem?_eq_none (by simp; omega)] at hi; cases hi
        · rw [List.getElem?_map] at hi
          cases hy : vs[i]? with
          | none => rw [hy] at hi; cases hi
          | some z =>
            rw [hy] at hi; injection hi with hi; subst hi
            obtain ⟨v, hv, hz⟩ := hr _ _ (takeN_get hvs i z hy)
            rw [← Nat.add_assoc] at hv
            have hlt : i < x.size := by rw [← t2]; exact (List.getElem?_eq_some_iff.1 hy).1
            refine ⟨v, ?_, hz⟩
            rw [List.getElem?_map, List.getElem?_range hlt]
            simp [hv]
      obtain ⟨us, u1, u2, u3⟩ := hex
      obtain ⟨u, h1, h2, h3⟩ := run_loadVar (hti _ _ hs) w ad.block (ad.off + off) us u1 u2
      refine ⟨u, w, μ, ?_, g.toGoodB, ⟨fun _ _ h _ => h, fun _ _ _ h => h⟩, Shape.refl _, Ext.refl _, ?_⟩
      · simp [execOp, hop, hu, h1]
      · exact mkD_rel hdd (by rw [u1]; simp [t2]) u3 h2 h3
    · exact h.elim
  · exact h.elim

/-! store -/
def D.stAll (d : D) : Bool := d.cells.all S.st
def Blk.write (bl : Blk) (off : Nat) (cs : List S) (k : Blk → Tree) : Tree :=
  match bl with
  | .var l => if Nat.ble (off + cs.length) l.length then k (.var (putN l off cs)) else .fail
  | .arr l => .chk (off + cs.length ≤ l.length) (k (.arr (putN l off cs)))
theorem write_ok {bl : Blk} {off : Nat} {cs : List S} {k : Blk → Tree} (h : WpT P (bl.write off cs k) Q) : ∃ bl', off + cs.length ≤ bl.l.length ∧ bl'.l = putN bl.l off cs ∧ WpT P (k bl') Q := by
  cases bl with
  | var l =>
    simp only [Blk.write] at h
    split at h
    · rename_i hb; exact ⟨_, Nat.le_of_ble_eq_true hb, rfl, h⟩
    · exact h.elim
  | arr l => exact ⟨_, h.1, rfl, h.2⟩
def stStore (ti : TypeId → Option TI) (s : St) (o : Oper) (ty : TypeId) (a x : Operand) (k : Eff → Tree) : Tree :=
  match ti ty, ops s.t a, opd s.t x with
  | some i, some (.ptr b off), some d => match look s.σ b with
    | some (some bl) => if d.st && d.stAll && Nat.beq d.cells.length i.size then bl.write off d.cells fun bl' => k (rT o (.d (.sc .any)) [(b, some bl')] [b]) else .fail
    | _ => .fail
  | _, _, _ => .fail
include hti in
theorem stStore_ok {ty : TypeId} {a x : Operand} (hop : o.op = .store ty a x) (hd : dstB o s.m) (h : WpT P (stStore ti s o ty a x k) Q) : ∃ e, OEff P o s e ∧ FreshW e.wr e.rd s ∧ WpT P (k e) Q := by
  unfold stStore at h
  split at h
  · rename_i i b off d hs ha hx
    split at h
    · rename_i bl hbl
      split at h
      · rename_i hc
        simp only [Bool.and_eq_true] at hc
        obtain ⟨⟨c1, c2⟩, c3⟩ := hc
        have c3' := Nat.eq_of_beq_eq_true c3
        obtain ⟨bl', hle, hbl', h⟩ := write_ok h
        refine ⟨_, oeff_skip hd fun s2 hm ht hb hf cx μ A w g => ?_, by intro b' hb' hr; simp [rT] at hb' hr; exact absurd hb' hr, h⟩
        have hb2 : look s2.σ b = some (some bl) := (hb b (by simp)).trans hbl
        obtain ⟨kk, hk, hu⟩ := ops_rel g.temps ((ops_congr fun j hj => ht j (by subst hj; rw [hop]; simp [Op.operands])).trans ha)
        have hdr := opd_rel g.temps ((opd_congr fun j hj => ht j (by subst hj; rw [hop]; simp [Op.operands])).trans hx)
        obtain ⟨e1, e2⟩ := cells_rel c1 hdr
        rcases g.blks b bl hb2 with ⟨h', _⟩ | ⟨k', arr, ty', h1, h2, h3, h4⟩
        · rw [hk] at h'; cases h'
        · rw [hk] at h1; injection h1 with h1; injection h1 with h1; subst h1
          have hone : ∀ u ∈ (A.eval x).cells.toList, u.oneCell' = true := by
            intro u hu
            obtain ⟨j, hj⟩ := List.getElem?_of_mem hu
            have hjl : j < d.cells.length := by rw [← e1]; simpa using (List.getElem?_eq_some_iff.1 hj).1
            obtain ⟨v, hv, hr⟩ := e2 j _ (List.getElem?_eq_getElem hjl)
            rw [hj] at hv; injection hv with hv; subst hv
            unfold D.stAll at c2
            rw [List.all_eq_true] at c2
            exact (st_one (c2 _ (List.getElem_mem hjl)) hr).1
          obtain ⟨w', arr', r1, r2, r3⟩ := run_storeCells_row (P := P) (k := kk) (ty := ty') (off := off) (A.eval x).cells.toList 0 w arr h2 (by simp; omega) hone
          rw [Nat.add_zero] at r3
          have hlen : (putN bl.l off d.cells).length = bl.l.length := putN_length _ _ _ hle
          obtain ⟨g1, g2⟩ := goodB_set (bl := bl') g.toGoodB ⟨bl, hb2⟩ hk h2 r2 r3.size (by rw [hbl', hlen]; have := r3.size; omega) (by rw [hbl']; exact h4.put r3 (by simp; omega) e2 hle)
          refine ⟨w', μ, ?_, g1, g2, r2.shape h2 r3.size, Ext.refl _⟩
          simp only [execOp, hop, hu, Instr.storeAt, Instr.sureAddr, Sem.run_bind, Sem.run_pure, Result.andThen_ok, storeVar, run_sizeT (hti _ _ hs)]
          rw [if_neg (by omega)]
          simp [r1]
      · exact h.elim
    · exact h.elim
  · exact h.elim
end
end Gx
