import Derived.Test.YtnbiiphkefhkcaaGreatGxH
set_option linter.unusedVariables false
set_option linter.unusedSimpArgs false
namespace Gx
open Go

/-- An operation in any state that reads like s where it looks: it gives the effect e. -/
def OEff (P : Program) (o : Oper) (s : St) (e : Eff) : Prop :=
  e.dst.map (·.1) = o.dst ∧ ∀ s2 : St, s2.m = s.m → (∀ j, Operand.tmp j ∈ o.op.operands → look s2.t j = look s.t j) → (∀ b, b ∈ e.rd → look s2.σ b = look s.σ b) → FreshW e.wr e.rd s2 →
    ∀ (cx : Cx) μ A w, Good cx μ s2 A w → ∀ (K : Act → World → Prop) (Q : Exit → Act → World → Prop), (∀ μ' A' w', Good cx μ' (e.app s2) A' w' → K A' w') → o.wp P A w K Q

def rT (o : Oper) (x : T) (wr : List (Nat × Option Blk)) (rd : List Nat) : Eff := ⟨o.dst.map fun d => (d, x), wr, rd⟩
def dstB (o : Oper) (m : Nat) : Prop := ∀ d, o.dst = some d → d < m

theorem rT_dst (o : Oper) (x : T) (wr : List (Nat × Option Blk)) (rd : List Nat) : (rT o x wr rd).dst.map (·.1) = o.dst := by
  unfold rT; cases o.dst <;> rfl

theorem good_rT {cx : Cx} {μ : Nat → Option (Option Nat)} {s : St} {o : Oper} {x : T} {wr : List (Nat × Option Blk)} {rd : List Nat} {A : Act} {w : World} {u : Value}
    (g : Good cx μ { s with σ := wr ++ s.σ } A w) (hd : dstB o s.m) (hx : o.dst ≠ none → RelT cx w μ (Mut cx μ (wr ++ s.σ)) x u) : Good cx μ ((rT o x wr rd).app s) (A.put o.dst u) w := by
  unfold rT Eff.app
  cases h : o.dst with
  | none => simp only [Option.map_none]; exact g
  | some d =>
    simp only [Option.map_some]
    exact good_put g (hd d h) (hx (by rw [h]; simp))

theorem oeff_value {P : Program} {o : Oper} {s : St} {x : T} {wr : List (Nat × Option Blk)} {rd : List Nat} (hd : dstB o s.m)
    (h : ∀ s2 : St, s2.m = s.m → (∀ j, Operand.tmp j ∈ o.op.operands → look s2.t j = look s.t j) → (∀ b, b ∈ rd → look s2.σ b = look s.σ b) → FreshW wr rd s2 →
      ∀ (cx : Cx) μ A w, Good cx μ s2 A w → ∃ u w' μ', (execOp A.eval o).run P w = .ok (.value u) w' ∧ GoodB cx μ' (wr ++ s2.σ) w' ∧ Stab w w' (Mut cx μ s2.σ) (Mut cx μ' (wr ++ s2.σ)) ∧ Shape w w' ∧ Ext μ μ' ∧
        RelT cx w' μ' (Mut cx μ' (wr ++ s2.σ)) x u) : OEff P o s (rT o x wr rd) := by
  refine ⟨rT_dst .., fun s2 hm ht hb hf cx μ A w g K Q hK => ?_⟩
  obtain ⟨u, w', μ', h1, h2, h3, h4, h5, h6⟩ := h s2 hm ht hb hf cx μ A w g
  unfold Oper.wp
  rw [h1]
  exact hK _ _ _ (good_rT (good_step g h2 h3 h4 h5) (by rw [hm]; exact hd) fun _ => h6)

theorem oeff_skip {P : Program} {o : Oper} {s : St} {wr : List (Nat × Option Blk)} {rd : List Nat} (hd : dstB o s.m)
    (h : ∀ s2 : St, s2.m = s.m → (∀ j, Operand.tmp j ∈ o.op.operands → look s2.t j = look s.t j) → (∀ b, b ∈ rd → look s2.σ b = look s.σ b) → FreshW wr rd s2 →
      ∀ (cx : Cx) μ A w, Good cx μ s2 A w → ∃ w' μ', (execOp A.eval o).run P w = .ok .skip w' ∧ GoodB cx μ' (wr ++ s2.σ) w' ∧ Stab w w' (Mut cx μ s2.σ) (Mut cx μ' (wr ++ s2.σ)) ∧ Shape w w' ∧ Ext μ μ') :
    OEff P o s (rT o (.d (.sc .any)) wr rd) := by
  refine ⟨rT_dst .., fun s2 hm ht hb hf cx μ A w g K Q hK => ?_⟩
  obtain ⟨w', μ', h1, h2, h3, h4, h5⟩ := h s2 hm ht hb hf cx μ A w g
  unfold Oper.wp
  rw [h1]
  exact hK _ _ _ (good_rT (good_step g h2 h3 h4 h5) (by rw [hm]; exact hd) fun _ => trivial)

theorem oeff_pure {P : Program} {o : Oper} {s : St} {x : T} (hd : dstB o s.m) (h : PureOK P o.op s.t x) : OEff P o s (rT o x [] []) := by
  refine oeff_value hd fun s2 hm ht hb hf cx μ A w g => ?_
  obtain ⟨u, hu, hr⟩ := h s2.t ht cx w μ (Mut cx μ s2.σ) A g.temps o rfl
  exact ⟨u, w, μ, hu, g.toGoodB, ⟨fun _ _ h _ => h, fun _ _ _ h => h⟩, Shape.refl _, Ext.refl _, hr⟩

section
variable {P : Program} {ti : TypeId → Option TI} (hti : ∀ t x, ti t = some x → TIok P t x) {s : St} {nm : Nat} {o : Oper} {k : Eff → Tree} {Q : Ex → St → Prop}

theorem wnew_push (w : World) (arr : Array Value) (ty : TypeId) : WNew w { w with heap := w.heap.push (Obj.cells arr ty) } arr ty := ⟨rfl, rfl, rfl, rfl⟩

/-! alloc, box -/
def mkBlk : TD → List S → Blk
  | .arr _ _, l => .arr l
  | _, l => .var l
theorem mkBlk_l (d : TD) (l : List S) : (mkBlk d l).l = l := by cases d <;> rfl
def stAlloc (ti : TypeId → Option TI) (s : St) (nm : Nat) (o : Oper) (ty : TypeId) (k : Eff → Tree) : Tree :=
  match ti ty, look s.σ nm with
  | some x, none => k (rT o (.d (.sc (.ptr nm 0))) [(nm, some (mkBlk x.und x.zero))] [])
  | _, _ => .fail
include hti in
theorem stAlloc_ok {ty : TypeId} (hop : o.op = .alloc ty) (hd : dstB o s.m) (h : WpT P (stAlloc ti s nm o ty k) Q) : ∃ e, OEff P o s e ∧ FreshW e.wr e.rd s ∧ WpT P (k e) Q := by
  unfold stAlloc at h
  split at h
  · rename_i x hx hn
    refine ⟨_, oeff_value hd fun s2 hm ht hb hf cx μ A w g => ?_, by intro b hb _; simp [rT] at hb; subst hb; exact hn, h⟩
    obtain ⟨z, h1, h2, h3, h4, h5⟩ := run_zeroT (hti _ _ hx)
    have hn2 : look s2.σ nm = none := hf nm (by simp) (by simp)
    have hw := wnew_push w z.cells ty
    obtain ⟨a, b, c⟩ := goodB_new (bl := mkBlk x.und x.zero) g.toGoodB hn2 hw (by rw [mkBlk_l]; omega) (by rw [mkBlk_l]; exact h4 _ _ _ _)
    refine ⟨.pointer (some ⟨w.heap.size, 0, none⟩), _, _, ?_, a, b, hw.shape, c, ⟨_, upd_same .., rfl⟩⟩
    simp [execOp, hop, Instr.alloc, h1, newVar, newRow]
  · exact h.elim

def stBox (s : St) (nm : Nat) (o : Oper) (x : Operand) (k : Eff → Tree) : Tree :=
  match opd s.t x, look s.σ nm with
  | some d, none => if d.st then k (rT o (.d (.sc (.ptr nm 0))) [(nm, some (.var d.cells))] []) else .fail
  | _, _ => .fail
theorem toArr {u : Value} : u.cells.toList.toArray = u.cells := by simp
theorem stBox_ok {ty : TypeId} {x : Operand} (hop : o.op = .box ty x) (hd : dstB o s.m) (h : WpT P (stBox s nm o x k) Q) : ∃ e, OEff P o s e ∧ FreshW e.wr e.rd s ∧ WpT P (k e) Q := by
  unfold stBox at h
  split at h
  · rename_i d hx hn
    split at h
    · rename_i hst
      refine ⟨_, oeff_value hd fun s2 hm ht hb hf cx μ A w g => ?_, by intro b hb _; simp [rT] at hb; subst hb; exact hn, h⟩
      have hn2 : look s2.σ nm = none := hf nm (by simp) (by simp)
      have hr := opd_rel g.temps ((opd_congr fun j hj => ht j (by subst hj; rw [hop]; simp [Op.operands])).trans hx)
      obtain ⟨e1, e2⟩ := cells_rel hst hr
      have hw := wnew_push w (A.eval x).cells ty
      obtain ⟨a, b, c⟩ := goodB_new (bl := .var d.cells) g.toGoodB hn2 hw (by show d.cells.length ≤ _; omega) (fun i y hi => (e2 i y hi).imp fun v hv => ⟨by simpa using hv.1, hv.2⟩)
      refine ⟨.pointer (some ⟨w.heap.size, 0, none⟩), _, _, ?_, a, b, hw.shape, c, ⟨_, upd_same .., rfl⟩⟩
      simp [execOp, hop, Instr.box, newVar, newRow]
    · exact h.elim
  · exact h.elim

/-! build, buildSlice -/
def partO (t : List (Nat × T)) (p : Nat × Operand) : Option (Nat × D) := match opd t p.2 with | some d => some (p.1, d) | none => none
theorem partO_rel {cx : Cx} {w : World} {μ : Nat → Option (Option Nat)} {M : Nat → Prop} {t : List (Nat × T)} {A : Act} (hA : Tmps cx w μ M t A) : ∀ {ps : List (Nat × Operand)} {ds : List (Nat × D)}, mapO (partO t) ps = some ds →
    (ps.map fun p => (p.1, A.eval p.2)).map (·.1) = ds.map (·.1) ∧ ∀ (i : Nat) p v, ds[i]? = some p → (ps.map fun p => (p.1, A.eval p.2))[i]? = some v → RelD cx w μ M p.2 v.2
  | [], ds, h => by simp [mapO] at h; subst h; simp
  | (j, x) :: ps, ds, h => by
    simp only [mapO] at h
    split at h
    · cases h
    · rename_i y hy
      split at h
      · cases h
      · rename_i ys hys
        injection h with h; subst h
        obtain ⟨h1, h2⟩ := partO_rel hA hys
        unfold partO at hy
        split at hy
        · rename_i d hdx
          injection hy with hy; subst hy
          refine ⟨by simp at h1 ⊢; exact h1, fun i p v hp hv => ?_⟩
          cases i with
          | zero => simp at hp hv; subst hp; subst hv; exact opd_rel hA hdx
          | succ i => exact h2 i p v (by simpa using hp) (by simpa using hv)
        · cases hy
theorem mapO_congr {α β : Type} {f g : α → Option β} : ∀ {l : List α}, (∀ x ∈ l, f x = g x) → mapO f l = mapO g l
  | [], _ => rfl
  | x :: l, h => by
    have ih : mapO f l = mapO g l := mapO_congr fun y hy => h y (List.mem_cons_of_mem _ hy)
    simp only [mapO, h x (by simp), ih]

def placeS (fs : List (Nat × Nat × Bool)) (i : Nat) : Option (Nat × Nat) := match fs[i]? with | some (o, n, _) => some (o, n) | none => none
def stBuild (ti : TypeId → Option TI) (t : List (Nat × T)) (ty : TypeId) (ps : Array (Nat × Operand)) (k : T → Tree) : Tree :=
  match ti ty, mapO (partO t) ps.toList with
  | some ⟨_, _, _, _, z, .struct fs⟩, some ds => match fillS (placeS fs) z ds with
    | some l => k (.d (.agg l))
    | none => .fail
  | some ⟨_, _, _, _, z, .arr _ e⟩, some ds => match ti e with
    | some ei => match fillS (fun i => some (i * ei.size, ei.size)) z ds with
      | some l => k (.d (.agg l))
      | none => .fail
    | none => .fail
  | _, _ => .fail
theorem fieldsOK_places {P : Program} {fields : List Field} {fs : List (Nat × Nat × Bool)} (h : fieldsOK P fields = some fs) (w : World) :
    (fields.mapM (m := Sem) fun f => do pure (f.offset, ← Go.sizeOf f.type)).run P w = .ok (fs.map fun p => (p.1, p.2.1)) w := by
  unfold fieldsOK at h
  induction fields generalizing fs with
  | nil => simp [mapO] at h; subst h; simp
  | cons f fields ih =>
    simp only [mapO] at h
    split at h
    · cases h
    · rename_i y hy
      split at h
      · cases h
      · rename_i ys hys
        injection h with h; subst h
        split at hy
        · rename_i i a hi ha
          split at hy
          · cases hy
          · injection hy with hy; subst hy
            have := ih hys
            simp only [List.mapM_cons, Sem.run_bind, Go.sizeOf, typeInfo, run_program, Result.andThen_ok, hi, Sem.run_pure] at this ⊢
            rw [this]
            rfl
        · cases hy
include hti in
theorem stBuild_ok {t : List (Nat × T)} {ty : TypeId} {ps : Array (Nat × Operand)} {k : T → Tree} (h : WpT P (stBuild ti t ty ps k) Q) : ∃ y, PureOK P (.build ty ps) t y ∧ WpT P (k y) Q := by
  have cg : ∀ t2, (∀ j, Operand.tmp j ∈ (Op.build ty ps).operands → look t2 j = look t j) → mapO (partO t2) ps.toList = mapO (partO t) ps.toList := by
    intro t2 ht
    refine mapO_congr fun p hp => ?_
    unfold partO
    rw [opd_congr (t := t) fun j hj => ht j (by simp only [Op.operands, List.mem_toArray, List.mem_map]; exact ⟨p, hp, hj⟩)]
  have eqv : ∀ A : Act, (ps.map fun (i, x) => (i, A.eval x)).toList = ps.toList.map fun p => (p.1, A.eval p.2) := fun A => by simp
  unfold stBuild at h
  split at h
  · rename_i a b c d z fs ds hs hds
    split at h
    · rename_i l hl
      refine ⟨_, fun t2 ht cx w μ M A hA o ho => ?_, h⟩
      have htk := hti _ _ hs
      obtain ⟨zv, h1, h2, h3, h4, h5⟩ := run_zeroT htk
      obtain ⟨fields, hu, hfs⟩ := htk.td
      obtain ⟨p1, p2⟩ := partO_rel hA ((cg t2 ht).trans hds)
      have e1 : fields.mapM (m := Sem) (fun f => do pure (f.offset, ← Go.sizeOf f.type)) = (do let l ← fields.toList.mapM (m := Sem) (fun f => do pure (f.offset, ← Go.sizeOf f.type)); pure l.toArray) := by
        rw [Array.mapM_eq_mapM_toList]; simp
      obtain ⟨arr', f1, f2, f3, f4⟩ := fill_rel hl (h4 cx w μ M) h3.symm p1 p2
      have e2 : Instr.fill ((fs.map fun p => (p.1, p.2.1)).toArray[·]?) zv.cells (ps.toList.map fun p => (p.1, A.eval p.2)) = some arr' := by
        rw [← f1]
        congr 1
        funext i
        unfold placeS
        simp
        cases fs[i]? <;> rfl
      refine ⟨.agg arr', ?_, arr', rfl, ?_, f2⟩
      · simp only [execOp, ho, Instr.build, Sem.run_bind, h1, Result.andThen_ok, run_underlying hu, e1, fieldsOK_places hfs, Sem.run_pure, eqv, e2]
      · rw [f3, h3, f4]
    · exact h.elim
  · rename_i a b c d z n e ds hs hds
    split at h
    · rename_i ei hei
      split at h
      · rename_i l hl
        refine ⟨_, fun t2 ht cx w μ M A hA o ho => ?_, h⟩
        have htk := hti _ _ hs
        obtain ⟨zv, h1, h2, h3, h4, h5⟩ := run_zeroT htk
        have hu : P.underlying ty = some (.array n e) := htk.td
        obtain ⟨p1, p2⟩ := partO_rel hA ((cg t2 ht).trans hds)
        obtain ⟨arr', f1, f2, f3, f4⟩ := fill_rel hl (h4 cx w μ M) h3.symm p1 p2
        refine ⟨.agg arr', ?_, arr', rfl, ?_, f2⟩
        · simp only [execOp, ho, Instr.build, Sem.run_bind, h1, Result.andThen_ok, run_underlying hu, run_sizeT (hti _ _ hei), Sem.run_pure, eqv, f1]
        · rw [f3, h3, f4]
      · exact h.elim
    · exact h.elim
  · exact h.elim

/-- n times the cells of a zero value -/
def repS (n : Nat) (z : List S) : List S := (List.replicate n z).flatten
theorem repS_length (n : Nat) (z : List S) : (repS n z).length = n * z.length := by
  unfold repS; simp [List.length_flatten]
theorem repS_get : ∀ (n : Nat) (z : List S) (i : Nat) x, (repS n z)[i]? = some x → z[i % z.length]? = some x
  | 0, z, i, x, h => by simp [repS] at h
  | n + 1, z, i, x, h => by
    unfold repS at h
    rw [List.replicate_succ, List.flatten_cons] at h
    by_cases hlt : i < z.length
    · rw [List.getElem?_append_left hlt] at h
      rw [Nat.mod_eq_of_lt hlt]; exact h
    · rw [List.getElem?_append_right (by omega)] at h
      have := repS_get n z (i - z.length) x h
      rw [← Nat.mod_eq_sub_mod (by omega)] at this
      exact this
theorem rep_rel {cx : Cx} {w : World} {μ : Nat → Option (Option Nat)} {M : Nat → Prop} {n : Nat} {z : List S} {zv : Array Value} (h : RelL cx w μ M z zv) (hl : zv.size = z.length) :
    RelL cx w μ M (repS n z) ((Array.range (n * z.length)).map (zv[· % zv.size]!)) := by
  intro i x hi
  have h1 := repS_get n z i x hi
  obtain ⟨u, h2, h3⟩ := h _ x h1
  have hlt : i < n * z.length := by rw [← repS_length]; exact (List.getElem?_eq_some_iff.1 hi).1
  refine ⟨u, ?_, h3⟩
  rw [Array.getElem?_map, Array.getElem?_range, if_pos hlt]
  simp only [Option.map_some]
  rw [hl]
  have h4 := Array.getElem?_eq_some_iff.1 h2
  obtain ⟨h5, h6⟩ := h4
  rw [getElem!_pos zv _ (by omega), ← h6]
end
end Gx
