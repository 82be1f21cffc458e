import Derived.Test.YtnbiiphkefhkcaaGreatGxL
import Derived.LoopN
set_option linter.unusedVariables false
set_option linter.unusedSimpArgs false
namespace Gx
open Go

def S.clr : S → S
  | .xrow cs n => .v (.row cs n)
  | s => s
def D.clr : D → D
  | .sc s => .sc s.clr
  | .agg l => .agg (l.map S.clr)
theorem clrS {cx : Cx} {w : World} {μ : Nat → Option (Option Nat)} {M : Nat → Prop} {s : S} {u : Value} (h : RelS cx w μ M s u) : RelS cx w μ M s.clr u := by
  cases s with
  | xrow cs n => exact h.1
  | _ => exact h
theorem clrD {cx : Cx} {w : World} {μ : Nat → Option (Option Nat)} {M : Nat → Prop} {d : D} {u : Value} (h : RelD cx w μ M d u) : RelD cx w μ M d.clr u := by
  cases d with
  | sc s => exact clrS h
  | agg l =>
    obtain ⟨arr, h1, h2, h3⟩ := h
    refine ⟨arr, h1, by simpa using h2, fun i x hi => ?_⟩
    rw [List.getElem?_map] at hi
    cases hy : l[i]? with
    | none => rw [hy] at hi; cases hi
    | some y =>
      rw [hy] at hi; injection hi with hi; subst hi
      obtain ⟨u, h4, h5⟩ := h3 i y hy
      exact ⟨u, h4, clrS h5⟩

section
variable {P : Program} {ti : TypeId → Option TI} (hti : ∀ t x, ti t = some x → TIok P t x) {s : St} {nm : Nat} {o : Oper} {k : Eff → Tree} {Q : Ex → St → Prop}

/-! ### A call -/
def stCall (s : St) (nm : Nat) (o : Oper) (f : Operand) (xs : Array Operand) (k : Eff → Tree) : Tree :=
  match ops s.t f, mapO (opd s.t) xs.toList with
  | some (.v (.fn g)), some ds => .call g (ds.map D.clr) s nm fun res wr rd => k (rT o res wr rd)
  | some (.clo g bs), some ds => .call g (ds.map D.clr ++ bs.map fun b => .sc (.ptr b 0)) s nm fun res wr rd => k (rT o res wr rd)
  | _, _ => .fail
theorem opds_rel {cx : Cx} {w : World} {μ : Nat → Option (Option Nat)} {M : Nat → Prop} {t : List (Nat × T)} {A : Act} (hA : Tmps cx w μ M t A) {l : List Operand} {ds : List D} (h : mapO (opd t) l = some ds) :
    l.length = ds.length ∧ ∀ (i : Nat) d, ds[i]? = some d → ∃ u, (l.map A.eval)[i]? = some u ∧ RelD cx w μ M d u := by
  obtain ⟨h1, h2⟩ := mapO_get h
  refine ⟨h1, fun i d hi => ?_⟩
  obtain ⟨x, h3, h4⟩ := h2 i d hi
  exact ⟨A.eval x, by rw [List.getElem?_map, h3]; rfl, opd_rel hA h4⟩
theorem stCall_ok {f : Operand} {xs : Array Operand} {ts : Array TypeId} (hop : o.op = .call { callee := .value f, args := xs, argTypes := ts }) (hd : dstB o s.m) (h : WpT P (stCall s nm o f xs k) Q) :
    ∃ e, OEff P o s e ∧ FreshW e.wr e.rd s ∧ WpT P (k e) Q := by
  -- from a call of g
  have key : ∀ (g : FuncId) (ds : List D), WpT P (.call g ds s nm fun res wr rd => k (rT o res wr rd)) Q →
      (∀ s2 : St, (∀ j, Operand.tmp j ∈ o.op.operands → look s2.t j = look s.t j) → ∀ (cx : Cx) μ (A : Act) w, Good cx μ s2 A w → ∃ vs, (execOp A.eval o) = callFunc g vs ∧ RelDs cx w μ (Mut cx μ s2.σ) ds vs) →
      ∃ e, OEff P o s e ∧ FreshW e.wr e.rd s ∧ WpT P (k e) Q := by
    intro g ds hw hx
    obtain ⟨res, wr, rd, ⟨he, hc⟩, hf, hw⟩ := hw
    refine ⟨_, ⟨rT_dst .., fun s2 hm ht hb hf2 cx μ A w gd K Q' hK => ?_⟩, hf, hw⟩
    obtain ⟨vs, h1, h2⟩ := hx s2 ht cx μ A w gd
    unfold Oper.wp
    rw [h1, he vs w]
    refine hc s2 hb hf2 cx μ A w vs gd h2 _ fun u μ' w' g' hr => ?_
    exact hK _ _ _ (good_rT g' (by rw [hm]; exact hd) fun _ => hr)
  have cg : ∀ s2 : St, (∀ j, Operand.tmp j ∈ o.op.operands → look s2.t j = look s.t j) → ops s2.t f = ops s.t f ∧ mapO (opd s2.t) xs.toList = mapO (opd s.t) xs.toList := by
    intro s2 ht
    rw [hop] at ht
    refine ⟨ops_congr fun j hj => ht j (by subst hj; simp [Op.operands, Call.operands]), mapO_congr fun x hx => opd_congr fun j hj => ht j (by subst hj; simp [Op.operands, Call.operands]; right; simpa using hx)⟩
  unfold stCall at h
  split at h
  · rename_i g ds hf hxs
    refine key g _ h fun s2 ht cx μ A w gd => ?_
    obtain ⟨c1, c2⟩ := cg s2 ht
    have ef : A.eval f = .func (.func g) #[] #[] := RelV.fn_inv (ops_rel gd.temps (c1.trans hf))
    obtain ⟨l1, l2⟩ := opds_rel gd.temps (c2.trans hxs)
    refine ⟨xs.map A.eval, by simp [execOp, hop, resolve, Deferred.ofValue, ef, invoke], by simpa using l1, fun i x hi => ?_⟩
    rw [List.getElem?_map] at hi
    cases hy : ds[i]? with
    | none => rw [hy] at hi; cases hi
    | some y =>
      rw [hy] at hi; injection hi with hi; subst hi
      obtain ⟨u, h3, h4⟩ := l2 i y hy
      exact ⟨u, by simpa using h3, clrD h4⟩
  · rename_i g bs ds hf hxs
    refine key g _ h fun s2 ht cx μ A w gd => ?_
    obtain ⟨c1, c2⟩ := cg s2 ht
    obtain ⟨ks, k1, k2, ef⟩ := ops_rel gd.temps (c1.trans hf)
    obtain ⟨l1, l2⟩ := opds_rel gd.temps (c2.trans hxs)
    refine ⟨xs.map A.eval ++ (ks.map fun k => Value.pointer (some ⟨k, 0, none⟩)).toArray, by simp [execOp, hop, resolve, Deferred.ofValue, ef, invoke], ?_, fun i x hi => ?_⟩
    · simp at l1; simp [l1, k1]
    · by_cases hlt : i < (ds.map D.clr).length
      · rw [List.getElem?_append_left hlt, List.getElem?_map] at hi
        cases hy : ds[i]? with
        | none => rw [hy] at hi; cases hi
        | some y =>
          rw [hy] at hi; injection hi with hi; subst hi
          obtain ⟨u, h3, h4⟩ := l2 i y hy
          simp at hlt l1
          refine ⟨u, ?_, clrD h4⟩
          rw [Array.getElem?_append_left (by simp; omega)]
          simpa using h3
      · rw [List.getElem?_append_right (by omega), List.getElem?_map] at hi
        simp at hlt l1
        cases hy : bs[i - (ds.map D.clr).length]? with
        | none => rw [hy] at hi; cases hi
        | some b =>
          rw [hy] at hi; injection hi with hi; subst hi
          obtain ⟨kk, h3, h4⟩ := k2 _ b hy
          refine ⟨.pointer (some ⟨kk, 0, none⟩), ?_, kk, h4, rfl⟩
          rw [Array.getElem?_append_right (by simp; omega)]
          have e : i - (xs.map A.eval).size = i - (ds.map D.clr).length := by simp [l1]
          rw [e, List.getElem?_toArray, List.getElem?_map, h3]
          rfl
  · exact h.elim

/-! ### Any operation -/
def stOp (ti : TypeId → Option TI) (s : St) (nm : Nat) (o : Oper) (k : Eff → Tree) : Tree :=
  match o.op with
  | .move x => stMove s.t x fun v => k (rT o v [] [])
  | .assign x => stMove s.t x fun v => k (rT o v [] [])
  | .pick c a b => stPick s.t c a b fun v => k (rT o v [] [])
  | .nilCheck x => stNil s.t x fun v => k (rT o v [] [])
  | .unOp op _ x => stUn s.t op x fun v => k (rT o v [] [])
  | .binOp op ty x y _ => stBin ti s.t op ty x y fun v => k (rT o v [] [])
  | .convert a b x => stConv ti s.t a b x fun v => k (rT o v [] [])
  | .makeFunc fn f c => stFunc s.t fn f c fun v => k (rT o v [] [])
  | .fieldAddr st x f => stFieldAddr ti s.t st x f fun v => k (rT o v [] [])
  | .field st x f => stField ti s.t st x f fun v => k (rT o v [] [])
  | .indexAddr ty x i => stIndexAddr ti s.t ty x i fun v => k (rT o v [] [])
  | .index ty x i => stIndexStr ti s.t ty x i fun v => k (rT o v [] [])
  | .extract x i => stExtract s.t x i fun v => k (rT o v [] [])
  | .build ty ps => stBuild ti s.t ty ps fun v => k (rT o v [] [])
  | .slice ty x lo hi mx => match mx, hi with
    | some _, none => .fail
    | mx, hi => stSlice ti s.t ty x lo hi mx fun v => k (rT o v [] [])
  | .alloc ty => stAlloc ti s nm o ty k
  | .box _ x => stBox s nm o x k
  | .buildSlice ty len ps => stBuildSlice ti s nm o ty len ps k
  | .makeSlice ty x y => stMake ti s nm o ty x y k
  | .load ty a => stLoad ti s o ty a k
  | .store ty a x => stStore ti s o ty a x k
  | .call c => match c.callee with
    | .value f => stCall s nm o f c.args k
    | .builtin .len => stLen ti s.t c.argTypes c.args fun v => k (rT o v [] [])
    | .builtin .max => stMax s.t c.args fun v => k (rT o v [] [])
    | .builtin .min => stMin s.t c.args fun v => k (rT o v [] [])
    | .builtin .append => stAppend ti s nm o c.argTypes c.args k
    | .builtin .copy => stCopy ti s o c.argTypes c.args k
    | .builtin .clear => stClear ti s o c.argTypes c.args k
    | _ => .fail
  | _ => .fail
include hti in
theorem stOp_ok (hd : dstB o s.m) (h : WpT P (stOp ti s nm o k) Q) : ∃ e, OEff P o s e ∧ FreshW e.wr e.rd s ∧ WpT P (k e) Q := by
  have pure' : ∀ (op : Op), o.op = op → (∃ y, PureOK P op s.t y ∧ WpT P (k (rT o y [] [])) Q) → ∃ e, OEff P o s e ∧ FreshW e.wr e.rd s ∧ WpT P (k e) Q := by
    rintro op rfl ⟨y, h1, h2⟩
    exact ⟨_, oeff_pure hd h1, fun b hb => by simp [rT] at hb, h2⟩
  unfold stOp at h
  split at h
  · rename_i x hop; exact pure' _ hop (stMove_ok (.inl rfl) h)
  · rename_i x hop; exact pure' _ hop (stMove_ok (.inr rfl) h)
  · rename_i c a b hop; exact pure' _ hop (stPick_ok h)
  · rename_i x hop; exact pure' _ hop (stNil_ok h)
  · rename_i op ty x hop; exact pure' _ hop (stUn_ok h)
  · rename_i op ty x y yt hop; exact pure' _ hop (stBin_ok hti h)
  · rename_i a b x hop; exact pure' _ hop (stConv_ok hti h)
  · rename_i fn f c hop; exact pure' _ hop (stFunc_ok h)
  · rename_i st x f hop; exact pure' _ hop (stFieldAddr_ok hti h)
  · rename_i st x f hop; exact pure' _ hop (stField_ok hti h)
  · rename_i ty x i hop; exact pure' _ hop (stIndexAddr_ok hti h)
  · rename_i ty x i hop; exact pure' _ hop (stIndexStr_ok hti h)
  · rename_i x i hop; exact pure' _ hop (stExtract_ok h)
  · rename_i ty ps hop; exact pure' _ hop (stBuild_ok hti h)
  · rename_i ty x lo hi mx hop
    split at h
    · exact h.elim
    · rename_i hne
      refine pure' _ hop (stSlice_ok hti (fun hs => ?_) h)
      cases mx with
      | none => cases hs
      | some z => cases hi with
        | some _ => rfl
        | none => exact (hne z rfl rfl).elim
  · rename_i ty hop; exact stAlloc_ok hti hop hd h
  · rename_i ty x hop; exact stBox_ok hop hd h
  · rename_i ty len ps hop; exact stBuildSlice_ok hti hop hd h
  · rename_i ty x y hop; exact stMake_ok hti hop hd h
  · rename_i ty a hop; exact stLoad_ok hti hop hd h
  · rename_i ty a x hop; exact stStore_ok hti hop hd h
  · rename_i c hop
    obtain ⟨cal, args, tys⟩ := c
    dsimp only at h
    split at h
    · exact stCall_ok hop hd h
    · exact pure' _ hop (stLen_ok hti h)
    · exact pure' _ hop (stMax_ok h)
    · exact pure' _ hop (stMin_ok h)
    · exact stAppend_ok hti hop hd h
    · exact stCopy_ok hti hop hd h
    · exact stClear_ok hti hop hd h
    · exact h.elim
  · exact h.elim
end
end Gx
