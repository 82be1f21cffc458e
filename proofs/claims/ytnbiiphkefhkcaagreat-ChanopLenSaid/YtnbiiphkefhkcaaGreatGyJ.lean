import Derived.Test.YtnbiiphkefhkcaaGreatGyI
import Derived.Test.YtnbiiphkefhkcaaGreatGyG
import Derived.Test.YtnbiiphkefhkcaaGreatGyH
set_option linter.unusedVariables false
set_option linter.unusedSimpArgs false
set_option maxRecDepth 100000
set_option maxHeartbeats 1000000
namespace Gx
open Go Go.Proofs

/-! the state of a machine of an operation -/
structure Cs where
  send : Bool
  ch : Int
  val : Int
deriving DecidableEq
def Cs.vs (c : Cs) : List V := [.bool c.send, i64 c.ch, u64 c.val]
abbrev csD (s : Bool) (ch v : Int) : D := .agg [.v (.bool s), .v (i64 ch), .v (u64 v)]
def csVs : List Cs → List V
  | [] => []
  | c :: r => .bool c.send :: i64 c.ch :: u64 c.val :: csVs r
def rowC (l : List Cs) : V := .row (csVs l) l.length
inductive Inn where
  | zero
  | one (a : Acc)
  | sub (k : Int) (f : Sf)
deriving DecidableEq
def Sf.vs (f : Sf) : List V := [i64 f.code, i64 f.pc, rowU f.ws, rowI f.ls, noUp]
def Inn.code : Inn → Int
  | .zero => 0
  | .one _ => 1
  | .sub k _ => k
def Inn.ws : Inn → List Int
  | .one a => [a.old, a.new]
  | _ => []
def Inn.ls : Inn → List Int
  | .one a => [a.kind, a.addr, a.till]
  | _ => []
def Inn.up : Inn → V
  | .sub _ f => .row f.vs 1
  | _ => noUp
structure Rs where
  kind : Int
  case : Int
  val : Int
  ok : Bool
  num : Int
deriving DecidableEq
abbrev rsD (k c v : Int) (o : Bool) (n : Int) : D := .agg [.v (i64 k), .v (i64 c), .v (u64 v), .v (.bool o), .v (i64 n)]
def Rs.d (r : Rs) : D := rsD r.kind r.case r.val r.ok r.num
structure MS where
  caps : List Int
  threads : Int
  thread : Int
  kind : Int
  mode : Int
  chan : Int
  opval : Int
  deadline : Int
  cases : List Cs
  draws : List Int
  pc : Int
  inner : Inn
  back : Int
  fired : Int
  channel : Int
  at' : Int
  record : Int
  other : Int
  side : Int
  kindf : Int
  recv : List Int
  send : List Int
  words : List Int
  depth : Int
  done : Rs
  value : Int
def wcell (x : Bool) (l : List Int) : S := match x with
  | true => .xrow (l.map u64) l.length
  | false => .v (rowU l)
abbrev innC (n : Inn) : List S := [.v (i64 n.code), .v (i64 0), .v (rowU n.ws), .v (rowI n.ls), .v n.up]
def encS (x : Bool) (m : MS) : List S :=
  [.v (rowI m.caps), .v noUp, .v (i64 m.threads), .v (i64 m.thread), .v (i64 m.kind), .v (i64 m.mode), .v (i64 m.chan), .v (u64 m.opval), .v (i64 m.deadline), .v (rowC m.cases), .v (rowI m.draws),
   .v (i64 m.pc), .v (i64 m.inner.code), .v (i64 0), .v (rowU m.inner.ws), .v (rowI m.inner.ls), .v m.inner.up,
   .v (i64 m.back), .v (i64 m.fired), .v (i64 m.channel), .v (i64 m.at'), .v (i64 m.record), .v (i64 m.other), .v (i64 m.side), .v (i64 m.kindf), .v (rowI m.recv), .v (rowI m.send), wcell x m.words,
   .v (i64 m.depth), .v (i64 m.done.kind), .v (i64 m.done.case), .v (u64 m.done.val), .v (.bool m.done.ok), .v (i64 m.done.num), .v (u64 m.value)]
theorem clk_pl {σ : List (Nat × Option Blk)} {s : S} (h : s.plB = true) : s.clk σ = true := by cases s <;> first | rfl | cases h
theorem encS_pl (x : Bool) (m : MS) : (Blk.var (encS x m)).l.all S.plB = true := by cases x <;> rfl
abbrev stB (x : Bool) (m : MS) : List (Nat × Option Blk) := [(0, some (.var (encS x m)))]
abbrev sp0 : D := .sc (.ptr 0 0)
abbrev unitT : T := .tup []

/-- The exact rows at some places are taken as plain ones. -/
def clrI (is : List Nat) : Nat → List S → List S
  | _, [] => []
  | i, x :: r => (match inL i is with | true => x.clr | false => x) :: clrI is (i + 1) r
theorem clrI_len (is : List Nat) : ∀ (i : Nat) (l : List S), (clrI is i l).length = l.length
  | _, [] => rfl
  | i, x :: r => by simp [clrI, clrI_len is (i + 1) r]
theorem clrI_get (is : List Nat) : ∀ (i : Nat) (l : List S) (j : Nat) y, (clrI is i l)[j]? = some y → ∃ x, l[j]? = some x ∧ (y = x ∨ y = x.clr)
  | _, [], j, y, h => by simp [clrI] at h
  | i, x :: r, 0, y, h => by
    simp only [clrI, List.getElem?_cons_zero] at h
    injection h with h
    refine ⟨x, rfl, ?_⟩
    split at h
    · exact .inr h.symm
    · exact .inl h.symm
  | i, x :: r, j + 1, y, h => by
    simp only [clrI, List.getElem?_cons_succ] at h
    simpa using clrI_get is (i + 1) r j y h
theorem fr_clr {σ σ' : List (Nat × Option Blk)} {x y : S} (h : y = x ∨ y = x.clr) (hy : y.plB = true) : FrS σ σ' x y := by
  rcases h with rfl | rfl
  · exact fr_same (clk_pl hy)
  · cases x <;> first | exact fr_same (clk_pl hy) | exact fr_x rfl
section
variable {ti : TypeId → Option TI} {rs : List ResultVar} {s : St} {e : Ex}
theorem leafMc (is : List Nat) {x : Bool} {m : MS} {res : T} {bl0 : Blk} (he : e = .normal ∨ e = .ret) (h : resT ti s rs = some res) (hb : look s.σ 0 = some (some bl0)) (hl : clrI is 0 bl0.l = encS x m) (hc : res.clk (stB x m) = true) : Done ti rs 1 res (stB x m) e s := by
  refine ⟨he, res, h, frT_same hc, ⟨fun b bl' h => ?_, fun b h => ?_, fun b h1 h2 => ?_⟩⟩
  · obtain ⟨e1, e2⟩ := look1 h; subst e1; injection e2 with e2; subst e2
    refine ⟨_, hb, ?_, fun i y hi => ?_⟩
    · show (encS x m).length ≤ _
      rw [← hl, clrI_len]; exact Nat.le_refl _
    · have hy := encS_pl x m
      rw [List.all_eq_true] at hy
      have hi' : (encS x m)[i]? = some y := hi
      rw [← hl] at hi'
      obtain ⟨z, h1, h2⟩ := clrI_get is 0 bl0.l i y hi'
      exact ⟨z, h1, fr_clr h2 (hy y (List.mem_of_getElem? hi))⟩
  · have := look1_ne h; subst this; rw [hb]; simp
  · have : b = 0 := by omega
    subst this; rw [look1_same]; simp
/-- The end of a method. -/
theorem leafM {x : Bool} {m : MS} {res : T} (he : e = .normal ∨ e = .ret) (h : resT ti s rs = some res) (hb : look s.σ 0 = some (some (.var (encS x m)))) (hc : res.clk (stB x m) = true) : Done ti rs 1 res (stB x m) e s := by
  refine ⟨he, res, h, frT_same hc, ⟨fun b bl' h => ?_, fun b h => ?_, fun b h1 h2 => ?_⟩⟩
  · obtain ⟨e1, e2⟩ := look1 h; subst e1; injection e2 with e2; subst e2
    refine ⟨_, hb, frL_same fun y hy => ?_⟩
    have := encS_pl x m
    rw [List.all_eq_true] at this
    exact clk_pl (this y hy)
  · have := look1_ne h; subst this; rw [hb]; simp
  · have : b = 0 := by omega
    subst this; rw [look1_same]; simp
theorem leafM' {x : Bool} {m m' : MS} {res : T} (he : e = .normal ∨ e = .ret) (h : resT ti s rs = some res) (hb : look s.σ 0 = some (some (.var (encS x m)))) (hc : res.clk (stB x m) = true) (hm : m = m') : Done ti rs 1 res (stB x m') e s := by
  subst hm; exact leafM he h hb hc
end
/-- A method turns m into m'. -/
def MSpec (f : FuncId) (args : List D) (res : T) (m m' : MS) : Prop := ∀ x, FSpec Tryz.prog f 1 (stB x m) (sp0 :: args) res (stB x m')
section
variable {Q : Ex → St → Prop} {f : FuncId} {args0 args : List D} {res0 res : T} {s : St} {nm : Nat} {k : T → List (Nat × Option Blk) → List Nat → Tree}
/-- A call of a method. -/
theorem w_callM {b : Nat} {x : Bool} {m m' : MS} (hs : MSpec f args0 res0 m m') (hargs : (sp0 :: args0).map (D.rn [(0, b)]) = args) (hb : look s.σ b = some (some (.var (encS x m))))
    (ha : args0.all (fun y => y.cl (stB x m)) = true) (hr : res0.rn [(0, b)] = res) (hk : WpT Tryz.prog (k res [(b, some (.var (encS x m')))] [b]) Q) : WpT Tryz.prog (.call f args s nm k) Q :=
  w_call1 b (hs x) hb hargs (encS_pl x m) (encS_pl x m') (by rw [List.all_cons, ha]; rfl) hr hk
end

theorem sp_single (k a o n u : Int) : FSpec Tryz.prog 295 0 [] [accD k a o n u] (.d (.agg (innC (.one ⟨k, a, o, n, u⟩)))) [] := by
  refine (fspec_intro pk (fn := Tryz.f295) (fun _ _ => rfl) Tryz.func295 rfl (by decide) (cwp_ev pk ?_))
  exact w_done (done0 (.inr rfl) rfl (frT_agg (frLs_cons (fr_v rfl) (frLs_cons (fr_v rfl) (frLs_cons (fr_mc rfl) (frLs_cons (fr_mc rfl) (frLs_cons (fr_x rfl) frLs_nil)))))))
theorem sp_within (k c p : Int) (ws ls : List Int) : FSpec Tryz.prog 151 0 [] [di k, frD c p ws ls noUp] (.d (.agg (innC (.sub k ⟨c, p, ws, ls⟩)))) [] := by
  refine (fspec_intro pk (fn := Tryz.f151) (fun _ _ => rfl) Tryz.func151 rfl (by decide) (cwp_ev pk ?_))
  exact w_done (done0 (.inr rfl) rfl (frT_agg (frLs_cons (fr_v rfl) (frLs_cons (fr_v rfl) (frLs_cons (fr_x rfl) (frLs_cons (fr_x rfl) (frLs_cons (fr_mc rfl) frLs_nil)))))))
theorem sp_access (m : MS) (pc k a o n u : Int) : MSpec 258 [di pc, accD k a o n u] unitT m { m with pc := pc, inner := .one ⟨k, a, o, n, u⟩ } := by
  intro x
  refine (fspec_intro pk (fn := Tryz.f258) (fun _ _ => rfl) Tryz.func258 rfl (by decide) (cwp_ev pk ?_))
  refine w_call (sp_single _ _ _ _ _) rfl rfl rfl ?_
  exact w_done (leafM (.inl rfl) rfl rfl rfl)
def MS.acc (m : MS) (pc : Int) (a : Acc) : MS := { m with pc := pc, inner := .one a }
theorem sp_load (m : MS) (pc a : Int) : MSpec 223 [di pc, di a] unitT m (m.acc pc ⟨1, a, 0, 0, 0⟩) := by
  intro x
  refine (fspec_intro pk (fn := Tryz.f223) (fun _ _ => rfl) Tryz.func223 rfl (by decide) (cwp_ev pk ?_))
  refine w_callM (sp_access m pc 1 a 0 0 0) rfl rfl rfl rfl ?_
  exact w_done (leafM (.inl rfl) rfl rfl rfl)
theorem sp_store (m : MS) (pc a w : Int) : MSpec 182 [di pc, di a, du w] unitT m (m.acc pc ⟨2, a, 0, w, 0⟩) := by
  intro x
  refine (fspec_intro pk (fn := Tryz.f182) (fun _ _ => rfl) Tryz.func182 rfl (by decide) (cwp_ev pk ?_))
  refine w_callM (sp_access m pc 2 a 0 w 0) rfl rfl rfl rfl ?_
  exact w_done (leafM (.inl rfl) rfl rfl rfl)
theorem sp_read (m : MS) (pc a : Int) : MSpec 214 [di pc, di a] unitT m (m.acc pc ⟨5, a, 0, 0, 0⟩) := by
  intro x
  refine (fspec_intro pk (fn := Tryz.f214) (fun _ _ => rfl) Tryz.func214 rfl (by decide) (cwp_ev pk ?_))
  refine w_callM (sp_access m pc 5 a 0 0 0) rfl rfl rfl rfl ?_
  exact w_done (leafM (.inl rfl) rfl rfl rfl)
theorem sp_list (m : MS) (pc a : Int) : MSpec 218 [di pc, di a] unitT m (m.acc pc ⟨7, a, 0, 0, 0⟩) := by
  intro x
  refine (fspec_intro pk (fn := Tryz.f218) (fun _ _ => rfl) Tryz.func218 rfl (by decide) (cwp_ev pk ?_))
  refine w_callM (sp_access m pc 7 a 0 0 0) rfl rfl rfl rfl ?_
  exact w_done (leafM (.inl rfl) rfl rfl rfl)
def MS.cal (m : MS) (pc k : Int) (f : Sf) : MS := { m with pc := pc, inner := .sub k f }
theorem sp_call (m : MS) (pc k c p : Int) (ws ls : List Int) : MSpec 108 [di pc, di k, frD c p ws ls noUp] unitT m (m.cal pc k ⟨c, p, ws, ls⟩) := by
  intro x
  refine (fspec_intro pk (fn := Tryz.f108) (fun _ _ => rfl) Tryz.func108 rfl (by decide) (cwp_ev pk ?_))
  refine w_call (sp_within _ _ _ _ _) rfl rfl rfl ?_
  exact w_done (leafM (.inl rfl) rfl rfl rfl)
def MS.fin (m : MS) (r : Rs) : MS := { m with pc := -1, done := r, inner := .zero }
theorem sp_finish (m : MS) (k c v : Int) (o : Bool) (n : Int) : MSpec 107 [rsD k c v o n] unitT m (m.fin ⟨k, c, v, o, n⟩) := by
  intro x
  refine (fspec_intro pk (fn := Tryz.f107) (fun _ _ => rfl) Tryz.func107 rfl (by decide) (cwp_ev pk ?_))
  refine w_chk ⟨by kernel_rfl, by kernel_rfl⟩ ?_
  exact w_done (leafMc [14, 15, 16] (.inl rfl) rfl rfl rfl rfl)
theorem sp_Exists (caps : List Int) (sts : V) (th ch : Int) : FSpec Tryz.prog 105 0 [] [cfD caps sts th, di ch] (rb (decide (0 ≤ ch ∧ ch < caps.length))) [] := by
  refine (fspec_intro pk (fn := Tryz.f105) (fun _ _ => rfl) Tryz.func105 rfl (by decide) (cwp_ev pk ?_))
  refine w_br (fun h => ?_) fun h => ?_
  · simp at h
    repeat refine w_brT ?_
    exact w_done (leafB rfl (by simp [h]))
  · simp at h
    repeat refine w_brF ?_
    exact w_done (leafB rfl (by simp; omega))
theorem sp_ring (m : MS) (ch : Int) (h0 : 0 ≤ ch) (h1 : ch < m.caps.length) : MSpec 280 [di ch] (rb (decide (m.caps.getD ch.toNat 0 > 0))) m m := by
  intro x
  refine (fspec_intro pk (fn := Tryz.f280) (fun _ _ => rfl) Tryz.func280 rfl (by decide) (cwp_ev pk ?_))
  refine w_chk ⟨h0, h1⟩ ?_
  refine w_rdv (takeN_one (getI (i := ch.toNat) (by omega))) ?_
  exact w_done (leafM (.inr rfl) rfl rfl rfl)
def MS.number (m : MS) (i : Int) : Int := if m.kind = 4 then i else -1
theorem sp_number (m : MS) (i : Int) : MSpec 236 [di i] (ri (m.number i)) m m := by
  intro x
  refine (fspec_intro pk (fn := Tryz.f236) (fun _ _ => rfl) Tryz.func236 rfl (by decide) (cwp_ev pk ?_))
  refine w_br (fun h => ?_) fun h => ?_
  · simp at h
    have e : m.number i = i := if_pos h
    rw [e]
    exact w_done (leafM (.inr rfl) rfl rfl rfl)
  · simp at h
    have e : m.number i = -1 := if_neg h
    rw [e]
    exact w_done (leafM (.inr rfl) rfl rfl rfl)
def outcome (kind index value : Int) : Rs := if kind = 1 then ⟨1, index, 0, false, 0⟩ else if kind = 6 then ⟨2, index, value, true, 0⟩ else if kind = 5 then ⟨2, index, 0, false, 0⟩ else ⟨5, index, 0, false, 0⟩
theorem leafR {ti : TypeId → Option TI} {rs : List ResultVar} {s : St} {k c v n : Int} {o : Bool} {y : Rs} (h : resT ti s rs = some (.d (rsD k c v o n))) (hx : Rs.mk k c v o n = y) : Done ti rs 0 (.d y.d) [] .ret s := by
  subst hx; exact done_eq (.inr rfl) h rfl rfl
theorem sp_outcome (k i v : Int) : FSpec Tryz.prog 226 0 [] [di k, di i, du v] (.d (outcome k i v).d) [] := by
  refine (fspec_intro pk (fn := Tryz.f226) (fun _ _ => rfl) Tryz.func226 rfl (by decide) (cwp_ev pk ?_))
  repeat' (try conv => arg 2; whnf) <;> first
    | refine w_brT ?_
    | refine w_brF ?_
    | refine w_br (fun h => ?_) (fun h => ?_)
  all_goals exact w_done (leafR rfl (by simp_all [outcome]))
def MS.listOf (ch : Int) (send : Bool) : Int := 2 * ch + (if send then 1 else 0)
def MS.lenOf (m : MS) (ch : Int) (send : Bool) : Int := chanA m.caps ch (if send then 4 else 3)
theorem sp_lists (m : MS) (hc : WfC m.caps) (ch : Int) (send : Bool) (h0 : -1000000000000 ≤ ch) (h1 : ch ≤ 1000000000000) : MSpec 202 [di ch, db send] (.tup [di (MS.listOf ch send), di (m.lenOf ch send)]) m m := by
  intro x
  refine (fspec_intro pk (fn := Tryz.f202) (fun _ _ => rfl) Tryz.func202 rfl (by decide) (cwp_ev pk ?_))
  refine w_br (fun h => ?_) fun h => ?_
  · subst h
    refine w_call (sp_SenderList _ _ _ _ h0 h1) rfl rfl rfl ?_
    refine w_call (sp_LSenders hc _ _ _) rfl rfl rfl ?_
    refine w_chk ⟨by kernel_rfl, by kernel_rfl⟩ ?_
    exact w_done (leafM (.inr rfl) rfl rfl rfl)
  · subst h
    refine w_call (sp_ReceiverList _ _ _ _ h0 h1) rfl rfl rfl ?_
    refine w_call (sp_LReceivers hc _ _ _) rfl rfl rfl ?_
    refine w_chk ⟨by kernel_rfl, by kernel_rfl⟩ ?_
    exact w_done (leafM (.inr rfl) rfl rfl rfl)
theorem sp_take (m : MS) (hc : WfC m.caps) (pc ch : Int) : MSpec 149 [di pc, di ch] unitT m (m.cal pc 2 (lockF m.caps ch 0)) := by
  intro x
  refine (fspec_intro pk (fn := Tryz.f149) (fun _ _ => rfl) Tryz.func149 rfl (by decide) (cwp_ev pk ?_))
  refine w_call (sp_lockTake hc _ _ _) rfl rfl rfl ?_
  refine w_callM (sp_call m pc 2 0 0 [] [chanA m.caps ch 2]) rfl rfl rfl rfl ?_
  exact w_done (leafM (.inl rfl) rfl rfl rfl)
theorem sp_release (m : MS) (hc : WfC m.caps) (pc ch : Int) : MSpec 247 [di pc, di ch] unitT m (m.cal pc 2 (lockF m.caps ch 1)) := by
  intro x
  refine (fspec_intro pk (fn := Tryz.f247) (fun _ _ => rfl) Tryz.func247 rfl (by decide) (cwp_ev pk ?_))
  refine w_call (sp_lockRelease hc _ _ _) rfl rfl rfl ?_
  refine w_callM (sp_call m pc 2 0 1 [] [chanA m.caps ch 2]) rfl rfl rfl rfl ?_
  exact w_done (leafM (.inl rfl) rfl rfl rfl)
end Gx
