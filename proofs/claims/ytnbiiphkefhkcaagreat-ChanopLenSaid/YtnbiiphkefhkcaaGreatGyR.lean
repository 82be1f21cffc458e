import Derived.Test.YtnbiiphkefhkcaaGreatGyQ
set_option linter.unusedVariables false
set_option linter.unusedSimpArgs false
set_option maxRecDepth 100000
set_option maxHeartbeats 1000000
namespace Gx
open Go Go.Proofs
attribute [local irreducible] WpT

section
variable {P : Program} {Q : Ex → St → Prop}
theorem w_bT {b : Bool} {t e : Tree} (hb : b = true) (h : WpT P t Q) : WpT P (.br b t e) Q := w_br (fun _ => h) fun h' => by rw [hb] at h'; cases h'
theorem w_bF {b : Bool} {t e : Tree} (hb : b = false) (h : WpT P e Q) : WpT P (.br b t e) Q := w_br (fun h' => by rw [hb] at h'; cases h') fun _ => h
end
theorem sp_run7 (m : MS) (r : Rz) (h : m.wf) (hp : m.pc ≤ 7) : MSpec 123 [rzD r] unitT m (m.beginning r) := by
  intro x
  refine (fspec_intro pk (fn := Tryz.f123) (fun _ _ => rfl) Tryz.func123 rfl (by decide) (cwp_ev pk ?_))
  refine w_br (fun h => by simp at h; omega) fun _ => ?_
  refine w_br (fun h => by simp at h; omega) fun _ => ?_
  refine w_br (fun h => by simp at h; omega) fun _ => ?_
  refine w_br (fun h => by simp at h; omega) fun _ => ?_
  refine w_br (fun h => by simp at h; omega) fun _ => ?_
  refine w_br (fun h => by simp at h; omega) fun _ => ?_
  refine w_callM (b := 0) (m := m) (x := x) (sp_beginning m r h) rfl rfl rfl rfl ?_
  exact w_done (leafM (.inl rfl) rfl rfl rfl)
section
variable {Q : Ex → St → Prop} {f : FuncId} {args0 args : List D} {res0 res : T} {s : St} {nm : Nat} {k : T → List (Nat × Option Blk) → List Nat → Tree}
/-- A call of a method on a state that is new. -/
theorem w_callMc {b : Nat} {m m' : MS} {bl0 : Blk} (hs : MSpec f args0 res0 m m') (hargs : (sp0 :: args0).map (D.rn [(0, b)]) = args) (hb : look s.σ b = some (some bl0)) (hc : bl0.l.map S.clr = encS false m)
    (ha : args0.all (fun y => y.cl (stB false m)) = true) (hr : res0.rn [(0, b)] = res) (hk : WpT Tryz.prog (k res [(b, some (.var (encS false m')))] [b]) Q) : WpT Tryz.prog (.call f args s nm k) Q :=
  w_call1c b (hs false) hb hc hargs (encS_pl false m) (encS_pl false m') (by rw [List.all_cons, ha]; rfl) hr hk
end
def MS.new (caps : List Int) (th thread kind mode ch val dl : Int) : MS := ⟨caps, th, thread, kind, mode, ch, val, dl, [], [], 0, .zero, 0, 0, 0, 0, 0, 0, 0, 0, [], [], [], 0, ⟨0, 0, 0, false, 0⟩, 0⟩
def exC (caps : List Int) (ch : Int) : Bool := decide (0 ≤ ch ∧ ch < caps.length)
def MS.start (m : MS) : MS :=
  if m.kind = 6 ∧ exC m.caps m.chan = true then m.fin ⟨7, -1, 0, false, m.caps.getD m.chan.toNat 0⟩
  else if m.kind = 6 ∨ m.kind = 5 ∧ exC m.caps m.chan = false then m.fin ⟨7, -1, 0, false, 0⟩
  else if m.kind = 5 then m.cal 7 6 ⟨0, 1, [0, 0], ringLs m.caps m.chan⟩
  else if m.kind = 3 ∧ exC m.caps m.chan = true then m.cal 6 5 ⟨0, 1, [0], ringLs m.caps m.chan⟩
  else if m.kind = 3 then m.fin ⟨5, -1, 0, false, 0⟩
  else if exC m.caps m.chan = false ∧ m.mode = 1 then m.fin ⟨3, -1, 0, false, 0⟩
  else if exC m.caps m.chan = true ∧ m.caps.getD m.chan.toNat 0 > 0 ∧ m.kind = 1 then m.cal 1 3 ⟨0, 1, [0, m.opval], ringLs m.caps m.chan⟩
  else if exC m.caps m.chan = true ∧ m.caps.getD m.chan.toNat 0 > 0 then m.cal 1 4 ⟨0, 1, [0, 0, 0], ringLs m.caps m.chan⟩
  else m.begin
abbrev startM (caps : List Int) (th thread kind mode ch val dl : Int) : MS := (MS.new caps th thread kind mode ch val dl).start
structure MS.like (m' m : MS) : Prop where
  cases : m'.cases = m.cases
  caps : m'.caps = m.caps
  draws : m'.draws = m.draws
  recv : m'.recv = m.recv
  send : m'.send = m.send
  words : m'.words = m.words
theorem MS.begin_like (m : MS) : m.begin.like m := by
  unfold MS.begin
  split
  · exact ⟨rfl, rfl, rfl, rfl, rfl, rfl⟩
  · split <;> exact ⟨rfl, rfl, rfl, rfl, rfl, rfl⟩
theorem MS.start_like (m : MS) : m.start.like m := by
  unfold MS.start
  repeat' split
  all_goals first
    | exact ⟨rfl, rfl, rfl, rfl, rfl, rfl⟩
    | exact m.begin_like
def MS.fd (m : MS) : D := frD m.kind m.pc (fwN m) (flN m) (.row (innVs m.inner) 1)
section
variable {Q : Ex → St → Prop} {args : List D} {s : St} {nm : Nat} {k : T → List (Nat × Option Blk) → List Nat → Tree}
theorem w_callFr {b : Nat} {x : Bool} {m : MS} (m' : MS) (hb : look s.σ b = some (some (.var (encS x m)))) (hargs : [D.sc (.ptr b 0)] = args) (hm : m = m') (hcs : m'.cases = []) (hl : m'.caps.length + m'.draws.length + m'.recv.length + m'.send.length + m'.words.length < 100000)
    (hk : WpT Tryz.prog (k (.d m'.fd) [(b, some (.var (encS x m')))] [b]) Q) : WpT Tryz.prog (.call 113 args s nm k) Q := by
  subst hm
  subst hargs
  refine w_call1 b (sp_frame m hcs hl x) hb ?_ (encS_pl x m) (encS_pl x m) rfl rfl hk
  show [D.sc (.ptr (rnN [(0, b)] 0) 0)] = _
  rfl
end
theorem sp_ExistsT (caps : List Int) (sts : V) (th ch : Int) (he : 0 ≤ ch ∧ ch < caps.length) : FSpec Tryz.prog 105 0 [] [cfD caps sts th, di ch] (rb true) [] := by
  have := sp_Exists caps sts th ch
  rw [decide_eq_true he] at this; exact this
theorem sp_ExistsF (caps : List Int) (sts : V) (th ch : Int) (he : ¬ (0 ≤ ch ∧ ch < caps.length)) : FSpec Tryz.prog 105 0 [] [cfD caps sts th, di ch] (rb false) [] := by
  have := sp_Exists caps sts th ch
  rw [decide_eq_false he] at this; exact this
theorem sp_Start (caps : List Int) (sts : V) (th thread kind mode ch val dl : Int) (hc : WfC caps) (hl : caps.length < 1000) (hk : kind ≠ 4) (ht : -1000000000000 ≤ thread ∧ thread ≤ 1000000000000) :
    FSpec Tryz.prog 58 0 [] [cfD caps sts th, di thread, opD kind mode ch val dl [] []] (.d (startM caps th thread kind mode ch val dl).fd) [] := by
  obtain ⟨g1, g2, g3, g4, g5, g6⟩ := MS.start_like (MS.new caps th thread kind mode ch val dl)
  have gl : (startM caps th thread kind mode ch val dl).caps.length + (startM caps th thread kind mode ch val dl).draws.length + (startM caps th thread kind mode ch val dl).recv.length + (startM caps th thread kind mode ch val dl).send.length + (startM caps th thread kind mode ch val dl).words.length < 100000 := by
    rw [g2, g3, g4, g5, g6]; simp [MS.new]; omega
  refine (fspec_intro pk (fn := Tryz.f58) (fun _ _ => rfl) Tryz.func58 rfl (by decide) (cwp_ev pk ?_))
  by_cases he : 0 ≤ ch ∧ ch < caps.length
  · have hx : exC caps ch = true := decide_eq_true he
    refine w_call (sp_ExistsT caps sts th ch he) rfl rfl rfl ?_
    refine w_br (fun h => by simp at h; exact absurd h hk) fun h4 => ?_
    clear h4
    repeat' (try conv => arg 2; whnf) <;> first
      | refine w_brT ?_
      | refine w_brF ?_
      | refine w_bT (by assumption) ?_
      | refine w_bF (by assumption) ?_
      | refine w_br (fun h => ?_) (fun h => ?_)
      | refine w_chk ⟨by kernel_rfl, by kernel_rfl⟩ ?_
      | refine w_chk he ?_
      | refine w_rdv (takeN_one (getI (i := ch.toNat) (by omega))) ?_
      | refine w_callMc (b := 108) (m := MS.new caps th thread kind mode ch val dl) (sp_finish _ _ _ _ _ _) rfl rfl rfl rfl rfl ?_
      | refine w_call (sp_countStart hc sts th ch) rfl rfl rfl ?_
      | refine w_call (sp_shutStart hc sts th ch) rfl rfl rfl ?_
      | refine w_call (sp_pushStart hc sts th ch val) rfl rfl rfl ?_
      | refine w_call (sp_popStart hc sts th ch) rfl rfl rfl ?_
      | refine w_callMc (b := 108) (m := MS.new caps th thread kind mode ch val dl) (sp_call _ 7 6 0 1 [0, 0] (ringLs caps ch)) rfl rfl rfl rfl rfl ?_
      | refine w_callMc (b := 108) (m := MS.new caps th thread kind mode ch val dl) (sp_call _ 6 5 0 1 [0] (ringLs caps ch)) rfl rfl rfl rfl rfl ?_
      | refine w_callMc (b := 108) (m := MS.new caps th thread kind mode ch val dl) (sp_call _ 1 3 0 1 [0, val] (ringLs caps ch)) rfl rfl rfl rfl rfl ?_
      | refine w_callMc (b := 108) (m := MS.new caps th thread kind mode ch val dl) (sp_call _ 1 4 0 1 [0, 0, 0] (ringLs caps ch)) rfl rfl rfl rfl rfl ?_
      | refine w_callMc (b := 108) (m := MS.new caps th thread kind mode ch val dl) (sp_begin _ hk hc ht) rfl rfl rfl rfl rfl ?_
    all_goals simp only [beq_iff_eq, beq_eq_false_iff_ne, ne_eq, decide_eq_true_eq, decide_eq_false_iff_not] at *
    all_goals refine w_callFr (b := 108) (x := false) (startM caps th thread kind mode ch val dl) rfl rfl ?_ g1 gl ?_
    all_goals first
      | exact w_done (done_eq (.inr rfl) rfl rfl rfl)
      | (show _ = (MS.new caps th thread kind mode ch val dl).start
         unfold MS.start
         simp only [MS.new, hx] at *
         repeat' split
         all_goals first | rfl | (exfalso; simp_all; done) | (exfalso; simp_all; omega))
  · have hx : exC caps ch = false := decide_eq_false he
    refine w_call (sp_ExistsF caps sts th ch he) rfl rfl rfl ?_
    refine w_br (fun h => by simp at h; exact absurd h hk) fun h4 => ?_
    clear h4
    repeat' (try conv => arg 2; whnf) <;> first
      | refine w_brT ?_
      | refine w_brF ?_
      | refine w_bT (by assumption) ?_
      | refine w_bF (by assumption) ?_
      | refine w_br (fun h => ?_) (fun h => ?_)
      | refine w_chk ⟨by kernel_rfl, by kernel_rfl⟩ ?_
      | refine w_callMc (b := 108) (m := MS.new caps th thread kind mode ch val dl) (sp_finish _ _ _ _ _ _) rfl rfl rfl rfl rfl ?_
      | refine w_callMc (b := 108) (m := MS.new caps th thread kind mode ch val dl) (sp_begin _ hk hc ht) rfl rfl rfl rfl rfl ?_
    all_goals simp only [beq_iff_eq, beq_eq_false_iff_ne, ne_eq, decide_eq_true_eq, decide_eq_false_iff_not] at *
    all_goals refine w_callFr (b := 108) (x := false) (startM caps th thread kind mode ch val dl) rfl rfl ?_ g1 gl ?_
    all_goals first
      | exact w_done (done_eq (.inr rfl) rfl rfl rfl)
      | (show _ = (MS.new caps th thread kind mode ch val dl).start
         unfold MS.start
         simp only [MS.new, hx] at *
         repeat' split
         all_goals first | rfl | (exfalso; simp_all; done) | (exfalso; simp_all; omega))
end Gx
