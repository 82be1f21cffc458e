import Derived.Test.YtnbiiphkefhkcaaGreatGzB
set_option linter.unusedVariables false
set_option linter.unusedSimpArgs false
set_option maxRecDepth 100000
set_option maxHeartbeats 2000000
namespace Gx
open Go Go.Proofs
attribute [local irreducible] WpT

/-! ChanopNothing -/
theorem sp_EndF (m : MS) (r : Rs) (hc : m.cases = []) : FSpec Tryz.prog 19 0 [] [(m.fin r).fd] (.tup [r.d, db true]) [] := sp_CEnd (m.fin r) hc
theorem sp_NextF (m : MS) (r : Rs) : FSpec Tryz.prog 21 0 [] [(m.fin r).fd] (.d noAcc.d) [] := sp_CNext (m.fin r) trivial
section
variable {caps : List Int} (hc : WfC caps) (sts : V) (th t n : Int) (ht : 0 ≤ t ∧ t < 1000)
abbrev nw (caps : List Int) (th t kind mode n val : Int) : MS := MS.new caps th t kind mode n val 0
include hc ht in
theorem sp_st (kind mode val : Int) (hk : kind ≠ 4) (m' : MS) (h : startM caps th t kind mode n val 0 = m') : FSpec Tryz.prog 20 0 [] [cfD caps sts th, di t, opD kind mode n val 0 [] []] (.d m'.fd) [] := by
  subst h
  exact sp_CStart caps sts th t kind mode n val 0 hc (by have := hc.len; omega) hk ⟨by omega, by omega⟩
theorem stCapT (hx : exC caps n = true) : startM caps th t 6 0 n 0 0 = (nw caps th t 6 0 n 0).fin ⟨7, -1, 0, false, caps.getD n.toNat 0⟩ := by
  unfold startM MS.start; simp [MS.new, hx]
theorem stCapF (hx : exC caps n = false) : startM caps th t 6 0 n 0 0 = (nw caps th t 6 0 n 0).fin ⟨7, -1, 0, false, 0⟩ := by
  unfold startM MS.start; simp [MS.new, hx]
theorem stLenF (hx : exC caps n = false) : startM caps th t 5 0 n 0 0 = (nw caps th t 5 0 n 0).fin ⟨7, -1, 0, false, 0⟩ := by
  unfold startM MS.start; simp [MS.new, hx]
theorem stCloseF (hx : exC caps n = false) : startM caps th t 3 0 n 0 0 = (nw caps th t 3 0 n 0).fin ⟨5, -1, 0, false, 0⟩ := by
  unfold startM MS.start; simp [MS.new, hx]
theorem stSendF (v : Int) (hx : exC caps n = false) : startM caps th t 1 1 n v 0 = (nw caps th t 1 1 n v).fin ⟨3, -1, 0, false, 0⟩ := by
  unfold startM MS.start; simp [MS.new, hx]
theorem stRecvF (hx : exC caps n = false) : startM caps th t 2 1 n 0 0 = (nw caps th t 2 1 n 0).fin ⟨3, -1, 0, false, 0⟩ := by
  unfold startM MS.start; simp [MS.new, hx]
theorem stWaitF (hx : exC caps n = false) : startM caps th t 2 0 n 0 0 = (nw caps th t 2 0 n 0).enlist := by
  have hn : ¬ (0 ≤ n ∧ n < caps.length) := by simpa [exC] using hx
  have hl : (MS.new caps th t 2 0 n 0 0).locks = [] := if_neg hn
  unfold startM MS.start
  simp [MS.new, hx]
  unfold MS.begin
  have hl' : (MS.new caps th t 2 0 n 0 0).locks = [] := if_neg hn
  simp only [MS.new] at hl'
  rw [hl']
  simp
theorem sp_EndW (m : MS) (hc : m.cases = []) : FSpec Tryz.prog 19 0 [] [m.enlist.fd] (.tup [(⟨0, 0, 0, false, 0⟩ : Rs).d, db false]) [] := sp_CEnd m.enlist hc
end
noncomputable abbrev bNo : Code := Tryz.f3.body.getD .skip
abbrev noQ : Ex → St → Prop := Done tiT Tryz.f3.results.toList 0 (rb true) []
abbrev opsC (n v : Int) : List S := [.v (i64 5), .v (i64 0), .v (i64 n), .v (u64 0), .v (i64 0), .xrow [] 0, .xrow [] 0, .v (i64 3), .v (i64 0), .v (i64 n), .v (u64 0), .v (i64 0), .xrow [] 0, .xrow [] 0,
  .v (i64 1), .v (i64 1), .v (i64 n), .v (u64 v), .v (i64 0), .xrow [] 0, .xrow [] 0, .v (i64 2), .v (i64 1), .v (i64 n), .v (u64 0), .v (i64 0), .xrow [] 0, .xrow [] 0]
abbrev noT (t n v : Int) (b : Bool) : List (Nat × T) := [(3, ru v), (10, .d (.sc (.ptr 108 0))), (11, ri t), (12, ri n), (13, rb b)]
abbrev noX (caps : List Int) (sts : V) (th : Int) : Nat × Option Blk := (108, some (.var (cfC caps sts th)))
section
variable {caps : List Int} (hc : WfC caps) (sts : V) (th t n v : Int) (ht : 0 ≤ t ∧ t < 1000)
include hc ht
theorem no_ex (he : 0 ≤ n ∧ n < caps.length) (b : Bool) (hb : b = true) : WpT Tryz.prog (evC tiT (Code.restN 7 bNo) ⟨noT t n v b, [noX caps sts th], 300, 128⟩ kD) noQ := by
  have hx : exC caps n = true := decide_eq_true he
  refine w_call (sp_st hc sts th t n ht 6 0 0 (by decide) _ (stCapT th t n hx)) rfl rfl rfl ?_
  refine w_call (sp_EndF _ _ rfl) rfl rfl rfl ?_
  refine w_cutK pk (Code.restN 8 bNo) kD ⟨noT t n v b ++ [(14, .d (.sc (.ptr 336 0))), (15, rb true)], [noX caps sts th, (336, some (.var (rsC ⟨7, -1, 0, false, caps.getD n.toNat 0⟩)))], 400, 128⟩ [3, 10, 11, 12, 13, 14, 15] [108, 336] 400 (by kernel_rfl) (by kernel_rfl) (by kernel_rfl) (by kernel_rfl) (by kernel_rfl) ?_
  refine w_cutK pk (Code.restN 9 bNo) kD ⟨noT t n v b ++ [(14, .d (.sc (.ptr 336 0))), (15, rb true), (16, .d (.sc (.ptr 404 0)))], [noX caps sts th, (336, some (.var (rsC ⟨7, -1, 0, false, caps.getD n.toNat 0⟩))), (404, some (.var (rsC ⟨7, -1, 0, false, 0⟩)))], 500, 128⟩ [3, 10, 11, 12, 13, 14, 15, 16] [108, 336, 404] 500 (by kernel_rfl) (by kernel_rfl) (by kernel_rfl) (by kernel_rfl) (by kernel_rfl) ?_
  refine w_runC pk ?_
  refine w_bT hb ?_
  refine w_chk he ?_
  refine w_rdv (takeN_one (getI (i := n.toNat) (by omega))) ?_
  refine w_cutK pk (Code.restN 10 bNo) kD ⟨noT t n v b ++ [(14, .d (.sc (.ptr 336 0))), (15, rb true), (16, .d (.sc (.ptr 404 0)))], [noX caps sts th, (336, some (.var (rsC ⟨7, -1, 0, false, caps.getD n.toNat 0⟩))), (404, some (.var (rsC ⟨7, -1, 0, false, caps.getD n.toNat 0⟩)))], 500, 128⟩ [3, 10, 11, 12, 13, 14, 15, 16] [108, 336, 404] 500 (by kernel_rfl) (by kernel_rfl) (by kernel_rfl) (by kernel_rfl) (by kernel_rfl) ?_
  refine w_brF ?_
  refine w_bF (by simp) ?_
  repeat' (try conv => arg 2; whnf) <;> first
    | refine w_brT ?_
    | refine w_brF ?_
    | refine w_bF (by simp) ?_
    | refine w_call (sp_st hc sts th t n ht 6 0 0 (by decide) _ (stCapT th t n hx)) rfl rfl rfl ?_
    | refine w_call (sp_NextF _ _) rfl rfl rfl ?_
  refine w_runC pk ?_
  refine w_brF ?_
  refine w_cutK pk (Code.restN 11 bNo) kD ⟨noT t n v b, [noX caps sts th], 600, 128⟩ [3, 10, 11, 12, 13] [108] 600 (by kernel_rfl) (by kernel_rfl) (by kernel_rfl) (by kernel_rfl) (by kernel_rfl) ?_
  refine w_runC pk ?_
  refine w_bT hb ?_
  repeat refine w_runC pk ?_
  exact w_done (leafB rfl rfl)
abbrev noL (n v t : Int) (k : Int) (caps : List Int) (sts : V) (th : Int) (b : Bool) : St :=
  ⟨noT t n v b ++ [(88, .d (.sc (.mrow 636 0 4 none 7 true))), (89, ri 4), (90, ri k)], [noX caps sts th, (636, some (.arr (opsC n v)))], 1000, 128⟩
theorem no_ne (he : ¬ (0 ≤ n ∧ n < caps.length)) (b : Bool) (hb : b = false) : WpT Tryz.prog (evC tiT (Code.restN 7 bNo) ⟨noT t n v b, [noX caps sts th], 300, 128⟩ kD) noQ := by
  have hx : exC caps n = false := decide_eq_false he
  refine w_call (sp_st hc sts th t n ht 6 0 0 (by decide) _ (stCapF th t n hx)) rfl rfl rfl ?_
  refine w_call (sp_EndF _ _ rfl) rfl rfl rfl ?_
  refine w_cutK pk (Code.restN 8 bNo) kD ⟨noT t n v b ++ [(14, .d (.sc (.ptr 336 0))), (15, rb true)], [noX caps sts th, (336, some (.var (rsC ⟨7, -1, 0, false, 0⟩)))], 400, 128⟩ [3, 10, 11, 12, 13, 14, 15] [108, 336] 400 (by kernel_rfl) (by kernel_rfl) (by kernel_rfl) (by kernel_rfl) (by kernel_rfl) ?_
  refine w_cutK pk (Code.restN 9 bNo) kD ⟨noT t n v b ++ [(14, .d (.sc (.ptr 336 0))), (15, rb true), (16, .d (.sc (.ptr 404 0)))], [noX caps sts th, (336, some (.var (rsC ⟨7, -1, 0, false, 0⟩))), (404, some (.var (rsC ⟨7, -1, 0, false, 0⟩)))], 500, 128⟩ [3, 10, 11, 12, 13, 14, 15, 16] [108, 336, 404] 500 (by kernel_rfl) (by kernel_rfl) (by kernel_rfl) (by kernel_rfl) (by kernel_rfl) ?_
  refine w_runC pk ?_
  refine w_bF hb ?_
  refine w_cutK pk (Code.restN 10 bNo) kD ⟨noT t n v b ++ [(14, .d (.sc (.ptr 336 0))), (15, rb true), (16, .d (.sc (.ptr 404 0)))], [noX caps sts th, (336, some (.var (rsC ⟨7, -1, 0, false, 0⟩))), (404, some (.var (rsC ⟨7, -1, 0, false, 0⟩)))], 500, 128⟩ [3, 10, 11, 12, 13, 14, 15, 16] [108, 336, 404] 500 (by kernel_rfl) (by kernel_rfl) (by kernel_rfl) (by kernel_rfl) (by kernel_rfl) ?_
  refine w_brF ?_
  refine w_bF (by simp) ?_
  repeat' (try conv => arg 2; whnf) <;> first
    | refine w_brT ?_
    | refine w_brF ?_
    | refine w_bF (by simp) ?_
    | refine w_call (sp_st hc sts th t n ht 6 0 0 (by decide) _ (stCapF th t n hx)) rfl rfl rfl ?_
    | refine w_call (sp_NextF _ _) rfl rfl rfl ?_
  refine w_runC pk ?_
  refine w_brF ?_
  refine w_cutK pk (Code.restN 11 bNo) kD ⟨noT t n v b, [noX caps sts th], 600, 128⟩ [3, 10, 11, 12, 13] [108] 600 (by kernel_rfl) (by kernel_rfl) (by kernel_rfl) (by kernel_rfl) (by kernel_rfl) ?_
  refine w_runC pk ?_
  refine w_bF hb ?_
  refine w_cutK pk (Code.restN 12 bNo) kD ⟨noT t n v b, [noX caps sts th], 600, 128⟩ [3, 10, 11, 12, 13] [108] 600 (by kernel_rfl) (by kernel_rfl) (by kernel_rfl) (by kernel_rfl) (by kernel_rfl) ?_
  refine w_runC pk ?_
  refine w_loop 5 (lp_pick (s0 := noL n v t 0 caps sts th b) [3, 10, 11, 12, 13, 88, 89, 90] [108, 636] 1000 (by kernel_rfl) (clB_of rfl) (lp_step pk ?_))
  repeat' (try conv => arg 2; whnf) <;> first
    | refine w_brT ?_
    | refine w_brF ?_
    | refine w_bF (by simp) ?_
    | refine w_chk ⟨by decide, by decide⟩ ?_
    | refine w_rd rfl ?_
    | refine w_call (sp_st hc sts th t n ht 5 0 0 (by decide) _ (stLenF th t n hx)) rfl rfl rfl ?_
    | refine w_call (sp_EndF _ _ rfl) rfl rfl rfl ?_
  refine w_done (lp_pick (s0 := noL n v t 1 caps sts th b) [3, 10, 11, 12, 13, 88, 89, 90] [108, 636] 1000 (by kernel_rfl) (clB_of rfl) (lp_step pk ?_))
  repeat' (try conv => arg 2; whnf) <;> first
    | refine w_brT ?_
    | refine w_brF ?_
    | refine w_bF (by simp) ?_
    | refine w_chk ⟨by decide, by decide⟩ ?_
    | refine w_rd rfl ?_
    | refine w_call (sp_st hc sts th t n ht 3 0 0 (by decide) _ (stCloseF th t n hx)) rfl rfl rfl ?_
    | refine w_call (sp_EndF _ _ rfl) rfl rfl rfl ?_
  refine w_done (lp_pick (s0 := noL n v t 2 caps sts th b) [3, 10, 11, 12, 13, 88, 89, 90] [108, 636] 1000 (by kernel_rfl) (clB_of rfl) (lp_step pk ?_))
  repeat' (try conv => arg 2; whnf) <;> first
    | refine w_brT ?_
    | refine w_brF ?_
    | refine w_bF (by simp) ?_
    | refine w_chk ⟨by decide, by decide⟩ ?_
    | refine w_rd rfl ?_
    | refine w_call (sp_st hc sts th t n ht 1 1 v (by decide) _ (stSendF th t n v hx)) rfl rfl rfl ?_
    | refine w_call (sp_EndF _ _ rfl) rfl rfl rfl ?_
  refine w_done (lp_pick (s0 := noL n v t 3 caps sts th b) [3, 10, 11, 12, 13, 88, 89, 90] [108, 636] 1000 (by kernel_rfl) (clB_of rfl) (lp_step pk ?_))
  repeat' (try conv => arg 2; whnf) <;> first
    | refine w_brT ?_
    | refine w_brF ?_
    | refine w_bF (by simp) ?_
    | refine w_chk ⟨by decide, by decide⟩ ?_
    | refine w_rd rfl ?_
    | refine w_call (sp_st hc sts th t n ht 2 1 0 (by decide) _ (stRecvF th t n hx)) rfl rfl rfl ?_
    | refine w_call (sp_EndF _ _ rfl) rfl rfl rfl ?_
  refine w_done (lp_pick (s0 := noL n v t 4 caps sts th b) [3, 10, 11, 12, 13, 88, 89, 90] [108, 636] 1000 (by kernel_rfl) (clB_of rfl) (lp_step pk ?_))
  refine w_brF ?_
  refine w_done ?_
  show WpT _ _ _
  refine w_cutK pk (Code.restN 13 bNo) kD ⟨noT t n v b, [noX caps sts th], 600, 128⟩ [3, 10, 11, 12, 13] [108] 600 (by kernel_rfl) (by kernel_rfl) (by kernel_rfl) (by kernel_rfl) (by kernel_rfl) ?_
  refine w_call (sp_st hc sts th t n ht 2 0 0 (by decide) _ (stWaitF th t n hx)) rfl rfl rfl ?_
  refine w_call (sp_EndW _ rfl) rfl rfl rfl ?_
  repeat refine w_runC pk ?_
  exact w_done (leafB rfl rfl)
end
abbrev bytes (l : List Int) : Prop := ∀ x, x ∈ l → 0 ≤ x ∧ x < 256
theorem no_main {caps : List Int} (hc : WfC caps) (sts : V) (th ch t v : Int) (hth : 0 < th ∧ th < 1000) : WpT Tryz.prog (evC tiT (Code.restN 4 bNo) ⟨[(1, ri ch), (2, ri t), (3, ru v), (10, .d (.sc (.ptr 108 0)))], [noX caps sts th], 200, 128⟩ kD) noQ := by
  have ht := modI_le t th hth.1
  have hn := modI_le ch 9 (by decide)
  have e : IntKind.i64.wrap (modI ch 9 - 1) = modI ch 9 - 1 := by show wI _ = _; exact wI_id (by omega) (by omega)
  refine w_call (sp_Mod t th hth.1 hth.2) rfl rfl rfl ?_
  refine w_runC pk ?_
  refine w_call (sp_Mod ch 9 (by decide) (by decide)) rfl rfl rfl ?_
  refine w_cutK pk (Code.restN 6 bNo) kD ⟨[(3, ru v), (10, .d (.sc (.ptr 108 0))), (11, ri (modI t th)), (12, ri (IntKind.i64.wrap (modI ch 9 - 1)))], [noX caps sts th], 250, 128⟩ [3, 10, 11, 12] [108] 250 (by kernel_rfl) (by kernel_rfl) (by kernel_rfl) (by kernel_rfl) (by kernel_rfl) ?_
  rw [e]
  generalize modI ch 9 - 1 = n at *
  refine w_br (fun h => ?_) fun h => ?_
  · repeat refine w_brT ?_
    refine w_cutK pk (Code.restN 7 bNo) kD ⟨noT (modI t th) n v (decide (n < caps.length)), [noX caps sts th], 300, 128⟩ [3, 10, 11, 12, 13] [108] 300 (by kernel_rfl) (by kernel_rfl) (by kernel_rfl) (by kernel_rfl) (by kernel_rfl) ?_
    simp at h
    by_cases he : n < caps.length
    · exact no_ex hc sts th _ n v ⟨by omega, by omega⟩ ⟨h, he⟩ _ (decide_eq_true he)
    · exact no_ne hc sts th _ n v ⟨by omega, by omega⟩ (fun x => he x.2) _ (decide_eq_false he)
  · repeat refine w_brF ?_
    refine w_cutK pk (Code.restN 7 bNo) kD ⟨noT (modI t th) n v false, [noX caps sts th], 300, 128⟩ [3, 10, 11, 12, 13] [108] 300 (by kernel_rfl) (by kernel_rfl) (by kernel_rfl) (by kernel_rfl) (by kernel_rfl) ?_
    simp at h
    exact no_ne hc sts th _ n v ⟨by omega, by omega⟩ (fun x => by omega) _ rfl
theorem no_rest (l : List Int) (hl : l.length ≤ 60) (hb : bytes l) (ch t v : Int) : WpT Tryz.prog (evC tiT (Code.restN 3 bNo) ⟨[(1, ri ch), (2, ri t), (3, ru v), (9, .d (.sc (.ptr 5000 0)))], [(5000, some (.var (cdC l 0 0)))], 100, 128⟩ kD) noQ := by
  have hw := wide_wf l hb 9 0 0 [] [] (by decide) rfl (by decide) (fun c h => by simp at h)
  have h8 := nxV_lt l (wideX l 0).2.2 8 hb (by decide)
  refine w_call1 5000 (sp_Wide l 0 (by omega) hb 0 (by decide)) rfl rfl rfl rfl rfl rfl ?_
  refine w_cutK pk (Code.restN 4 bNo) kD ⟨[(1, ri ch), (2, ri t), (3, ru v), (10, .d (.sc (.ptr 108 0)))], [noX (wideX l 0).1 (rowU (wideX l 0).2.1) (1 + nxV l (wideX l 0).2.2 8)], 200, 128⟩ [1, 2, 3, 10] [108] 200 (by kernel_rfl) (by kernel_rfl) (by kernel_rfl) (by kernel_rfl) (by kernel_rfl) ?_
  exact no_main hw.1 _ _ ch t v ⟨by omega, by omega⟩
theorem sp_Nothing (l : List Int) (hb : bytes l) (ch t v : Int) : FSpec Tryz.prog 3 0 [] [.sc (.v (rowB l)), di ch, di t, du v] (rb true) [] := by
  refine (fspec_intro pk (fn := Tryz.f3) (fun _ _ => rfl) Tryz.func3 rfl (by decide) (cwp_evC pk ?_))
  refine w_runC pk ?_
  refine w_call sp_awake rfl rfl rfl ?_
  refine w_runC pk ?_
  refine w_brF ?_
  refine w_runC pk ?_
  by_cases h : l.length ≤ 60
  · refine w_callN [(92, 5000)] (sp_DNewA l h) rfl trivial rfl rfl rfl rfl rfl rfl rfl rfl rfl rfl ?_
    refine w_cutK pk (Code.restN 3 bNo) kD ⟨[(1, ri ch), (2, ri t), (3, ru v), (9, .d (.sc (.ptr 5000 0)))], [(5000, some (.var (cdC l 0 0)))], 100, 128⟩ [1, 2, 3, 9] [5000] 100 (by kernel_rfl) (by kernel_rfl) (by kernel_rfl) (by kernel_rfl) (by kernel_rfl) ?_
    exact no_rest l h hb ch t v
  · refine w_callN [(108, 5000)] (sp_DNewB l (by omega)) rfl trivial rfl rfl rfl rfl rfl rfl rfl rfl rfl rfl ?_
    refine w_cutK pk (Code.restN 3 bNo) kD ⟨[(1, ri ch), (2, ri t), (3, ru v), (9, .d (.sc (.ptr 5000 0)))], [(5000, some (.var (cdC (l.take 60) 0 0)))], 100, 128⟩ [1, 2, 3, 9] [5000] 100 (by kernel_rfl) (by kernel_rfl) (by kernel_rfl) (by kernel_rfl) (by kernel_rfl) ?_
    exact no_rest (l.take 60) (by simp; omega) (fun x hx => hb x (List.mem_of_mem_take hx)) ch t v
end Gx
