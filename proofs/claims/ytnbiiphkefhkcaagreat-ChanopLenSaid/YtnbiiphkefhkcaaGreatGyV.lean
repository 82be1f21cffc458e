import Derived.Test.YtnbiiphkefhkcaaGreatGyU
set_option linter.unusedVariables false
set_option linter.unusedSimpArgs false
set_option maxRecDepth 100000
set_option maxHeartbeats 2000000
namespace Gx
open Go Go.Proofs
attribute [local irreducible] WpT

/-! a machine that runs alone, without waiting or lists -/
theorem MS.beginning_like (m : MS) (r : Rz) : (m.beginning r).like m := by
  unfold MS.beginning
  repeat' split
  all_goals first
    | exact ⟨rfl, rfl, rfl, rfl, rfl, rfl⟩
    | exact ⟨(m.m1 r).begin_like.cases, (m.m1 r).begin_like.caps, (m.m1 r).begin_like.draws, (m.m1 r).begin_like.recv, (m.m1 r).begin_like.send, (m.m1 r).begin_like.words⟩
def MS.res1 (m : MS) (a : Ans) : MS := m.resu a (({ m with depth := 0 } : MS).beginning (m.inner.go a).2.1)
def zRs : Rs := ⟨0, 0, 0, false, 0⟩
def aloneM : Nat → Int → List Int → MS → List Int × Rs × Int
  | 0, _, ws, _ => (ws, zRs, -1)
  | k + 1, i, ws, f => if f.over then (ws, f.res, i) else if (applyW ws f.next).2.2 then aloneM k (i + 1) (applyW ws f.next).1 (f.res1 (applyW ws f.next).2.1) else (ws, zRs, -1)
def Inn.fitB : Inn → Bool
  | .sub k f => decide (k ≠ 1) && decide (f.ls.getD 3 0 < 9223372036854775808) && decide (f.ws.length < 1000)
  | _ => true
theorem Inn.fit_of {n : Inn} (h : n.fitB = true) : n.fit := by
  cases n with
  | sub k f => simp [Inn.fitB] at h; exact ⟨h.1.1, h.1.2, h.2⟩
  | _ => trivial
def MS.okB (caps : List Int) (m : MS) : Bool :=
  m.cases.isEmpty && m.inner.fitB && decide (m.kind ≠ 4) && decide (m.caps = caps) && decide (-1000000000000 ≤ m.thread) && decide (m.thread ≤ 1000000000000) && decide (-1000000000000 ≤ m.chan) && decide (m.chan ≤ 1000000000000)
    && decide (m.caps.length + m.draws.length + m.recv.length + m.send.length + m.words.length < 100000)
theorem MS.okB_of {caps : List Int} {m : MS} (hc : WfC caps) (h : m.okB caps = true) : m.cases = [] ∧ m.inner.fit ∧ m.wf ∧ m.len := by
  simp only [MS.okB, Bool.and_eq_true, List.isEmpty_iff, decide_eq_true_eq] at h
  obtain ⟨⟨⟨⟨⟨⟨⟨⟨h1, h2⟩, h3⟩, h4⟩, h5⟩, h6⟩, h7⟩, h8⟩, h9⟩ := h
  exact ⟨h1, Inn.fit_of h2, ⟨h3, by rw [h4]; exact hc, ⟨h5, h6⟩, h7, h8⟩, h9⟩
def okM (caps : List Int) : Nat → List Int → MS → Bool
  | 0, _, _ => true
  | k + 1, ws, f => f.okB caps && (f.over || (decide (f.next.kind < 7) && decide (f.next.kind ≠ 4) && decide (ws.length < 100000) && decide (f.pc ≤ 7) &&
      (!(applyW ws f.next).2.2 || okM caps k (applyW ws f.next).1 (f.res1 (applyW ws f.next).2.1))))
theorem sp_res1 {caps : List Int} (hc : WfC caps) (m : MS) (a : Ans) (h : m.okB caps = true) (hp : m.pc ≤ 7) : FSpec Tryz.prog 28 0 [] [m.fd, a.d] (.d (m.res1 a).fd) [] := by
  obtain ⟨h1, h2, h3, h4⟩ := MS.okB_of hc h
  refine sp_CResume m a _ h1 h2 fun _ _ => ?_
  have hl := MS.beginning_like { m with depth := 0 } (m.inner.go a).2.1
  refine ⟨sp_run7 { m with depth := 0 } _ h3 hp, hl.cases.trans h1, ?_⟩
  unfold MS.len
  rw [hl.caps, hl.draws, hl.recv, hl.send, hl.words]
  exact h4
abbrev mmC (ws : List Int) (L : V) (tick : Int) : List S := [.v (rowU ws), .v L, .v (i64 tick)]
abbrev rsC (r : Rs) : List S := [.v (i64 r.kind), .v (i64 r.case), .v (u64 r.val), .v (.bool r.ok), .v (i64 r.num)]
abbrev msC (m : MS) : List S := frC m.kind m.pc (fwN m) (flN m) (.row (innVs m.inner) 1)
abbrev alA (most : Int) (L : V) (tick i : Int) (ws : List Int) (f : MS) : St :=
  ⟨[(2, ri most), (3, .d (.sc (.ptr 64 0))), (4, .d (.sc (.ptr 68 0))), (6, .d (.sc (.ptr 72 0))), (7, .d (.sc (.ptr 76 0))), (9, ri i)], [(64, some (.var (mmC ws L tick))), (68, some (.var (msC f))), (72, some (.var [.xrow [] 0, .xrow [] 0, .v (i64 0)])), (76, some (.var (rsC zRs)))], 100, 45⟩
abbrev alB (L : V) (tick : Int) (ws : List Int) : St :=
  ⟨[(3, .d (.sc (.ptr 64 0))), (6, .d (.sc (.ptr 72 0))), (7, .d (.sc (.ptr 76 0)))], [(64, some (.var (mmC ws L tick))), (72, some (.var [.xrow [] 0, .xrow [] 0, .v (i64 0)])), (76, some (.var (rsC zRs)))], 100, 45⟩
abbrev alR (L : V) (tick : Int) (ws : List Int) (r : Rs) (i : Int) : St :=
  ⟨[(6, .d (.sc (.ptr 72 0))), (7, .d (.sc (.ptr 76 0))), (8, ri i)], [(72, some (.var (mmC ws L tick))), (76, some (.var (rsC r)))], 100, 45⟩
def alJ (L : V) (tick : Int) (X : List Int × Rs × Int) (e : Ex) (s : St) : Prop := (e = .exit 0 ∧ X.2.1 = zRs ∧ X.2.2 = -1 ∧ s = alB L tick X.1) ∨ (e = .ret ∧ s = alR L tick X.1 X.2.1 X.2.2)
theorem sp_alone {caps : List Int} (hc : WfC caps) (L : V) (tick : Int) (k : Nat) (hk : k < 1000000) (ws : List Int) (f : MS) (h : okM caps (k + 1) ws f = true) :
    FSpec Tryz.prog 34 0 [] [memD ws L tick, f.fd, di k] (.tup [memD (aloneM (k + 1) 0 ws f).1 L tick, (aloneM (k + 1) 0 ws f).2.1.d, di (aloneM (k + 1) 0 ws f).2.2]) [] := by
  refine (fspec_intro pk (fn := Tryz.f34) (fun _ _ => rfl) Tryz.func34 rfl (by decide) (cwp_ev pk ?_))
  refine w_code (J := alJ L tick (aloneM (k + 1) 0 ws f)) (cwp_loop_up (n := k + 2) ?_) ?_
  · have loop : ∀ (n : Nat) (i : Int) (ws : List Int) (f : MS), okM caps n ws f = true → i + n = k + 1 → 0 ≤ i → Lp Tryz.prog (loopN Tryz.f34 0) (n + 1) (alA k L tick i ws f) (Up (alJ L tick (aloneM n i ws f))) := by
      intro n
      induction n with
      | zero =>
        intro i ws f _ hi h0
        refine lp_step pk (w_br (fun h => by simp at h; omega) fun _ => ?_)
        exact w_done (up_of (s0 := alB L tick ws) [3, 6, 7] [64, 72, 76] 100 rfl (clB_of rfl) (.inl ⟨rfl, rfl, rfl, rfl⟩))
      | succ n ih =>
        intro i ws f hok hi h0
        simp only [okM, Bool.and_eq_true, Bool.or_eq_true, decide_eq_true_eq, Bool.not_eq_true'] at hok
        obtain ⟨hb, hok⟩ := hok
        obtain ⟨h1, h2, h3, h4⟩ := MS.okB_of hc hb
        refine lp_step pk (w_br (fun _ => ?_) fun h => by simp at h; omega)
        have he := sp_CEnd f h1
        by_cases ho : f.over = true
        · rw [ho] at he
          refine w_call he rfl rfl rfl ?_
          refine w_brT ?_
          refine w_chk ⟨by kernel_rfl, by kernel_rfl⟩ ?_
          have e : aloneM (n + 1) i ws f = (ws, f.res, i) := by unfold aloneM; rw [if_pos ho]
          rw [e]
          exact w_done (up_of (s0 := alR L tick ws f.res i) [6, 7, 8] [72, 76] 100 rfl (clB_of rfl) (.inr ⟨rfl, rfl⟩))
        · have ho' : f.over = false := by simpa using ho
          rw [ho'] at he
          obtain ⟨⟨⟨⟨n7, n4⟩, nl⟩, np⟩, hok⟩ := hok.resolve_left ho
          refine w_call he rfl rfl rfl ?_
          refine w_brF ?_
          refine w_call (sp_CNext f h2) rfl rfl rfl ?_
          have ha := sp_ApplyN ws L tick f.next n7 n4 nl
          by_cases hk2 : (applyW ws f.next).2.2 = true
          · rw [hk2] at ha
            refine w_call ha rfl rfl rfl ?_
            refine w_chk ⟨by kernel_rfl, by kernel_rfl⟩ ?_
            refine w_brF ?_
            refine w_call (sp_res1 hc f (applyW ws f.next).2.1 hb np) rfl rfl rfl ?_
            have e : aloneM (n + 1) i ws f = aloneM n (i + 1) (applyW ws f.next).1 (f.res1 (applyW ws f.next).2.1) := by
              conv => lhs; unfold aloneM
              rw [if_neg ho, if_pos hk2]
            rw [e]
            have ew : wI (i + 1) = i + 1 := wI_id (by omega) (by omega)
            refine w_done (lp_pick (s0 := alA k L tick (wI (i + 1)) (applyW ws f.next).1 (f.res1 (applyW ws f.next).2.1)) [2, 3, 4, 6, 7, 9] [64, 68, 72, 76] 100 rfl (clB_of rfl) ?_)
            rw [ew]
            exact ih (i + 1) _ _ (hok.resolve_left (by rw [hk2]; decide)) (by omega) (by omega)
          · have hk3 : (applyW ws f.next).2.2 = false := by simpa using hk2
            rw [hk3] at ha
            refine w_call ha rfl rfl rfl ?_
            refine w_chk ⟨by kernel_rfl, by kernel_rfl⟩ ?_
            refine w_brT ?_
            have e : aloneM (n + 1) i ws f = (ws, zRs, -1) := by
              unfold aloneM; rw [if_neg ho, if_neg hk2]
            rw [e]
            exact w_done (up_of (s0 := alB L tick ws) [3, 6, 7] [64, 72, 76] 100 rfl (clB_of rfl) (.inl ⟨rfl, rfl, rfl, rfl⟩))
    exact lp_pick (s0 := alA k L tick 0 ws f) [2, 3, 4, 6, 7, 9] [64, 68, 72, 76] 100 rfl (clB_of rfl) (loop (k + 1) 0 ws f h (by omega) (by omega))
  · generalize aloneM (k + 1) 0 ws f = X
    rintro e s (⟨rfl, h1, h2, rfl⟩ | ⟨rfl, rfl⟩)
    · rw [h1, h2]
      exact w_done (done_eq (.inr rfl) rfl rfl rfl)
    · exact w_done (done_eq (.inr rfl) rfl rfl rfl)
end Gx
