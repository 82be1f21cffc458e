/- The law ChanopLen, for every input: the call returns true, and each argument reads behind it as it read before. No condition. -/
import Derived.Test.YtnbiiphkefhkcaaGreatGzB
import Derived.Test.YtnbiiphkefhkcaaGreatGzR
import Derived.Deep.Slices
import Derived.ChangeArms
import Derived.Test.YtnbiiphkefhkcaaGreatGzC
import Derived.Test.YtnbiiphkefhkcaaGreatRows
import Derived.Test.YtnbiiphkefhkcaaGreatGzF
import Derived.WalkKit
import Derived.ProofKit
import Derived.OpenShut
import Derived.ShutString
import Derived.ChangeOld
import Derived.Below
import Derived.SizedLaws
set_option linter.unusedVariables false
set_option linter.unusedSimpArgs false
set_option maxRecDepth 100000
set_option maxHeartbeats 2000000
namespace Gx
open Go Go.Proofs
attribute [local irreducible] WpT

/-! the document's small machines: Shut and Count -/
structure Mc where
  what : Int
  at' : Int
  caps : List Int
  sts : V
  th : Int
  ch : Int
  t : Int
  idx : Int
  kd : Int
  val : Int
  T : Int
  H : Int
  ok : Int
  ov : Int
abbrev mcC (m : Mc) : List S := [.v (i64 m.what), .v (i64 m.at'), .v (rowI m.caps), .v m.sts, .v (i64 m.th), .v (i64 m.ch), .v (i64 m.t), .v (i64 m.idx), .v (i64 m.kd), .v (u64 m.val), .v (u64 m.T), .v (u64 m.H), .v (i64 m.ok), .v (u64 m.ov)]
def Mc.d (m : Mc) : D := .agg (mcC m)
abbrev mcNew (what : Int) (caps : List Int) (sts : V) (th ch t : Int) : Mc := ⟨what, 1, caps, sts, th, ch, t, 0, 0, 0, 0, 0, 0, 0⟩
theorem sp_McNew (caps : List Int) (sts : V) (th what ch t : Int) : FSpec Tryz.prog 24 0 [] [cfD caps sts th, di what, di ch, di t] (.d (mcNew what caps sts th ch t).d) [] := by
  refine (fspec_intro pk (fn := Tryz.f24) (fun _ _ => rfl) Tryz.func24 rfl (by decide) (cwp_ev pk ?_))
  exact w_done (done_eq (.inr rfl) rfl rfl rfl)
theorem sp_r7access (k a o n : Int) : FSpec Tryz.prog 63 0 [] [di k, di a, du o, du n] (.d (Acc.mk k a o n 0).d) [] := by
  refine (fspec_intro pk (fn := Tryz.f63) (fun _ _ => rfl) Tryz.func63 rfl (by decide) (cwp_ev pk ?_))
  exact w_done (leafA rfl rfl)
theorem sp_McSeq (m : Mc) : FSpec Tryz.prog 66 0 [] [m.d] (ru (seqSeq m.T)) [] := by
  refine (fspec_intro pk (fn := Tryz.f66) (fun _ _ => rfl) Tryz.func66 rfl (by decide) (cwp_ev pk ?_))
  refine w_call (sp_r1Seq _) rfl rfl rfl ?_
  exact w_done (leafU rfl rfl)
def Mc.fin (m : Mc) (k v : Int) : Mc := { m with at' := 0, ok := k, ov := v }
theorem sp_McEnd (m : Mc) (k v : Int) : FSpec Tryz.prog 75 0 [] [m.d, di k, du v] (.d (m.fin k v).d) [] := by
  refine (fspec_intro pk (fn := Tryz.f75) (fun _ _ => rfl) Tryz.func75 rfl (by decide) (cwp_ev pk ?_))
  exact w_done (done_eq (.inr rfl) rfl rfl rfl)
def Mc.go (m : Mc) (a : Int) : Mc := { m with at' := a }
theorem sp_McTo (m : Mc) (a : Int) : FSpec Tryz.prog 80 0 [] [m.d, di a] (.d (m.go a).d) [] := by
  refine (fspec_intro pk (fn := Tryz.f80) (fun _ _ => rfl) Tryz.func80 rfl (by decide) (cwp_ev pk ?_))
  exact w_done (done_eq (.inr rfl) rfl rfl rfl)
theorem leafMc' {ti : TypeId → Option TI} {rs : List ResultVar} {s : St} {m m' : Mc} (h : resT ti s rs = some (.d m.d)) (hx : m = m') : Done ti rs 0 (.d m'.d) [] .ret s := by
  subst hx; exact done_eq (.inr rfl) h rfl rfl
def Mc.shut (m : Mc) (v : Int) (ok : Bool) : Mc := if m.at' = 1 then (if seqClosed v = true then ({ m with T := v } : Mc).fin 4 0 else ({ m with T := v } : Mc).go 2) else if ok = true then m.fin 1 0 else m.go 1
theorem sp_McShut (m : Mc) (a : Ans) : FSpec Tryz.prog 78 0 [] [m.d, a.d] (.d (m.shut a.val a.ok).d) [] := by
  refine (fspec_intro pk (fn := Tryz.f78) (fun _ _ => rfl) Tryz.func78 rfl (by decide) (cwp_ev pk ?_))
  unfold Mc.shut
  refine w_br (fun h => ?_) fun h => ?_
  · simp at h
    rw [if_pos h]
    refine w_call (sp_r1Closed _) rfl rfl rfl ?_
    refine w_br (fun h2 => ?_) fun h2 => ?_
    · rw [if_pos h2]
      refine w_call (sp_McEnd { m with T := a.val } 4 0) rfl rfl rfl ?_
      exact w_done (leafMc' rfl rfl)
    · rw [if_neg (by rw [h2]; decide)]
      refine w_call (sp_McTo { m with T := a.val } 2) rfl rfl rfl ?_
      exact w_done (leafMc' rfl rfl)
  · simp at h
    rw [if_neg h]
    refine w_br (fun h2 => ?_) fun h2 => ?_
    · rw [if_pos h2]
      refine w_call (sp_McEnd m 1 0) rfl rfl rfl ?_
      exact w_done (leafMc' rfl rfl)
    · rw [if_neg (by rw [h2]; decide)]
      refine w_call (sp_McTo m 1) rfl rfl rfl ?_
      exact w_done (leafMc' rfl rfl)
def Mc.cnt (m : Mc) (v : Int) : Mc := if m.at' = 1 then ({ m with T := v } : Mc).go 2 else if m.at' = 2 then ({ m with H := v } : Mc).go 3 else if v = m.T then m.fin 9 (restU (seqSeq m.T) m.H) else ({ m with T := v } : Mc).go 2
theorem sp_McCount (m : Mc) (a : Ans) : FSpec Tryz.prog 79 0 [] [m.d, a.d] (.d (m.cnt a.val).d) [] := by
  refine (fspec_intro pk (fn := Tryz.f79) (fun _ _ => rfl) Tryz.func79 rfl (by decide) (cwp_ev pk ?_))
  unfold Mc.cnt
  refine w_br (fun h => ?_) fun h => ?_
  · simp at h
    rw [if_pos h]
    refine w_call (sp_McTo { m with T := a.val } 2) rfl rfl rfl ?_
    exact w_done (leafMc' rfl rfl)
  · simp at h
    rw [if_neg h]
    refine w_br (fun h => ?_) fun h => ?_
    · simp at h
      rw [if_pos h]
      refine w_call (sp_McTo { m with H := a.val } 3) rfl rfl rfl ?_
      exact w_done (leafMc' rfl rfl)
    · simp at h
      rw [if_neg h]
      refine w_br (fun h => ?_) fun h => ?_
      · simp at h
        rw [if_pos h]
        refine w_call (sp_McSeq m) rfl rfl rfl ?_
        refine w_call (sp_r1Rest _ _) rfl rfl rfl ?_
        refine w_call (sp_McEnd m 9 _) rfl rfl rfl ?_
        refine w_chk ⟨by kernel_rfl, by kernel_rfl⟩ ?_
        exact w_done (leafMc' rfl rfl)
      · simp at h
        rw [if_neg h]
        refine w_call (sp_McTo { m with T := a.val } 2) rfl rfl rfl ?_
        exact w_done (leafMc' rfl rfl)
def Mc.res (m : Mc) (a : Ans) : Mc := if m.at' = 0 then m else if m.what = 5 then m.shut a.val a.ok else m.cnt a.val
theorem sp_McRes (m : Mc) (a : Ans) (hw : m.what = 5 ∨ m.what = 6) : FSpec Tryz.prog 27 0 [] [m.d, a.d] (.d (m.res a).d) [] := by
  refine (fspec_intro pk (fn := Tryz.f27) (fun _ _ => rfl) Tryz.func27 rfl (by decide) (cwp_ev pk ?_))
  unfold Mc.res
  refine w_br (fun h => ?_) fun h => ?_
  · simp at h
    rw [if_pos h]
    exact w_done (leafMc' rfl rfl)
  simp at h
  rw [if_neg h]
  refine w_br (fun h1 => by simp at h1; omega) fun _ => ?_
  refine w_br (fun h1 => by simp at h1; omega) fun _ => ?_
  refine w_br (fun h1 => by simp at h1; omega) fun _ => ?_
  refine w_br (fun h1 => ?_) fun h1 => ?_
  · simp at h1
    rw [if_pos h1]
    refine w_call (sp_McShut m a) rfl rfl rfl ?_
    exact w_done (leafMc' rfl rfl)
  simp at h1
  rw [if_neg h1]
  refine w_br (fun _ => ?_) fun h2 => by simp at h2; omega
  refine w_call (sp_McCount m a) rfl rfl rfl ?_
  exact w_done (leafMc' rfl rfl)
def Mc.next (m : Mc) : Acc := if m.at' = 0 then noAcc else if m.what = 5 then (if m.at' = 1 then ⟨1, baseC m.caps m.ch.toNat, 0, 0, 0⟩ else ⟨3, baseC m.caps m.ch.toNat, m.T, seqPack (seqSeq m.T) true, 0⟩)
  else if m.at' = 2 then ⟨1, baseC m.caps m.ch.toNat + 1, 0, 0, 0⟩ else ⟨1, baseC m.caps m.ch.toNat, 0, 0, 0⟩
theorem sp_McNext (m : Mc) (hc : WfC m.caps) (hch : m.ch ≤ m.caps.length) (hw : m.what = 5 ∨ m.what = 6) : FSpec Tryz.prog 25 0 [] [m.d] (.d m.next.d) [] := by
  refine (fspec_intro pk (fn := Tryz.f25) (fun _ _ => rfl) Tryz.func25 rfl (by decide) (cwp_ev pk ?_))
  unfold Mc.next
  refine w_br (fun h => ?_) fun h => ?_
  · simp at h
    rw [if_pos h]
    exact w_done (leafA rfl rfl)
  simp at h
  rw [if_neg h]
  refine w_chk ⟨by kernel_rfl, by kernel_rfl⟩ ?_
  refine w_call (sp_r4Tail hc m.sts m.th m.ch hch) rfl rfl rfl ?_
  refine w_call (sp_r4Head hc m.sts m.th m.ch hch) rfl rfl rfl ?_
  refine w_chk ⟨by kernel_rfl, by kernel_rfl⟩ ?_
  refine w_br (fun h1 => by simp at h1; omega) fun _ => ?_
  refine w_br (fun h1 => by simp at h1; omega) fun _ => ?_
  refine w_br (fun h1 => by simp at h1; omega) fun _ => ?_
  refine w_br (fun h1 => by simp at h1; omega) fun _ => ?_
  refine w_br (fun h1 => ?_) fun h1 => ?_
  · simp at h1
    rw [if_pos h1]
    refine w_br (fun h2 => ?_) fun h2 => ?_
    · simp at h2
      rw [if_pos h2]
      refine w_call (sp_r7access _ _ _ _) rfl rfl rfl ?_
      exact w_done (leafA rfl rfl)
    · simp at h2
      rw [if_neg h2]
      refine w_call (sp_McSeq m) rfl rfl rfl ?_
      refine w_call (sp_r1Pack _ true) rfl rfl rfl ?_
      refine w_call (sp_r7access _ _ _ _) rfl rfl rfl ?_
      refine w_chk ⟨by kernel_rfl, by kernel_rfl⟩ ?_
      exact w_done (leafA rfl rfl)
  · simp at h1
    rw [if_neg h1]
    refine w_br (fun _ => ?_) fun h2 => by simp at h2; omega
    refine w_br (fun h2 => ?_) fun h2 => ?_
    · simp at h2
      rw [if_pos h2]
      refine w_call (sp_r7access _ _ _ _) rfl rfl rfl ?_
      exact w_done (leafA rfl rfl)
    · simp at h2
      rw [if_neg h2]
      refine w_call (sp_r7access _ _ _ _) rfl rfl rfl ?_
      exact w_done (leafA rfl rfl)
/-! a drawn answer -/
def ansM (L : List Int) (a : Int) (m : Mc) (W : List Int) : Ans × Int :=
  let a1 := nxA L a
  let a2 := nxA L a1
  let a3 := nxA L a2
  let v := W.getD (nxV L a 4).toNat 0
  let o := nxV L a1 2 == 1
  if nxV L a2 4 = 1 then (⟨wU (m.T + wU (nxV L a3 5)), o, false, []⟩, nxA L a3)
  else if nxV L a2 4 = 2 then (⟨wU (m.H + wU (nxV L a3 3)), o, false, []⟩, nxA L a3)
  else (⟨v, o, false, []⟩, a3)
theorem leafAns {ti : TypeId → Option TI} {rs : List ResultVar} {s : St} {L : List Int} {v a1 : Int} {x : Int} {o : Bool} {y : Ans × Int} (h : resT ti s rs = some (.d (.agg [.v (u64 x), .v (.bool o), .v (.bool false), .xrow [] 0]))) (hb : SameBs s (cdB L a1 v) (cdB L a1 v)) (hx : ((⟨x, o, false, []⟩ : Ans), a1) = y) :
    Done ti rs 1 (.d y.1.d) (cdB L y.2 v) .ret s := by
  subst hx
  exact leafNF (.inr rfl) h (frT_agg (frLs_cons (fr_v rfl) (frLs_cons (fr_v rfl) (frLs_cons (fr_v rfl) (frLs_cons (fr_x rfl) frLs_nil))))) hb (clB_of rfl) rfl
theorem sp_answer (L : List Int) (a v : Int) (m : Mc) (W : List Int) (h0 : 0 ≤ a) (hl : L.length ≤ 100) (hb : ∀ x, x ∈ L → 0 ≤ x ∧ x < 256) (hW : W.length = 4) :
    FSpec Tryz.prog 26 1 (cdB L a v) [sp0, m.d, .sc (.v (rowU W))] (.d (ansM L a m W).1.d) (cdB L (ansM L a m W).2 v) := by
  have h1 := nxA_pos L _ h0
  have h2 := nxA_pos L _ h1
  have h3 := nxA_pos L _ h2
  have r4 := nxV_lt L a 4 hb (by decide)
  have hW' : ((W.length : Nat) : Int) = 4 := by omega
  refine (fspec_intro pk (fn := Tryz.f26) (fun _ _ => rfl) Tryz.func26 rfl (by decide) (cwp_ev pk ?_))
  refine w_call1 0 (sp_DNext L a v W.length h0 hl (by omega)) rfl rfl rfl rfl rfl rfl ?_
  rw [hW']
  refine w_chk ⟨r4.1, by rw [hW']; exact r4.2⟩ ?_
  refine w_rdv (takeN_one (getU (i := (nxV L a 4).toNat) (by omega))) ?_
  refine w_call1 0 (sp_DNext L (nxA L a) v 2 h1 hl (by decide)) rfl rfl rfl rfl rfl rfl ?_
  refine w_chk ⟨by kernel_rfl, by kernel_rfl⟩ ?_
  refine w_call1 0 (sp_DNext L (nxA L (nxA L a)) v 4 h2 hl (by decide)) rfl rfl rfl rfl rfl rfl ?_
  unfold ansM
  refine w_br (fun h => ?_) fun h => ?_
  · simp at h
    rw [if_pos h]
    refine w_call1 0 (sp_DNext L (nxA L (nxA L (nxA L a))) v 5 h3 hl (by decide)) rfl rfl rfl rfl rfl rfl ?_
    refine w_chk ⟨by kernel_rfl, by kernel_rfl⟩ ?_
    exact w_done (leafAns rfl ⟨rfl, trivial⟩ rfl)
  · simp at h
    rw [if_neg h]
    refine w_br (fun h => ?_) fun h => ?_
    · simp at h
      rw [if_pos h]
      refine w_call1 0 (sp_DNext L (nxA L (nxA L (nxA L a))) v 3 h3 hl (by decide)) rfl rfl rfl rfl rfl rfl ?_
      refine w_chk ⟨by kernel_rfl, by kernel_rfl⟩ ?_
      exact w_done (leafAns rfl ⟨rfl, trivial⟩ rfl)
    · simp at h
      rw [if_neg h]
      exact w_done (leafAns rfl ⟨rfl, trivial⟩ rfl)
end Gx

set_option linter.unusedVariables false
set_option linter.unusedSimpArgs false
set_option maxRecDepth 100000
set_option maxHeartbeats 2000000
namespace Gx
open Go Go.Proofs
attribute [local irreducible] WpT

/-! a small configuration out of choices -/
def capT : List Int := [0, 1, 2, 0, 1, 3]
def stT : List Int := [0, 1, 9223372036854775807, 9223372036854775806, 4611686018427387904, 5]
abbrev capB : Blk := .arr [.v (i64 0), .v (i64 1), .v (i64 2), .v (i64 0), .v (i64 1), .v (i64 3)]
abbrev stB6 : Blk := .arr [.v (u64 0), .v (u64 1), .v (u64 9223372036854775807), .v (u64 9223372036854775806), .v (u64 4611686018427387904), .v (u64 5)]
abbrev cgT (i : Int) : List (Nat × T) := [(0, .d (.sc (.ptr 0 0))), (2, .d (.sc (.ptr 64 0))), (3, .d (.sc (.mrow 68 0 6 none 1 true))), (4, .d (.sc (.mrow 76 0 6 none 1 true))), (5, .d (.sc (.ptr 84 0))), (6, ri i)]
theorem capT_get (x : Int) (h0 : 0 ≤ x) (h1 : x < 6) : ([S.v (i64 0), .v (i64 1), .v (i64 2), .v (i64 0), .v (i64 1), .v (i64 3)])[0 + x.toNat * 1]? = some (.v (i64 (capT.getD x.toNat 0))) := by
  have : x = 0 ∨ x = 1 ∨ x = 2 ∨ x = 3 ∨ x = 4 ∨ x = 5 := by omega
  rcases this with rfl | rfl | rfl | rfl | rfl | rfl <;> rfl
theorem stT_get (x : Int) (h0 : 0 ≤ x) (h1 : x < 6) : ([S.v (u64 0), .v (u64 1), .v (u64 9223372036854775807), .v (u64 9223372036854775806), .v (u64 4611686018427387904), .v (u64 5)])[0 + x.toNat * 1]? = some (.v (u64 (stT.getD x.toNat 0))) := by
  have : x = 0 ∨ x = 1 ∨ x = 2 ∨ x = 3 ∨ x = 4 ∨ x = 5 := by omega
  rcases this with rfl | rfl | rfl | rfl | rfl | rfl <;> rfl
theorem capT_le (x : Int) (h0 : 0 ≤ x) (h1 : x < 6) : 0 ≤ capT.getD x.toNat 0 ∧ capT.getD x.toNat 0 ≤ 16 := by
  have : x = 0 ∨ x = 1 ∨ x = 2 ∨ x = 3 ∨ x = 4 ∨ x = 5 := by omega
  rcases this with rfl | rfl | rfl | rfl | rfl | rfl <;> decide
abbrev cgN (l : List Int) (a v i : Int) : St :=
  ⟨cgT i, [(0, some (.var (cdC l a v))), (64, some zcf), (68, some capB), (76, some stB6), (84, some zcf)], 1000, 40⟩
abbrev cgE (l : List Int) (a v i : Int) (n : Nat) (C X : List S) : St :=
  ⟨cgT i, [(0, some (.var (cdC l a v))), (64, some zcf), (68, some capB), (76, some stB6), (84, some (.var [.mrow 1048 0 n none 1 false, .mrow 1092 0 n none 1 false, .v (i64 0)])), (1048, some (.arr C)), (1092, some (.arr X))], 2000, 40⟩
abbrev cgO (l : List Int) (a v i : Int) (n : Nat) (C X : List S) : St :=
  ⟨cgT i, [(0, some (.var (cdC l a v))), (64, some zcf), (68, some capB), (76, some stB6), (84, some (.var [.mrow 2048 0 n none 1 false, .mrow 2092 0 n none 1 false, .v (i64 0)])), (2048, some (.arr C)), (2092, some (.arr X))], 1000, 40⟩
noncomputable abbrev cgL : Code := loopN Tryz.f22 0
abbrev ccV (l : List Int) (a : Int) : Int := capT.getD (nxV l (nxA l a) 6).toNat 0
abbrev csV (l : List Int) (a : Int) : Int := stT.getD (nxV l (a2' l a) 6).toNat 0
theorem cgNE (l : List Int) (a v i : Int) (h0 : 0 ≤ a) (hl : l.length ≤ 100) (hb : ∀ x, x ∈ l → 0 ≤ x ∧ x < 256) (ho : i ≤ nxV l a 3) (J : Ex → St → Prop) (m : Nat)
    (h : Lp Tryz.prog cgL m (cgE l (a3' l a) v (wI (i + 1)) 1 [S.v (i64 (ccV l a))] [S.v (u64 (csV l a))]) J) : Lp Tryz.prog cgL (m + 1) (cgN l a v i) J := by
  have h1 := nxA_pos l _ h0
  have h2 := nxA_pos l _ h1
  have b1 := nxV_lt l (nxA l a) 6 hb (by decide)
  have b2 := nxV_lt l (a2' l a) 6 hb (by decide)
  refine lp_step pk ?_
  refine w_call1 0 (sp_DNext l a v 3 h0 hl (by decide)) rfl rfl rfl rfl rfl rfl ?_
  refine w_br (fun _ => ?_) fun h => by simp at h; omega
  refine w_call1 0 (sp_DNext l (nxA l a) v 6 h1 hl (by decide)) rfl rfl rfl rfl rfl rfl ?_
  refine w_chk ⟨b1.1, b1.2⟩ ?_
  refine w_rd (takeN_one (capT_get _ b1.1 b1.2)) ?_
  refine w_rd (cs := [.v (i64 (ccV l a))]) rfl ?_
  refine w_chk ⟨by decide, by decide⟩ ?_
  refine w_chkK (true = true ∧ true = true) (by kernel_rfl) (by kernel_rfl) ⟨rfl, rfl⟩ ?_
  refine w_call1 0 (sp_DNext l (a2' l a) v 6 h2 hl (by decide)) rfl rfl rfl rfl rfl rfl ?_
  refine w_chk ⟨b2.1, b2.2⟩ ?_
  refine w_rd (takeN_one (stT_get _ b2.1 b2.2)) ?_
  refine w_rd (cs := [.v (u64 (csV l a))]) rfl ?_
  refine w_chk ⟨by decide, by decide⟩ ?_
  refine w_chkK (true = true ∧ true = true) (by kernel_rfl) (by kernel_rfl) ⟨rfl, rfl⟩ ?_
  exact w_done (lp_pick (s0 := cgE l (a3' l a) v (wI (i + 1)) 1 [S.v (i64 (ccV l a))] [S.v (u64 (csV l a))]) [0, 2, 3, 4, 5, 6] [0, 64, 68, 76, 84, 1048, 1092] 2000 (by kernel_rfl) ⟨clk_all rfl, clk_all rfl, clk_all rfl, clk_all rfl, clk_all rfl, clk_all rfl, clk_all rfl, trivial⟩ h)
theorem cgEO (l : List Int) (a v i : Int) (h0 : 0 ≤ a) (hl : l.length ≤ 100) (hb : ∀ x, x ∈ l → 0 ≤ x ∧ x < 256) (n : Nat) (C X : List S) (hn : n < 20) (hC : C.length = n) (hX : X.length = n) (kC : clA C) (kX : clA X) (ho : i ≤ nxV l a 3) (J : Ex → St → Prop) (m : Nat)
    (h : Lp Tryz.prog cgL m (cgO l (a3' l a) v (wI (i + 1)) (n + 1) (C ++ [S.v (i64 (ccV l a))]) (X ++ [S.v (u64 (csV l a))])) J) : Lp Tryz.prog cgL (m + 1) (cgE l a v i n C X) J := by
  have h1 := nxA_pos l _ h0
  have h2 := nxA_pos l _ h1
  have b1 := nxV_lt l (nxA l a) 6 hb (by decide)
  have b2 := nxV_lt l (a2' l a) 6 hb (by decide)
  refine lp_step pk ?_
  refine w_call1 0 (sp_DNext l a v 3 h0 hl (by decide)) rfl rfl rfl rfl rfl rfl ?_
  refine w_br (fun _ => ?_) fun h => by simp at h; omega
  refine w_call1 0 (sp_DNext l (nxA l a) v 6 h1 hl (by decide)) rfl rfl rfl rfl rfl rfl ?_
  refine w_chk ⟨b1.1, b1.2⟩ ?_
  refine w_rd (takeN_one (capT_get _ b1.1 b1.2)) ?_
  refine w_rd (cs := [.v (i64 (ccV l a))]) rfl ?_
  refine w_chk ⟨fun x hx => by simp at hx; subst hx; rfl, rfl, by show C.length = n * 1; omega, by show (n + 1) * 8 ≤ _; omega, by show n + 1 ≤ _; omega⟩ ?_
  refine w_chkK (true = true ∧ true = true) (by kernel_rfl) (by kernel_rfl) ⟨rfl, rfl⟩ ?_
  refine w_call1 0 (sp_DNext l (a2' l a) v 6 h2 hl (by decide)) rfl rfl rfl rfl rfl rfl ?_
  refine w_chk ⟨b2.1, b2.2⟩ ?_
  refine w_rd (takeN_one (stT_get _ b2.1 b2.2)) ?_
  refine w_rd (cs := [.v (u64 (csV l a))]) rfl ?_
  refine w_chk ⟨fun x hx => by simp at hx; subst hx; rfl, rfl, by show X.length = n * 1; omega, by show (n + 1) * 8 ≤ _; omega, by show n + 1 ≤ _; omega⟩ ?_
  refine w_chkK (true = true ∧ true = true) (by kernel_rfl) (by kernel_rfl) ⟨rfl, rfl⟩ ?_
  exact w_done (lp_pick (s0 := cgO l (a3' l a) v (wI (i + 1)) (n + 1) (C ++ [S.v (i64 (ccV l a))]) (X ++ [S.v (u64 (csV l a))])) [0, 2, 3, 4, 5, 6] [0, 64, 68, 76, 84, 2048, 2092] 1000 (by kernel_rfl) ⟨clk_all rfl, clk_all rfl, clk_all rfl, clk_all rfl, clk_all rfl, clA_app (y := i64 (ccV l a)) kC _, clA_app (y := u64 (csV l a)) kX _, trivial⟩ h)
theorem cgOE (l : List Int) (a v i : Int) (h0 : 0 ≤ a) (hl : l.length ≤ 100) (hb : ∀ x, x ∈ l → 0 ≤ x ∧ x < 256) (n : Nat) (C X : List S) (hn : n < 20) (hC : C.length = n) (hX : X.length = n) (kC : clA C) (kX : clA X) (ho : i ≤ nxV l a 3) (J : Ex → St → Prop) (m : Nat)
    (h : Lp Tryz.prog cgL m (cgE l (a3' l a) v (wI (i + 1)) (n + 1) (C ++ [S.v (i64 (ccV l a))]) (X ++ [S.v (u64 (csV l a))])) J) : Lp Tryz.prog cgL (m + 1) (cgO l a v i n C X) J := by
  have h1 := nxA_pos l _ h0
  have h2 := nxA_pos l _ h1
  have b1 := nxV_lt l (nxA l a) 6 hb (by decide)
  have b2 := nxV_lt l (a2' l a) 6 hb (by decide)
  refine lp_step pk ?_
  refine w_call1 0 (sp_DNext l a v 3 h0 hl (by decide)) rfl rfl rfl rfl rfl rfl ?_
  refine w_br (fun _ => ?_) fun h => by simp at h; omega
  refine w_call1 0 (sp_DNext l (nxA l a) v 6 h1 hl (by decide)) rfl rfl rfl rfl rfl rfl ?_
  refine w_chk ⟨b1.1, b1.2⟩ ?_
  refine w_rd (takeN_one (capT_get _ b1.1 b1.2)) ?_
  refine w_rd (cs := [.v (i64 (ccV l a))]) rfl ?_
  refine w_chk ⟨fun x hx => by simp at hx; subst hx; rfl, rfl, by show C.length = n * 1; omega, by show (n + 1) * 8 ≤ _; omega, by show n + 1 ≤ _; omega⟩ ?_
  refine w_chkK (true = true ∧ true = true) (by kernel_rfl) (by kernel_rfl) ⟨rfl, rfl⟩ ?_
  refine w_call1 0 (sp_DNext l (a2' l a) v 6 h2 hl (by decide)) rfl rfl rfl rfl rfl rfl ?_
  refine w_chk ⟨b2.1, b2.2⟩ ?_
  refine w_rd (takeN_one (stT_get _ b2.1 b2.2)) ?_
  refine w_rd (cs := [.v (u64 (csV l a))]) rfl ?_
  refine w_chk ⟨fun x hx => by simp at hx; subst hx; rfl, rfl, by show X.length = n * 1; omega, by show (n + 1) * 8 ≤ _; omega, by show n + 1 ≤ _; omega⟩ ?_
  refine w_chkK (true = true ∧ true = true) (by kernel_rfl) (by kernel_rfl) ⟨rfl, rfl⟩ ?_
  exact w_done (lp_pick (s0 := cgE l (a3' l a) v (wI (i + 1)) (n + 1) (C ++ [S.v (i64 (ccV l a))]) (X ++ [S.v (u64 (csV l a))])) [0, 2, 3, 4, 5, 6] [0, 64, 68, 76, 84, 1048, 1092] 2000 (by kernel_rfl) ⟨clk_all rfl, clk_all rfl, clk_all rfl, clk_all rfl, clk_all rfl, clA_app (y := i64 (ccV l a)) kC _, clA_app (y := u64 (csV l a)) kX _, trivial⟩ h)
abbrev cxE (l : List Int) (a v : Int) (n : Nat) (C X : List S) : St := ⟨[(0, .d (.sc (.ptr 0 0))), (2, .d (.sc (.ptr 64 0))), (5, .d (.sc (.ptr 84 0)))], [(0, some (.var (cdC l a v))), (64, some zcf), (84, some (.var [.mrow 1048 0 n none 1 false, .mrow 1092 0 n none 1 false, .v (i64 0)])), (1048, some (.arr C)), (1092, some (.arr X))], 2000, 40⟩
theorem cgEx (l : List Int) (a v i : Int) (h0 : 0 ≤ a) (hl : l.length ≤ 100) (n : Nat) (C X : List S) (kC : clA C) (kX : clA X) (ho : ¬ i ≤ nxV l a 3) (J : Ex → St → Prop) (m : Nat) (h : J (.exit 0) (cxE l (nxA l a) v n C X)) : Lp Tryz.prog cgL (m + 1) (cgE l a v i n C X) (Up J) := by
  refine lp_step pk ?_
  refine w_call1 0 (sp_DNext l a v 3 h0 hl (by decide)) rfl rfl rfl rfl rfl rfl ?_
  refine w_br (fun h => by simp at h; omega) fun _ => ?_
  exact w_done (up_of (s0 := cxE l (nxA l a) v n C X) [0, 2, 5] [0, 64, 84, 1048, 1092] 2000 (by kernel_rfl) ⟨clk_all rfl, clk_all rfl, clk_all rfl, kC _, kX _, trivial⟩ h)
abbrev cxO (l : List Int) (a v : Int) (n : Nat) (C X : List S) : St := ⟨[(0, .d (.sc (.ptr 0 0))), (2, .d (.sc (.ptr 64 0))), (5, .d (.sc (.ptr 84 0)))], [(0, some (.var (cdC l a v))), (64, some zcf), (84, some (.var [.mrow 2048 0 n none 1 false, .mrow 2092 0 n none 1 false, .v (i64 0)])), (2048, some (.arr C)), (2092, some (.arr X))], 1000, 40⟩
theorem cgOx (l : List Int) (a v i : Int) (h0 : 0 ≤ a) (hl : l.length ≤ 100) (n : Nat) (C X : List S) (kC : clA C) (kX : clA X) (ho : ¬ i ≤ nxV l a 3) (J : Ex → St → Prop) (m : Nat) (h : J (.exit 0) (cxO l (nxA l a) v n C X)) : Lp Tryz.prog cgL (m + 1) (cgO l a v i n C X) (Up J) := by
  refine lp_step pk ?_
  refine w_call1 0 (sp_DNext l a v 3 h0 hl (by decide)) rfl rfl rfl rfl rfl rfl ?_
  refine w_br (fun h => by simp at h; omega) fun _ => ?_
  exact w_done (up_of (s0 := cxO l (nxA l a) v n C X) [0, 2, 5] [0, 64, 84, 2048, 2092] 1000 (by kernel_rfl) ⟨clk_all rfl, clk_all rfl, clk_all rfl, kC _, kX _, trivial⟩ h)

def cfgM : Nat → List Int → Int → Int → List Int → List Int → List Int × List Int × Int
  | 0, l, _, a, cs, ss => (cs, ss, nxA l a)
  | k + 1, l, i, a, cs, ss => if i ≤ nxV l a 3 then cfgM k l (i + 1) (a3' l a) (cs ++ [ccV l a]) (ss ++ [csV l a]) else (cs, ss, nxA l a)
def cgJ (l : List Int) (v : Int) (X : List Int × List Int × Int) (e : Ex) (s : St) : Prop :=
  e = .exit 0 ∧ X.1.length = X.2.1.length ∧ X.1.length < 20 ∧ (s = cxE l X.2.2 v X.1.length (vI X.1) (vU X.2.1) ∨ s = cxO l X.2.2 v X.1.length (vI X.1) (vU X.2.1))
theorem cg_loop (l : List Int) (v : Int) (hl : l.length ≤ 100) (hb : ∀ x, x ∈ l → 0 ≤ x ∧ x < 256) : ∀ (k : Nat) (i a : Int) (cs ss : List Int), 0 ≤ a → 0 ≤ i → i + k = 4 → cs.length = i → ss.length = i → 0 < i → ∀ b : Bool,
    Lp Tryz.prog cgL (k + 1) (if b then cgE l a v i cs.length (vI cs) (vU ss) else cgO l a v i cs.length (vI cs) (vU ss)) (Up (cgJ l v (cfgM k l i a cs ss))) := by
  intro k
  induction k with
  | zero =>
    intro i a cs ss h0 hi hk hc hs h1 b
    have := nxV_lt l a 3 hb (by decide)
    cases b with
    | true => exact cgEx l a v i h0 hl _ _ _ (vI_clA _) (vU_clA _) (by omega) _ _ ⟨rfl, by show cs.length = ss.length; omega, by show cs.length < 20; omega, .inl rfl⟩
    | false => exact cgOx l a v i h0 hl _ _ _ (vI_clA _) (vU_clA _) (by omega) _ _ ⟨rfl, by show cs.length = ss.length; omega, by show cs.length < 20; omega, .inr rfl⟩
  | succ k ih =>
    intro i a cs ss h0 hi hk hc hs h1 b
    have h4 : 0 ≤ a3' l a := nxA_pos _ _ (nxA_pos _ _ (nxA_pos _ _ h0))
    have ew : wI (i + 1) = i + 1 := wI_id (by omega) (by omega)
    by_cases ho : i ≤ nxV l a 3
    · have e : cfgM (k + 1) l i a cs ss = cfgM k l (i + 1) (a3' l a) (cs ++ [ccV l a]) (ss ++ [csV l a]) := by
        conv => lhs; unfold cfgM
        rw [if_pos ho]
      rw [e]
      have e1 : vI (cs ++ [ccV l a]) = vI cs ++ [S.v (i64 (ccV l a))] := by simp [vI]
      have e2 : vU (ss ++ [csV l a]) = vU ss ++ [S.v (u64 (csV l a))] := by simp [vU]
      have e3 : (cs ++ [ccV l a]).length = cs.length + 1 := by simp
      cases b with
      | true =>
        have := ih (i + 1) (a3' l a) (cs ++ [ccV l a]) (ss ++ [csV l a]) h4 (by omega) (by omega) (by simp; omega) (by simp; omega) (by omega) false
        rw [e1, e2, e3] at this
        exact cgEO l a v i h0 hl hb _ _ _ (by omega) (by simp [vI]) (by simp [vU]; omega) (vI_clA _) (vU_clA _) ho _ _ (by rw [ew]; exact this)
      | false =>
        have := ih (i + 1) (a3' l a) (cs ++ [ccV l a]) (ss ++ [csV l a]) h4 (by omega) (by omega) (by simp; omega) (by simp; omega) (by omega) true
        rw [e1, e2, e3] at this
        exact cgOE l a v i h0 hl hb _ _ _ (by omega) (by simp [vI]) (by simp [vU]; omega) (vI_clA _) (vU_clA _) ho _ _ (by rw [ew]; exact this)
    · have e : cfgM (k + 1) l i a cs ss = (cs, ss, nxA l a) := by
        conv => lhs; unfold cfgM
        rw [if_neg ho]
      rw [e]
      cases b with
      | true => exact cgEx l a v i h0 hl _ _ _ (vI_clA _) (vU_clA _) ho _ _ ⟨rfl, by show cs.length = ss.length; omega, by show cs.length < 20; omega, .inl rfl⟩
      | false => exact cgOx l a v i h0 hl _ _ _ (vI_clA _) (vU_clA _) ho _ _ ⟨rfl, by show cs.length = ss.length; omega, by show cs.length < 20; omega, .inr rfl⟩
theorem cg_loop0 (l : List Int) (v : Int) (hl : l.length ≤ 100) (hb : ∀ x, x ∈ l → 0 ≤ x ∧ x < 256) (a : Int) (h0 : 0 ≤ a) : Lp Tryz.prog cgL 5 (cgN l a v 0) (Up (cgJ l v (cfgM 4 l 0 a [] []))) := by
  have h3 := nxV_lt l a 3 hb (by decide)
  have e : cfgM 4 l 0 a [] [] = cfgM 3 l 1 (a3' l a) [ccV l a] [csV l a] := by
    conv => lhs; unfold cfgM
    rw [if_pos h3.1]
    rfl
  rw [e]
  have := cg_loop l v hl hb 3 1 (a3' l a) [ccV l a] [csV l a] (nxA_pos _ _ (nxA_pos _ _ (nxA_pos _ _ h0))) (by decide) (by decide) rfl rfl (by decide) true
  exact cgNE l a v 0 h0 hl hb h3.1 _ _ this
theorem cfg_wf (l : List Int) (hb : ∀ x, x ∈ l → 0 ≤ x ∧ x < 256) : ∀ (k : Nat) (i a : Int) (cs ss : List Int), 0 ≤ a → cs.length = i → i ≤ 3 → (∀ c, c ∈ cs → 0 ≤ c ∧ c ≤ 16) → WfC (cfgM k l i a cs ss).1 ∧ 0 ≤ (cfgM k l i a cs ss).2.2 ∧ i ≤ (cfgM k l i a cs ss).1.length := by
  intro k
  induction k with
  | zero =>
    intro i a cs ss h0 hi h8 hc
    exact ⟨⟨by show cs.length ≤ 8; omega, hc⟩, nxA_pos l a h0, by show i ≤ cs.length; omega⟩
  | succ k ih =>
    intro i a cs ss h0 hi h8 hc
    unfold cfgM
    split
    · rename_i ho
      have h1 := nxV_lt l a 3 hb (by decide)
      have h2 := nxV_lt l (nxA l a) 6 hb (by decide)
      have := ih (i + 1) (a3' l a) (cs ++ [ccV l a]) (ss ++ [csV l a]) (nxA_pos _ _ (nxA_pos _ _ (nxA_pos _ _ h0))) (by simp; omega) (by omega) fun c h => by
        simp at h
        rcases h with h | rfl
        · exact hc c h
        · exact capT_le _ h2.1 h2.2
      exact ⟨this.1, this.2.1, by omega⟩
    · exact ⟨⟨by show cs.length ≤ 8; omega, hc⟩, nxA_pos l a h0, by show i ≤ cs.length; omega⟩
abbrev cfgX (l : List Int) (a : Int) : List Int × List Int × Int := cfgM 4 l 0 a [] []
theorem cfgX_ok (l : List Int) (hb : ∀ x, x ∈ l → 0 ≤ x ∧ x < 256) (a : Int) (h0 : 0 ≤ a) : WfC (cfgX l a).1 ∧ 0 ≤ (cfgX l a).2.2 ∧ 1 ≤ (cfgX l a).1.length := by
  have h3 := nxV_lt l a 3 hb (by decide)
  have h2 := nxV_lt l (nxA l a) 6 hb (by decide)
  have e : cfgM 4 l 0 a [] [] = cfgM 3 l 1 (a3' l a) [ccV l a] [csV l a] := by
    conv => lhs; unfold cfgM
    rw [if_pos h3.1]
    rfl
  have := cfg_wf l hb 3 1 (a3' l a) [ccV l a] [csV l a] (nxA_pos _ _ (nxA_pos _ _ (nxA_pos _ _ h0))) rfl (by decide) fun c h => by
    simp at h; subst h; exact capT_le _ h2.1 h2.2
  show WfC (cfgM 4 l 0 a [] []).1 ∧ _
  unfold cfgX
  rw [e]
  exact ⟨this.1, this.2.1, by omega⟩
theorem sp_Config (l : List Int) (v : Int) (hl : l.length ≤ 100) (hb : ∀ x, x ∈ l → 0 ≤ x ∧ x < 256) (a : Int) (h0 : 0 ≤ a) :
    FSpec Tryz.prog 22 1 (cdB l a v) [sp0] (.d (cfD (cfgX l a).1 (rowU (cfgX l a).2.1) (2 + nxV l (cfgX l a).2.2 3))) (cdB l (nxA l (cfgX l a).2.2) v) := by
  have ha : 0 ≤ (cfgX l a).2.2 := (cfgX_ok l hb a h0).2.1
  refine (fspec_intro pk (fn := Tryz.f22) (fun _ _ => rfl) Tryz.func22 rfl (by decide) (cwp_ev pk ?_))
  refine w_code (J := cgJ l v (cfgX l a)) (cwp_loop_up (n := 5) (lp_pick (s0 := cgN l a v 0) [0, 2, 3, 4, 5, 6] [0, 64, 68, 76, 84] 1000 (by kernel_rfl) (clB_of rfl) (cg_loop0 l v hl hb a h0))) ?_
  generalize cfgX l a = X at *
  have h8 := nxV_lt l X.2.2 3 hb (by decide)
  have e8 : wI (2 + nxV l X.2.2 3) = 2 + nxV l X.2.2 3 := wI_id (by omega) (by omega)
  obtain ⟨cs, ss, a1⟩ := X
  dsimp only at *
  rintro e s ⟨rfl, hx, hlt, rfl | rfl⟩
  · dsimp only at *
    refine w_call1 0 (sp_DNext l a1 v 3 ha hl (by decide)) rfl rfl rfl rfl rfl rfl ?_
    rw [← e8]
    exact w_done (leafNF (.inr rfl) rfl (frT_agg (frLs_cons (fr_mw (cs.map i64) (bl := .arr (vI cs)) rfl rfl rfl (by simp) (fun h => by intro e; simp at e; subst e; simp at h) rfl) (frLs_cons (fr_mw (ss.map u64) (bl := .arr (vU ss)) rfl rfl rfl (by simp [hx]) (fun h => by intro e; simp at e; subst e; simp at hx; subst hx; simp at h) (by simp [rowU, hx])) (frLs_cons (fr_v rfl) frLs_nil)))) ⟨rfl, trivial⟩ (clB_of rfl) rfl)
  · dsimp only at *
    refine w_call1 0 (sp_DNext l a1 v 3 ha hl (by decide)) rfl rfl rfl rfl rfl rfl ?_
    rw [← e8]
    exact w_done (leafNF (.inr rfl) rfl (frT_agg (frLs_cons (fr_mw (cs.map i64) (bl := .arr (vI cs)) rfl rfl rfl (by simp) (fun h => by intro e; simp at e; subst e; simp at h) rfl) (frLs_cons (fr_mw (ss.map u64) (bl := .arr (vU ss)) rfl rfl rfl (by simp [hx]) (fun h => by intro e; simp at e; subst e; simp at hx; subst hx; simp at h) (by simp [rowU, hx])) (frLs_cons (fr_v rfl) frLs_nil)))) ⟨rfl, trivial⟩ (clB_of rfl) rfl)
end Gx

set_option linter.unusedVariables false
set_option linter.unusedSimpArgs false
set_option maxRecDepth 100000
namespace Gx
open Go Go.Proofs Go.RowKit Go.ChangeShapes Go.WideShapes Go.ChangeAt

/-! A row of answers that came in -/
instance : Inhabited Ans := ⟨⟨0, false, false, []⟩⟩
def Ans.vs (a : Ans) : List V := [u64 a.val, .bool a.ok, .bool a.late, rowI a.list]
def ansVs (l : List Ans) : List V := l.flatMap Ans.vs
def rowAns (l : List Ans) : V := .row (ansVs l) l.length
theorem ansVs_len (l : List Ans) : (ansVs l).length = l.length * 4 := by
  induction l with
  | nil => rfl
  | cons a l ih => simp only [ansVs, List.flatMap_cons, List.length_append, List.length_cons] at ih ⊢; rw [ih]; simp [Ans.vs]; omega
theorem ansVs_get : ∀ (l : List Ans) (i j : Nat) (a : Ans), l[i]? = some a → j < 4 → (ansVs l)[i * 4 + j]? = (Ans.vs a)[j]?
  | [], i, j, a, h, _ => by simp at h
  | b :: l, 0, j, a, h, hj => by
    simp at h; subst h
    simp only [ansVs, List.flatMap_cons, Nat.zero_mul, Nat.zero_add]
    rw [List.getElem?_append_left (by simp [Ans.vs]; omega)]
  | b :: l, i + 1, j, a, h, hj => by
    have := ansVs_get l i j a (by simpa using h) hj
    simp only [ansVs, List.flatMap_cons] at this ⊢
    rw [List.getElem?_append_right (by simp [Ans.vs]; omega), ← this]
    congr 1
    simp [Ans.vs]; omega
section
variable {H : Type} {enc : TypeId × Value → H} {W : World} {sp : Nat → Bool} {hd : Bool}
theorem trod_int {t : TypeId} {k : IntKind} (ht : Tryz.prog.underlying t = some (.int k)) {n : Nat} {cs : List Value} {x : DataW H × List MemPlace} (h : DataW.trod enc Tryz.prog W 0 sp hd n t cs = some x) : ∃ v, cs = [.int k v] := by
  cases n with
  | zero => simp [DataW.trod] at h
  | succ n =>
    unfold DataW.trod at h
    rw [ht] at h
    split at h <;> simp_all
theorem trod_bool {t : TypeId} (ht : Tryz.prog.underlying t = some .bool) {n : Nat} {cs : List Value} {x : DataW H × List MemPlace} (h : DataW.trod enc Tryz.prog W 0 sp hd n t cs = some x) : ∃ b, cs = [.bool b] := by
  cases n with
  | zero => simp [DataW.trod] at h
  | succ n =>
    unfold DataW.trod at h
    rw [ht] at h
    split at h <;> simp_all
theorem trod_ints {n : Nat} {cs : List Value} {x : DataW H × List MemPlace} (h : DataW.trod enc Tryz.prog W 0 sp hd n 27 cs = some x) : ∃ (a : Option Addr) (len cap : Nat) (zs : List Int), cs = [.slice a len cap] ∧ (∃ zs', zs' = zs ∧ zs.length ≥ len) ∧ (∀ M : Nat → Prop, (∀ j, ¬ M j) → RelV W M (.row ((zs.take len).map (V.int .i64)) (zs.take len).length) (.slice a len cap)) := by
  rcases open_ints Tryz.underlying27 Tryz.underlying3 (by kernel_rfl) h with ⟨hcs, _⟩ | ⟨x, l, c, zs, hcs, _, hl, hm, hz, _, hcell, hwz⟩
  · exact ⟨none, 0, 0, [], hcs, ⟨_, rfl, by simp⟩, fun M hM => .nilRow⟩
  · have hlz : l ≤ zs.length := by rw [hz]; split <;> omega
    refine ⟨some x, l, c, zs, hcs, ⟨_, rfl, hlz⟩, fun M hM => ?_⟩
    have hlen : (zs.take l).length = l := by simp; omega
    rw [hlen]
    have get : ∀ (i : Nat) y, ((zs.take l).map (V.int .i64))[i]? = some y → i < zs.length ∧ y = .int .i64 (zs.getD i 0) := by
      intro i y hi
      rw [List.getElem?_map] at hi
      cases hzi : (zs.take l)[i]? with
      | none => rw [hzi] at hi; cases hi
      | some z =>
        rw [hzi] at hi; injection hi with hi
        rw [List.getElem?_take] at hzi
        split at hzi
        · have hlt : i < zs.length := by
            rw [List.getElem?_eq_some_iff] at hzi; exact hzi.1
          exact ⟨hlt, by rw [← hi, List.getD_eq_getElem?_getD, hzi]; rfl⟩
        · cases hzi
    have hsp : (zs.take l).map (V.int .i64) ≠ [] → x.spot = none := fun h => by
      have hp : 0 < zs.length := by
        rcases Nat.eq_zero_or_pos zs.length with e | e
        · have : zs = [] := List.length_eq_zero_iff.1 e
          subst this; simp at h
        · exact e
      exact spot_of_cell (a := x.add 0) (hcell 0 hp)
    refine .row _ _ x c (fun i => .int .i64 (zs.getD i 0)) hl (fun h e => ?_) (fun h => ⟨hsp h, hM _⟩) (fun i y hi => ?_) (fun i y hi => ?_)
    · have : (zs.take l).length = 0 := by simpa using congrArg List.length e
      omega
    · have hn : (zs.take l).map (V.int .i64) ≠ [] := by intro e; rw [e] at hi; simp at hi
      have := hcell i (get i y hi).1
      have e : x.add i = ⟨x.block, x.off + i, none⟩ := by
        have hs := hsp hn
        cases x
        simp only at hs
        subst hs
        simp [Addr.add]
      rw [e] at this
      exact this
    · rw [(get i y hi).2]; exact .int .i64 _
/-- The cells of one answer. -/
theorem trod_ans {n : Nat} {cs : List Value} {x : DataW H × List MemPlace} (h : DataW.trod enc Tryz.prog W 0 sp hd n 58 cs = some x) :
    ∃ a : Ans, ∀ (M : Nat → Prop), (∀ j, ¬ M j) → cs.length = 4 ∧ ∀ (j : Nat) y, (Ans.vs a)[j]? = some y → ∃ u, cs[j]? = some u ∧ RelV W M y u := by
  obtain ⟨xs, m, rfl, rfl, hlen, hxs, hf⟩ := DataW.trod_struct Tryz.underlying58 h
  have h4 : cs.length = 4 := hlen.trans (by kernel_rfl)
  match cs, h4 with
  | [c0, c1, c2, c3], _ =>
    have e23 : Tryz.prog.cellsOf 23 = 1 := by kernel_rfl
    have e4 : Tryz.prog.cellsOf 4 = 1 := by kernel_rfl
    have e27 : Tryz.prog.cellsOf 27 = 1 := by kernel_rfl
    have f0 : DataW.trod enc Tryz.prog W 0 sp hd m 23 (([c0, c1, c2, c3].drop 0).take (Tryz.prog.cellsOf 23)) = xs[0]? := hf 0 _ rfl
    have f1 : DataW.trod enc Tryz.prog W 0 sp hd m 4 (([c0, c1, c2, c3].drop 1).take (Tryz.prog.cellsOf 4)) = xs[1]? := hf 1 _ rfl
    have f2 : DataW.trod enc Tryz.prog W 0 sp hd m 4 (([c0, c1, c2, c3].drop 2).take (Tryz.prog.cellsOf 4)) = xs[2]? := hf 2 _ rfl
    have f3 : DataW.trod enc Tryz.prog W 0 sp hd m 27 (([c0, c1, c2, c3].drop 3).take (Tryz.prog.cellsOf 27)) = xs[3]? := hf 3 _ rfl
    rw [e23] at f0
    rw [e4] at f1 f2
    rw [e27] at f3
    change DataW.trod enc Tryz.prog W 0 sp hd m 23 [c0] = xs[0]? at f0
    change DataW.trod enc Tryz.prog W 0 sp hd m 4 [c1] = xs[1]? at f1
    change DataW.trod enc Tryz.prog W 0 sp hd m 4 [c2] = xs[2]? at f2
    change DataW.trod enc Tryz.prog W 0 sp hd m 27 [c3] = xs[3]? at f3
    have hx : ∀ i, i < 4 → ∃ y, xs[i]? = some y := fun i hi => ⟨xs[i]'(by rw [hxs]; exact hi), List.getElem?_eq_getElem _⟩
    obtain ⟨y0, g0⟩ := hx 0 (by decide)
    obtain ⟨y1, g1⟩ := hx 1 (by decide)
    obtain ⟨y2, g2⟩ := hx 2 (by decide)
    obtain ⟨y3, g3⟩ := hx 3 (by decide)
    obtain ⟨v, hv⟩ := trod_int Tryz.underlying23 (f0.trans g0)
    obtain ⟨b1, hb1⟩ := trod_bool Tryz.underlying4 (f1.trans g1)
    obtain ⟨b2, hb2⟩ := trod_bool Tryz.underlying4 (f2.trans g2)
    obtain ⟨a, len, cap, zs, hs, _, hr⟩ := trod_ints (f3.trans g3)
    simp at hv hb1 hb2 hs
    subst hv; subst hb1; subst hb2; subst hs
    refine ⟨⟨v, b1, b2, zs.take len⟩, fun M hM => ⟨rfl, fun j y hy => ?_⟩⟩
    match j, hy with
    | 0, hy => simp [Ans.vs] at hy; subst hy; exact ⟨_, rfl, .int _ _⟩
    | 1, hy => simp [Ans.vs] at hy; subst hy; exact ⟨_, rfl, .bool _⟩
    | 2, hy => simp [Ans.vs] at hy; subst hy; exact ⟨_, rfl, .bool _⟩
    | 3, hy => simp [Ans.vs] at hy; subst hy; exact ⟨_, rfl, hr M hM⟩
    | j + 4, hy => simp [Ans.vs] at hy
/-- A row of answers. -/
theorem trod_row {n : Nat} {cs : List Value} {x : DataW H × List MemPlace} (h : DataW.trod enc Tryz.prog W 0 sp hd n 49 cs = some x) (a : Option Addr) (len cap : Nat) (hcs : cs = [.slice a len cap]) :
    ∃ l : List Ans, ∀ (M : Nat → Prop), (∀ j, ¬ M j) → RelV W M (rowAns l) (.slice a len cap) := by
  rcases Go.Deep.open_slice Tryz.underlying49 h with ⟨h0, _⟩ | ⟨x, l, c, m, k, D, Pl, h0, _, hl, hm, hmm, _, hx⟩
  · rw [hcs] at h0
    simp at h0
    obtain ⟨rfl, rfl, rfl⟩ := h0
    exact ⟨[], fun M hM => .nilRow⟩
  · rw [hcs] at h0
    simp at h0
    obtain ⟨rfl, rfl, rfl⟩ := h0
    have e58 : Tryz.prog.cellsOf 58 = 4 := by kernel_rfl
    rw [e58] at hx
    have hlm : len ≤ m := by rw [hmm]; split <;> omega
    have each : ∀ i, i < len → ∃ b : Ans, ∀ (M : Nat → Prop), (∀ j, ¬ M j) → ∀ (j : Nat) y, (Ans.vs b)[j]? = some y → ∃ u, W.cell? (x.add (i * 4 + j)) = some u ∧ RelV W M y u := by
      intro i hi
      obtain ⟨cs', h1, h2⟩ := hx i (by omega)
      obtain ⟨b, hb⟩ := trod_ans h2
      obtain ⟨_, hlen, hcell⟩ := World.cells?_some h1
      refine ⟨b, fun M hM j y hy => ?_⟩
      obtain ⟨h4, hg⟩ := hb M hM
      obtain ⟨u, hu, hr⟩ := hg j y hy
      have hj : j < 4 := by
        rw [← h4]
        rw [List.getElem?_eq_some_iff] at hu; exact hu.1
      have := hcell j hj
      rw [Go.Deep.add_add, hu] at this
      exact ⟨u, this, hr⟩
    obtain ⟨B, hB⟩ := Go.Deep.choose_lt (α := Ans) (p := fun i b => ∀ (M : Nat → Prop), (∀ j, ¬ M j) → ∀ (j : Nat) y, (Ans.vs b)[j]? = some y → ∃ u, W.cell? (x.add (i * 4 + j)) = some u ∧ RelV W M y u) each
    refine ⟨(List.range len).map B, fun M hM => ?_⟩
    have hlen : ((List.range len).map B).length = len := by simp
    have key : ∀ (i : Nat) y, (ansVs ((List.range len).map B))[i]? = some y → ∃ u, W.cell? (x.add i) = some u ∧ RelV W M y u := by
      intro i y hi
      have hi4 : i < len * 4 := by
        have h5 := List.getElem?_eq_some_iff.1 hi
        have := h5.1
        rw [ansVs_len, hlen] at this
        exact this
      have hd : i / 4 < len := by omega
      have hm4 : i % 4 < 4 := Nat.mod_lt _ (by decide)
      have e : i / 4 * 4 + i % 4 = i := by omega
      have hb : ((List.range len).map B)[i / 4]? = some (B (i / 4)) := by simp [hd]
      have := ansVs_get _ (i / 4) (i % 4) _ hb hm4
      rw [e, hi] at this
      obtain ⟨u, hu, hr⟩ := hB (i / 4) hd M hM (i % 4) y this.symm
      rw [e] at hu
      exact ⟨u, hu, hr⟩
    have hsp : ansVs ((List.range len).map B) ≠ [] → x.spot = none := fun hne => by
      obtain ⟨y, ys, e⟩ := List.exists_cons_of_ne_nil hne
      obtain ⟨u, hu, _⟩ := key 0 y (by rw [e]; rfl)
      exact spot_of_cell (a := x.add 0) hu
    show RelV W M (.row (ansVs ((List.range len).map B)) ((List.range len).map B).length) _
    rw [hlen]
    refine .row _ _ x cap (fun i => ((W.cell? (x.add i)).getD undef)) hl (fun h e => ?_) (fun hne => ⟨hsp hne, hM _⟩) (fun i y hi => ?_) (fun i y hi => ?_)
    · have := ansVs_len ((List.range len).map B)
      rw [e, hlen] at this
      simp at this
      omega
    · obtain ⟨u, hu, _⟩ := key i y hi
      have hne : ansVs ((List.range len).map B) ≠ [] := by intro e; rw [e] at hi; simp at hi
      have e : x.add i = ⟨x.block, x.off + i, none⟩ := by
        have hs := hsp hne
        cases x
        simp only at hs
        subst hs
        simp [Addr.add]
      rw [← e, hu]; rfl
    · obtain ⟨u, hu, hr⟩ := key i y hi
      rw [hu]; exact hr
end
end Gx

set_option linter.unusedVariables false
set_option linter.unusedSimpArgs false
set_option maxRecDepth 100000
set_option maxHeartbeats 2000000
namespace Gx
open Go Go.Proofs
attribute [local irreducible] WpT

/-! ChanopLen -/
theorem sp_DNewA80 (l : List Int) (h : l.length ≤ 80) : FSpec Tryz.prog 16 0 [] [.sc (.v (rowB l)), di 80] (.d (.sc (.ptr 92 0))) [(92, some (.var (cdC l 0 0)))] := by
  refine (fspec_intro pk (fn := Tryz.f16) (fun _ _ => rfl) Tryz.func16 rfl (by decide) (cwp_ev pk ?_))
  refine w_br (fun h => by simp at h; omega) fun _ => ?_
  exact w_done (leafN (.inr rfl) rfl ⟨rfl, trivial⟩ rfl (clB_of rfl) rfl)
theorem sp_DNewB80 (l : List Int) (h : 80 < l.length) : FSpec Tryz.prog 16 0 [] [.sc (.v (rowB l)), di 80] (.d (.sc (.ptr 108 0))) [(108, some (.var (cdC (l.take 80) 0 0)))] := by
  refine (fspec_intro pk (fn := Tryz.f16) (fun _ _ => rfl) Tryz.func16 rfl (by decide) (cwp_ev pk ?_))
  refine w_br (fun _ => ?_) fun h => by simp at h; omega
  refine w_chk ⟨by decide, by show (0 : Int) ≤ 80; decide, by show (80 : Int) ≤ l.length; omega, by simp [tyI5], by decide, fun q h => by cases h⟩ ?_
  have e : V.row (((l.map u8).drop ((0 : Int).toNat * 1)).take (((80 : Int).toNat - (0 : Int).toNat) * 1)) ((80 : Int).toNat - (0 : Int).toNat) = rowB (l.take 80) := by
    simp [rowB]
    omega
  exact w_done (leafN' (σ' := [(108, some (.var [.v (.row (((l.map u8).drop ((0 : Int).toNat * 1)).take (((80 : Int).toNat - (0 : Int).toNat) * 1)) ((80 : Int).toNat - (0 : Int).toNat)), .v (i64 0), .v (u64 0)]))]) (.inr rfl) rfl (by rw [e]) ⟨rfl, trivial⟩ rfl (clB_of rfl) rfl)
theorem takeN_ans : ∀ (l : List Ans) (i : Nat) (b : Ans), l[i]? = some b → takeN (ansVs l) (i * 4) 4 = some (Ans.vs b)
  | [], i, b, h => by simp at h
  | c :: l, 0, b, h => by
    simp at h; subst h
    rfl
  | c :: l, i + 1, b, h => by
    have := takeN_ans l i b (by simpa using h)
    have e : (i + 1) * 4 = i * 4 + 4 := by omega
    rw [e]
    exact this
/-- A row of one's own that is written no more is taken as a plain one. -/
theorem imp_frz1 {t : List (Nat × T)} {σ : List (Nat × Option Blk)} {nx nx' m j b n es : Nat} {vs : List V} (hσ : ClB σ σ) (ht : ∀ i y, look t i = some y → y.clk σ = true) (hb : look σ b = none) (h64 : 64 ≤ b) (hn : n * es = vs.length) (h0 : 0 < n → vs ≠ []) :
    Imp ⟨(j, .d (.sc (.mrow b 0 n none es true))) :: t, σ ++ [(b, some (.arr (vs.map S.v)))], nx, m⟩ ⟨(j, .d (.sc (.v (.row vs n)))) :: t, σ, nx', m⟩ := by
  have hbl : look (σ ++ [(b, some (Blk.arr (vs.map S.v)))]) b = some (some (Blk.arr (vs.map S.v))) := by
    rw [look_append, hb]; exact look1_same _ _
  have old : ∀ k x, look σ k = some x → look (σ ++ [(b, some (Blk.arr (vs.map S.v)))]) k = some x := fun k x h => by rw [look_append, h]
  refine Frz.imp ⟨rfl, fun i y hy => ?_, fun k bl' hk => ⟨bl', old _ _ hk, frL_same (ClB_look hσ k bl' hk)⟩, fun k hk => ?_, fun k hk h => ?_⟩
  · rw [look_cons] at hy ⊢
    split at hy
    · rename_i e; subst e
      injection hy with hy; subst hy
      rw [if_pos rfl]
      exact ⟨_, rfl, frT'_of (frT_s (fr_mv hbl rfl (by unfold deadB; show (match look σ b with | some (some _) => false | _ => true) = true; rw [hb]) hn h0))⟩
    · rename_i e
      rw [if_neg e]
      exact ⟨y, hy, frT_same (ht i y hy)⟩
  · obtain ⟨x, hx⟩ := Option.ne_none_iff_exists'.1 hk
    rw [old k x hx]; simp
  · intro e
    apply h
    rw [look_append, e, look_cons, if_neg (by omega)]; rfl
theorem ring_rest (t h : Int) : ringCount t h = restU (seqSeq t) h := by
  have h1 : 0 ≤ wU (seqSeq t - h) ∧ wU (seqSeq t - h) < 18446744073709551616 := by
    simp only [wU, IntKind.wrap_u64]
    omega
  unfold ringCount restU
  rw [aU_mask h1.1 h1.2, Int.tmod_eq_emod_of_nonneg h1.1]
section
variable (caps : List Int) (th n : Int)
abbrev lnF (c : Sf) : MS := (nw caps th 0 5 0 n 0).cal 7 6 c
abbrev lnS (pc w x : Int) : Sf := ⟨0, pc, [w, x], ringLs caps n⟩
def relL (m : Mc) (f : MS) : Prop := m.what = 6 ∧ m.caps = caps ∧ m.ch = n ∧
  ((m.at' = 1 ∧ ∃ w x, f = lnF caps th n (lnS caps n 1 w x)) ∨ (m.at' = 2 ∧ ∃ x, f = lnF caps th n (lnS caps n 2 m.T x)) ∨ (m.at' = 3 ∧ f = lnF caps th n (lnS caps n 3 m.T m.H)) ∨ (m.at' = 0 ∧ f.cases = [] ∧ f.over = true ∧ f.res = ⟨7, -1, 0, false, wI m.ov⟩))
end
theorem relL_fit {caps : List Int} (hc : WfC caps) {th n : Int} (hn : 0 ≤ n ∧ n < caps.length) {m : Mc} {f : MS} (h : relL caps th n m f) (hp : m.at' > 0) : f.okB caps = true ∧ f.pc = 7 ∧ f.next = m.next ∧ f.over = false := by
  have hlen := hc.len
  have hsz := sizeC_le (caps.getD n.toNat 0)
  obtain ⟨h1, h2, h3, h⟩ := h
  have h15 : ¬ m.what = 5 := by omega
  have fit : ∀ pc w x, (lnF caps th n (lnS caps n pc w x)).okB caps = true := by
    intro pc w x
    have e : (ringLs caps n).getD 3 0 = sizeC (caps.getD n.toNat 0) := if_pos hn
    simp only [MS.okB, Inn.fitB, MS.cal, MS.new, e, Bool.and_eq_true, List.isEmpty_iff, decide_eq_true_eq, List.length_cons, List.length_nil]
    refine ⟨⟨⟨⟨⟨⟨⟨⟨trivial, ⟨by decide, by omega⟩, by decide⟩, by decide⟩, trivial⟩, by decide⟩, by decide⟩, by omega⟩, by omega⟩, by omega⟩
  rcases h with ⟨ha, w, x, rfl⟩ | ⟨ha, x, rfl⟩ | ⟨ha, rfl⟩ | ⟨ha, _⟩
  · refine ⟨fit _ _ _, rfl, ?_, rfl⟩
    have e : m.next = ⟨1, baseC caps n.toNat, 0, 0, 0⟩ := by unfold Mc.next; rw [if_neg (by omega), if_neg h15, if_neg (by omega), h2, h3]
    rw [e]
    show (⟨1, chanA caps n 0, 0, 0, 0⟩ : Acc) = _
    simp [chanA]
  · refine ⟨fit _ _ _, rfl, ?_, rfl⟩
    have e : m.next = ⟨1, baseC caps n.toNat + 1, 0, 0, 0⟩ := by unfold Mc.next; rw [if_neg (by omega), if_neg h15, if_pos ha, h2, h3]
    rw [e]
    rfl
  · refine ⟨fit _ _ _, rfl, ?_, rfl⟩
    have e : m.next = ⟨1, baseC caps n.toNat, 0, 0, 0⟩ := by unfold Mc.next; rw [if_neg (by omega), if_neg h15, if_neg (by omega), h2, h3]
    rw [e]
    show (⟨1, chanA caps n 0, 0, 0, 0⟩ : Acc) = _
    simp [chanA]
  · omega
theorem subRes6 (f : Sf) (b : Ans) : subRes 6 f b = countResume f b := rfl
theorem res1_on {f : MS} {b : Ans} {n' : Inn} {r : Rz} (hp : f.pc ≠ -1) (h : f.inner.go b = (n', r, false)) : f.res1 b = { f with inner := n' } := by
  unfold MS.res1 MS.resu
  rw [if_neg hp, h]; rfl
theorem res1_over {f : MS} {b : Ans} {n' : Inn} {r : Rz} (hp : f.pc ≠ -1) (h : f.inner.go b = (n', r, true)) : f.res1 b = ({ f with depth := 0 } : MS).beginning r := by
  unfold MS.res1 MS.resu
  rw [if_neg hp, h]; rfl
theorem go_sub {k : Int} {f g : Sf} {b : Ans} (h : subRes k f b = g) : (Inn.sub k f).go b = (.sub k g, ⟨endK g.pc g.code, endV g.pc g.ws, false, false, []⟩, endB g.pc) := by
  subst h; rfl
theorem n7 : (7 : Int) ≠ -1 := by decide
theorem relL_step {caps : List Int} {th n : Int} {m : Mc} {f : MS} (h : relL caps th n m f) (hp : m.at' > 0) (b : Ans) : relL caps th n (m.res b) (f.res1 b) := by
  obtain ⟨h1, h2, h3, h⟩ := h
  have er : m.res b = m.cnt b.val := by unfold Mc.res; rw [if_neg (by omega), if_neg (by omega)]
  rw [er]
  rcases h with ⟨ha, w, x, rfl⟩ | ⟨ha, x, rfl⟩ | ⟨ha, rfl⟩ | ⟨ha, _⟩
  · have e1 : m.cnt b.val = ({ m with T := b.val } : Mc).go 2 := by unfold Mc.cnt; rw [if_pos ha]
    have e2 : subRes 6 (lnS caps n 1 w x) b = lnS caps n 2 b.val x := by
      rw [subRes6]
      unfold countResume
      rw [if_neg (show ¬ ((1 : Int) = 2) by decide), if_neg (fun y => absurd y.1 (show ¬ ((1 : Int) = 3) by decide)), if_pos (.inr rfl)]
      rfl
    have e3 : (lnF caps th n (lnS caps n 1 w x)).res1 b = lnF caps th n (lnS caps n 2 b.val x) := (res1_on (f := lnF caps th n (lnS caps n 1 w x)) n7 (go_sub e2)).trans rfl
    rw [e1, e3]
    exact ⟨h1, h2, h3, .inr (.inl ⟨rfl, _, rfl⟩)⟩
  · have e1 : m.cnt b.val = ({ m with H := b.val } : Mc).go 3 := by unfold Mc.cnt; rw [if_neg (by omega), if_pos ha]
    have e2 : subRes 6 (lnS caps n 2 m.T x) b = lnS caps n 3 m.T b.val := by
      rw [subRes6]
      unfold countResume
      rw [if_pos rfl]
      rfl
    have e3 : (lnF caps th n (lnS caps n 2 m.T x)).res1 b = lnF caps th n (lnS caps n 3 m.T b.val) := (res1_on (f := lnF caps th n (lnS caps n 2 m.T x)) n7 (go_sub e2)).trans rfl
    rw [e1, e3]
    exact ⟨h1, h2, h3, .inr (.inr (.inl ⟨rfl, rfl⟩))⟩
  · by_cases hv : b.val = m.T
    · have e1 : m.cnt b.val = m.fin 9 (restU (seqSeq m.T) m.H) := by unfold Mc.cnt; rw [if_neg (by omega), if_neg (by omega), if_pos hv]
      have e2 : subRes 6 (lnS caps n 3 m.T m.H) b = frDone 9 (restU (seqSeq m.T) m.H) := by
        rw [subRes6, ← ring_rest]
        unfold countResume
        rw [if_neg (show ¬ ((3 : Int) = 2) by decide), if_pos ⟨rfl, hv⟩]
        rfl
      have e3 : (lnF caps th n (lnS caps n 3 m.T m.H)).res1 b = ({ (lnF caps th n (lnS caps n 3 m.T m.H)) with depth := 0 } : MS).fin ⟨7, -1, 0, false, wI (restU (seqSeq m.T) m.H)⟩ := (res1_over (f := lnF caps th n (lnS caps n 3 m.T m.H)) n7 (go_sub e2)).trans rfl
      rw [e1, e3]
      exact ⟨h1, h2, h3, .inr (.inr (.inr ⟨rfl, rfl, rfl, rfl⟩))⟩
    · have e1 : m.cnt b.val = ({ m with T := b.val } : Mc).go 2 := by unfold Mc.cnt; rw [if_neg (by omega), if_neg (by omega), if_neg hv]
      have e2 : subRes 6 (lnS caps n 3 m.T m.H) b = lnS caps n 2 b.val m.H := by
        rw [subRes6]
        unfold countResume
        rw [if_neg (show ¬ ((3 : Int) = 2) by decide), if_neg (fun y => hv y.2), if_pos (.inl rfl)]
        rfl
      have e3 : (lnF caps th n (lnS caps n 3 m.T m.H)).res1 b = lnF caps th n (lnS caps n 2 b.val m.H) := (res1_on (f := lnF caps th n (lnS caps n 3 m.T m.H)) n7 (go_sub e2)).trans rfl
      rw [e1, e3]
      exact ⟨h1, h2, h3, .inr (.inl ⟨rfl, _, rfl⟩)⟩
  · omega
noncomputable abbrev bLn : Code := Tryz.f4.body.getD .skip
abbrev lnQ : Ex → St → Prop := Done tiT Tryz.f4.results.toList 0 (rb true) []
abbrev lnG (R : List Ans) (l : List Int) (a i : Int) (m : Mc) (f : MS) : St :=
  ⟨[(10, .d (.sc (.v (rowU [0, 1, 2, 3])))), (1, .d (.sc (.v (rowAns R)))), (5, .d (.sc (.ptr 5000 0))), (8, .d (.sc (.ptr 112 0))), (9, .d (.sc (.ptr 216 0))), (11, ri i)], [(5000, some (.var (cdC l a 0))), (112, some (.var (mcC m))), (216, some (.var (msC f)))], 1000, 98⟩
abbrev lnX (m : Mc) (f : MS) : St := ⟨[(8, .d (.sc (.ptr 112 0))), (9, .d (.sc (.ptr 216 0)))], [(112, some (.var (mcC m))), (216, some (.var (msC f)))], 1000, 98⟩
def lnJ (caps : List Int) (th n : Int) (e : Ex) (s : St) : Prop := e = .exit 0 ∧ ∃ m f, relL caps th n m f ∧ s = lnX m f
noncomputable abbrev lnL : Code := loopN Tryz.f4 0
theorem ln_round {caps : List Int} (hc : WfC caps) (th n : Int) (hn : 0 ≤ n ∧ n < caps.length) (R : List Ans) (l : List Int) (hl : l.length ≤ 100) (hb : ∀ x, x ∈ l → 0 ≤ x ∧ x < 256) :
    ∀ (k : Nat) (i a : Int) (m : Mc) (f : MS), i + k = 20 → 0 ≤ i → 0 ≤ a → relL caps th n m f → Lp Tryz.prog lnL (k + 1) (lnG R l a i m f) (Up (lnJ caps th n)) := by
  intro k
  induction k with
  | zero =>
    intro i a m f hi h0 ha hr
    refine lp_step pk ?_
    refine w_br (fun h => by simp at h; omega) fun _ => ?_
    repeat refine w_brF ?_
    exact w_done (up_of (s0 := lnX m f) [8, 9] [112, 216] 1000 (by kernel_rfl) (clB_of rfl) ⟨rfl, m, f, hr, rfl⟩)
  | succ k ih =>
    intro i a m f hi h0 ha hr
    have ew : wI (i + 1) = i + 1 := wI_id (by omega) (by omega)
    refine lp_step pk ?_
    refine w_br (fun _ => ?_) fun h => by simp at h; omega
    repeat refine w_brT ?_
    by_cases hp : m.at' > 0
    · obtain ⟨r1, r2, r3, r4⟩ := relL_fit hc hn hr hp
      obtain ⟨o1, o2, o3, o4⟩ := MS.okB_of hc r1
      have hE := sp_CEnd f o1
      rw [r4] at hE
      have hN := sp_CNext f o2
      rw [r3] at hN
      have hw : m.what = 6 := hr.1
      have hM := sp_McNext m (by rw [hr.2.1]; exact hc) (by rw [hr.2.1, hr.2.2.1]; omega) (.inr hw)
      refine w_bT (decide_eq_true hp) ?_
      refine w_call hE rfl rfl rfl ?_
      repeat refine w_brF ?_
      refine w_call hN rfl rfl rfl ?_
      repeat refine w_brF ?_
      refine w_call hM rfl rfl rfl ?_
      repeat refine w_brF ?_
      refine w_chkK (true = true ∧ true = true) (by kernel_rfl) (by kernel_rfl) ⟨rfl, rfl⟩ ?_
      refine w_bF (by simp) ?_
      refine w_call1 5000 (sp_answer l a 0 m [0, 1, 2, 3] ha hl hb rfl) rfl rfl rfl rfl rfl rfl ?_
      have ha' : 0 ≤ (ansM l a m [0, 1, 2, 3]).2 := by
        unfold ansM
        have q1 := nxA_pos l _ ha
        have q2 := nxA_pos l _ q1
        have q3 := nxA_pos l _ q2
        have q4 := nxA_pos l _ q3
        dsimp only
        split
        · exact q4
        · split
          · exact q4
          · exact q3
      refine w_br (fun hR => ?_) fun hR => ?_
      · simp at hR
        repeat refine w_brT ?_
        refine w_br (fun h4 => ?_) fun h4 => ?_
        · refine w_chk ⟨h0, hR⟩ ?_
          have hlt : i.toNat < R.length := by omega
          have hg : R[i.toNat]? = some (R.getD i.toNat default) := by rw [List.getD_eq_getElem?_getD, List.getElem?_eq_getElem hlt]; rfl
          refine w_rdv (takeN_ans R i.toNat _ hg) ?_
          refine w_call (sp_McRes m (R.getD i.toNat default) (.inr hw)) rfl rfl rfl ?_
          refine w_call (sp_res1 hc f (R.getD i.toNat default) r1 (by rw [r2]; decide)) rfl rfl rfl ?_
          refine w_chkK (true = true ∧ true = true) (by kernel_rfl) (by kernel_rfl) ⟨rfl, rfl⟩ ?_
          refine w_done (lp_pick (s0 := lnG R l (ansM l a m [0, 1, 2, 3]).2 (wI (i + 1)) (m.res (R.getD i.toNat default)) (f.res1 (R.getD i.toNat default))) [10, 1, 5, 8, 9, 11] [5000, 112, 216] 1000 (by kernel_rfl) (clB_of rfl) ?_)
          rw [ew]
          exact ih (i + 1) _ _ _ (by omega) (by omega) ha' (relL_step hr hp _)
        · repeat refine w_brF ?_
          refine w_call (sp_McRes m ((ansM l a m [0, 1, 2, 3]).1) (.inr hw)) rfl rfl rfl ?_
          refine w_call (sp_res1 hc f ((ansM l a m [0, 1, 2, 3]).1) r1 (by rw [r2]; decide)) rfl rfl rfl ?_
          refine w_chkK (true = true ∧ true = true) (by kernel_rfl) (by kernel_rfl) ⟨rfl, rfl⟩ ?_
          refine w_done (lp_pick (s0 := lnG R l (ansM l a m [0, 1, 2, 3]).2 (wI (i + 1)) (m.res ((ansM l a m [0, 1, 2, 3]).1)) (f.res1 ((ansM l a m [0, 1, 2, 3]).1))) [10, 1, 5, 8, 9, 11] [5000, 112, 216] 1000 (by kernel_rfl) (clB_of rfl) ?_)
          rw [ew]
          exact ih (i + 1) _ _ _ (by omega) (by omega) ha' (relL_step hr hp _)
      · repeat refine w_brF ?_
        refine w_call (sp_McRes m ((ansM l a m [0, 1, 2, 3]).1) (.inr hw)) rfl rfl rfl ?_
        refine w_call (sp_res1 hc f ((ansM l a m [0, 1, 2, 3]).1) r1 (by rw [r2]; decide)) rfl rfl rfl ?_
        refine w_chkK (true = true ∧ true = true) (by kernel_rfl) (by kernel_rfl) ⟨rfl, rfl⟩ ?_
        refine w_done (lp_pick (s0 := lnG R l (ansM l a m [0, 1, 2, 3]).2 (wI (i + 1)) (m.res ((ansM l a m [0, 1, 2, 3]).1)) (f.res1 ((ansM l a m [0, 1, 2, 3]).1))) [10, 1, 5, 8, 9, 11] [5000, 112, 216] 1000 (by kernel_rfl) (clB_of rfl) ?_)
        rw [ew]
        exact ih (i + 1) _ _ _ (by omega) (by omega) ha' (relL_step hr hp _)
    · refine w_bF (decide_eq_false hp) ?_
      exact w_done (up_of (s0 := lnX m f) [8, 9] [112, 216] 1000 (by kernel_rfl) (clB_of rfl) ⟨rfl, m, f, hr, rfl⟩)
abbrev lnT (R : List Ans) : List (Nat × T) := [(1, .d (.sc (.v (rowAns R)))), (5, .d (.sc (.ptr 5000 0))), (8, .d (.sc (.ptr 112 0))), (9, .d (.sc (.ptr 216 0))), (11, ri 0)]
abbrev lnσ (l : List Int) (a : Int) (caps : List Int) (sts : V) (th n : Int) : List (Nat × Option Blk) := [(5000, some (.var (cdC l a 0))), (112, some (.var (mcC (mcNew 6 caps sts th n 0)))), (216, some (.var (msC (lnF caps th n (lnS caps n 1 0 0)))))]
theorem lnT_clk (R : List Ans) (l : List Int) (a : Int) (caps : List Int) (sts : V) (th n : Int) : ∀ i y, look (lnT R) i = some y → y.clk (lnσ l a caps sts th n) = true := by
  intro i y h
  have := look_mem h
  simp only [List.mem_cons, Prod.mk.injEq, List.not_mem_nil, or_false] at this
  rcases this with ⟨_, rfl⟩ | ⟨_, rfl⟩ | ⟨_, rfl⟩ | ⟨_, rfl⟩ | ⟨_, rfl⟩ <;> rfl
theorem ln_main {caps : List Int} (hc : WfC caps) (sts : V) (th n : Int) (hn : 0 ≤ n ∧ n < caps.length) (R : List Ans) (l : List Int) (hl : l.length ≤ 100) (hb : ∀ x, x ∈ l → 0 ≤ x ∧ x < 256) (a : Int) (ha : 0 ≤ a) :
    WpT Tryz.prog (evC tiT (Code.restN 5 bLn) ⟨[(1, .d (.sc (.v (rowAns R)))), (5, .d (.sc (.ptr 5000 0))), (6, .d (.sc (.ptr 108 0))), (7, ri n)], [(5000, some (.var (cdC l a 0))), (108, some (.var (cfC caps sts th)))], 100, 98⟩ kD) lnQ := by
  have hx : exC caps n = true := decide_eq_true hn
  have hs : startM caps th 0 5 0 n 0 0 = lnF caps th n (lnS caps n 1 0 0) := by
    unfold startM MS.start
    simp [MS.new, hx]
    rfl
  refine w_call (sp_McNew caps sts th 6 n 0) rfl rfl rfl ?_
  refine w_cutK pk (Code.restN 6 bLn) kD ⟨[(1, .d (.sc (.v (rowAns R)))), (5, .d (.sc (.ptr 5000 0))), (6, .d (.sc (.ptr 108 0))), (7, ri n), (8, .d (.sc (.ptr 112 0)))], [(5000, some (.var (cdC l a 0))), (108, some (.var (cfC caps sts th))), (112, some (.var (mcC (mcNew 6 caps sts th n 0))))], 200, 98⟩ [1, 5, 6, 7, 8] [5000, 108, 112] 200 (by kernel_rfl) (by kernel_rfl) (by kernel_rfl) (by kernel_rfl) (by kernel_rfl) ?_
  refine w_call (sp_st hc sts th 0 n ⟨by decide, by decide⟩ 5 0 0 (by decide) _ hs) rfl rfl rfl ?_
  refine w_cutK pk (Code.restN 7 bLn) kD ⟨[(1, .d (.sc (.v (rowAns R)))), (5, .d (.sc (.ptr 5000 0))), (8, .d (.sc (.ptr 112 0))), (9, .d (.sc (.ptr 216 0)))], [(5000, some (.var (cdC l a 0))), (112, some (.var (mcC (mcNew 6 caps sts th n 0)))), (216, some (.var (msC (lnF caps th n (lnS caps n 1 0 0)))))], 300, 98⟩ [1, 5, 8, 9] [5000, 112, 216] 300 (by kernel_rfl) (by kernel_rfl) (by kernel_rfl) (by kernel_rfl) (by kernel_rfl) ?_
  refine w_runC pk ?_
  refine w_runC pk ?_
  have him : Imp ⟨(10, .d (.sc (.mrow 300 0 4 none 1 true))) :: lnT R, lnσ l a caps sts th n ++ [(300, some (Blk.arr ([u64 0, u64 1, u64 2, u64 3].map S.v)))], 1000, 98⟩ (lnG R l a 0 (mcNew 6 caps sts th n 0) (lnF caps th n (lnS caps n 1 0 0))) :=
    imp_frz1 (t := lnT R) (σ := lnσ l a caps sts th n) (vs := [u64 0, u64 1, u64 2, u64 3]) (clB_of rfl) (lnT_clk R l a caps sts th n) rfl (by decide) rfl (fun _ h => by cases h)
  refine w_code (J := lnJ caps th n) (cwp_loop_up (n := 21) (lp_pick (s0 := ⟨(10, .d (.sc (.mrow 300 0 4 none 1 true))) :: lnT R, lnσ l a caps sts th n ++ [(300, some (Blk.arr ([u64 0, u64 1, u64 2, u64 3].map S.v)))], 1000, 98⟩) [10, 1, 5, 8, 9, 11] [5000, 112, 216, 300] 1000 (by kernel_rfl) (clB_of (by kernel_rfl))
    (Lp.imp him (ln_round hc th n hn R l hl hb 20 0 a _ _ (by decide) (by decide) ha ⟨rfl, rfl, rfl, .inl ⟨rfl, 0, 0, rfl⟩⟩)))) ?_
  rintro _ _ ⟨rfl, m, f, hr, rfl⟩
  refine w_cutK pk (Code.restN 9 bLn) kD { lnX m f with nx := 2000 } [8, 9] [112, 216] 2000 (by kernel_rfl) (by kernel_rfl) (by kernel_rfl) (by kernel_rfl) (by kernel_rfl) ?_
  obtain ⟨h1, h2, h3, h⟩ := hr
  have pos : m.at' > 0 → WpT Tryz.prog (evC tiT (Code.restN 9 bLn) { lnX m f with nx := 2000 } kD) lnQ := fun hp => by
    repeat' (try conv => arg 2; whnf) <;> first
      | refine w_brT ?_
      | refine w_brF ?_
      | refine w_bT (decide_eq_true hp) ?_
      | refine w_runC pk ?_
      | exact w_done (leafB rfl rfl)
  rcases h with ⟨ha, _⟩ | ⟨ha, _⟩ | ⟨ha, _⟩ | ⟨ha, hcs, hov, hre⟩
  · exact pos (by omega)
  · exact pos (by omega)
  · exact pos (by omega)
  · have hz : decide (m.at' > 0) = false := decide_eq_false (by omega)
    have hE := sp_CEnd f hcs
    rw [hov, hre] at hE
    repeat' (try conv => arg 2; whnf) <;> first
      | refine w_brT ?_
      | refine w_brF ?_
      | refine w_bF hz ?_
      | refine w_runC pk ?_
      | refine w_call hE rfl rfl rfl ?_
    exact w_done (leafB rfl (by simp))
theorem ln_rest (l : List Int) (hl : l.length ≤ 80) (hb : bytes l) (R : List Ans) : WpT Tryz.prog (evC tiT (Code.restN 3 bLn) ⟨[(1, .d (.sc (.v (rowAns R)))), (5, .d (.sc (.ptr 5000 0)))], [(5000, some (.var (cdC l 0 0)))], 100, 98⟩ kD) lnQ := by
  obtain ⟨hw, ha, h1⟩ := cfgX_ok l hb 0 (by decide)
  refine w_call1 5000 (sp_Config l 0 (by omega) hb 0 (by decide)) rfl rfl rfl rfl rfl rfl ?_
  refine w_cutK pk (Code.restN 4 bLn) kD ⟨[(1, .d (.sc (.v (rowAns R)))), (5, .d (.sc (.ptr 5000 0))), (6, .d (.sc (.ptr 108 0)))], [(5000, some (.var (cdC l (nxA l (cfgX l 0).2.2) 0))), (108, some (.var (cfC (cfgX l 0).1 (rowU (cfgX l 0).2.1) (2 + nxV l (cfgX l 0).2.2 3))))], 200, 98⟩ [1, 5, 6] [5000, 108] 200 (by kernel_rfl) (by kernel_rfl) (by kernel_rfl) (by kernel_rfl) (by kernel_rfl) ?_
  have ha2 := nxA_pos l _ ha
  generalize hY : nxA l (cfgX l 0).2.2 = a at *
  have hn := nxV_lt l a ((cfgX l 0).1.length : Nat) hb (by omega)
  refine w_call1 5000 (sp_DNext l a 0 ((cfgX l 0).1.length : Nat) ha2 (by omega) (by omega)) rfl rfl rfl rfl rfl rfl ?_
  refine w_cutK pk (Code.restN 5 bLn) kD ⟨[(1, .d (.sc (.v (rowAns R)))), (5, .d (.sc (.ptr 5000 0))), (6, .d (.sc (.ptr 108 0))), (7, ri (nxV l a ((cfgX l 0).1.length : Nat)))], [(5000, some (.var (cdC l (nxA l a) 0))), (108, some (.var (cfC (cfgX l 0).1 (rowU (cfgX l 0).2.1) (2 + nxV l (cfgX l 0).2.2 3))))], 100, 98⟩ [1, 5, 6, 7] [5000, 108] 100 (by kernel_rfl) (by kernel_rfl) (by kernel_rfl) (by kernel_rfl) (by kernel_rfl) ?_
  exact ln_main hw _ _ _ ⟨hn.1, hn.2⟩ R l (by omega) hb _ (nxA_pos l _ ha2)
theorem sp_Len_law (l : List Int) (hb : bytes l) (R : List Ans) : FSpec Tryz.prog 4 0 [] [.sc (.v (rowB l)), .sc (.v (rowAns R))] (rb true) [] := by
  refine (fspec_intro pk (fn := Tryz.f4) (fun _ _ => rfl) Tryz.func4 rfl (by decide) (cwp_evC pk ?_))
  refine w_runC pk ?_
  refine w_call sp_awake rfl rfl rfl ?_
  refine w_runC pk ?_
  refine w_brF ?_
  refine w_runC pk ?_
  by_cases h : l.length ≤ 80
  · refine w_callN [(92, 5000)] (sp_DNewA80 l h) rfl trivial rfl rfl rfl rfl rfl rfl rfl rfl rfl rfl ?_
    refine w_cutK pk (Code.restN 3 bLn) kD ⟨[(1, .d (.sc (.v (rowAns R)))), (5, .d (.sc (.ptr 5000 0)))], [(5000, some (.var (cdC l 0 0)))], 100, 98⟩ [1, 5] [5000] 100 (by kernel_rfl) (by kernel_rfl) (by kernel_rfl) (by kernel_rfl) (by kernel_rfl) ?_
    exact ln_rest l h hb R
  · refine w_callN [(108, 5000)] (sp_DNewB80 l (by omega)) rfl trivial rfl rfl rfl rfl rfl rfl rfl rfl rfl rfl ?_
    refine w_cutK pk (Code.restN 3 bLn) kD ⟨[(1, .d (.sc (.v (rowAns R)))), (5, .d (.sc (.ptr 5000 0)))], [(5000, some (.var (cdC (l.take 80) 0 0)))], 100, 98⟩ [1, 5] [5000] 100 (by kernel_rfl) (by kernel_rfl) (by kernel_rfl) (by kernel_rfl) (by kernel_rfl) ?_
    exact ln_rest (l.take 80) (by simp; omega) (fun x hx => hb x (List.mem_of_mem_take hx)) R
end Gx

namespace Go.Proofs.YtnbiiphkefhkcaaGreat.chanopLen
open Go.ChangeShapes Go.WideShapes Go.ChangeAt Go.RowKit
open Go.ChangeMaps (open_string shut_string)
open Gx (IsRow relV_row law_calls cx0 cx0_mut bytes_of)
set_option linter.unusedVariables false
theorem own : ownKnob Tryz.prog.godebug = none := by kernel_rfl
theorem laidOut : laidOutB Tryz.prog = true := by kernel_rfl
theorem walk (w : World) (a0 : Option Addr) (len0 cap0 : Nat) (z0 : List Int) (w0 : IsRow .u8 w a0 len0 cap0 z0) (a1 : Option Addr) (len1 cap1 : Nat) (z1 : List Gx.Ans) (w1 : ∀ M : Nat → Prop, (∀ j, ¬ M j) → Gx.RelV w M (Gx.rowAns z1) (.slice a1 len1 cap1)) : Calls Tryz.prog 4 #[.slice a0 len0 cap0, .slice a1 len1 cap1] w fun e w' => e = .returned (.bool true) ∧ Below w.heap.size w w' := by
  refine law_calls (Gx.sp_Len_law (z0.take len0) (bytes_of w0) z1) w ⟨rfl, fun i x hi => ?_⟩
  match i, hi with
  | 0, hi => simp at hi; subst hi; exact ⟨_, rfl, (relV_row (cx0_mut w) w0 : Gx.RelV _ _ _ _)⟩
  | 1, hi => simp at hi; subst hi; exact ⟨_, rfl, (w1 _ (cx0_mut w) : Gx.RelV _ _ _ _)⟩
  | i + 2, hi => simp at hi
set_option maxRecDepth 100000 in
theorem lifted (os : Os) (started : os.Started) (H : Type) (enc : TypeId × Value → H) :
    ReturnsInHanded {} Tryz.checked os 4 .any (Rows.chanopLenSpec.pre6 enc Tryz.prog Tryz.f4 Rows.chanopLenRow.domain false) (Rows.chanopLenSpec.post enc Tryz.prog Tryz.f4 false true false false) := by
  refine returnsInHanded_of_change (C := Tryz.checked) own started (by kernel_rfl) Tryz.func4
    (ChangeSpec.witness6 (enc := enc) (C := Tryz.checked) false ⟨#[], #[.slice none 0 0, .slice none 0 0], []⟩ 8 (by kernel_rfl) (by kernel_rfl) (by kernel_rfl) (by kernel_rfl)) ?_
  intro W base args ds gs before hval0 hW hcnd _
  have hval : ∀ (j : Nat) t v, Tryz.f4.params[j]? = some t → args[j]? = some v → Value.okWide Tryz.prog W .any base t v := hval0
  have hW' := hW
  obtain ⟨p, q, hA0, hV, rfl, hfz, hnd⟩ := hW
  have hA : DataW.TrodAll enc Tryz.prog W 0 (fun _ => true) true Tryz.f4.params.toList args.toList ds p := hA0
  rw [Tryz.params4] at hA hval
  obtain ⟨v0, vs0, d0, ds0, p0, q0, hargs, rfl, rfl, h0, r0⟩ := trodAll_cons hA
  obtain ⟨v1, vs1, d1, ds1, p1, q1, rfl, rfl, rfl, h1, r1⟩ := trodAll_cons r0
  obtain ⟨rfl, rfl, rfl⟩ := trodAll_nil r1
  obtain rfl : args = #[v0, v1] := by cases args; simp_all
  obtain ⟨rfl, rfl⟩ := trodVars_none hV
  obtain ⟨a0, len0, cap0, rfl⟩ := okWide_slice Tryz.underlying22 (hval 0 22 v0 rfl rfl)
  have k0 := h0
  have lt0 : ∀ x ∈ p0, x.block < W.heap.size := by obtain ⟨m, hm⟩ := k0; exact DataW.trod_lt m _ _ _ hm
  obtain ⟨z0, w0⟩ : ∃ zs, IsRow .u8 W a0 len0 cap0 zs := by
    obtain ⟨fuel, hf⟩ := h0
    rcases open_ints Tryz.underlying22 Tryz.underlying5 (by kernel_rfl) hf with ⟨hcs, _⟩ | ⟨x, l, c, zs, hcs, _, hl, hm, hz, _, hcell, hwz⟩
    · simp [Value.cells] at hcs
      obtain ⟨rfl, rfl, rfl⟩ := hcs
      exact ⟨[], .inl ⟨rfl, rfl, rfl, rfl⟩⟩
    · simp [Value.cells] at hcs
      obtain ⟨rfl, rfl, rfl⟩ := hcs
      exact ⟨zs, .inr ⟨_, rfl, hl, hm, by simpa using hz, hcell, hwz⟩⟩
  obtain ⟨a1, len1, cap1, rfl⟩ := okWide_slice Tryz.underlying49 (hval 1 49 v1 rfl rfl)
  have k1 := h1
  have lt1 : ∀ x ∈ p1, x.block < W.heap.size := by obtain ⟨m, hm⟩ := k1; exact DataW.trod_lt m _ _ _ hm
  obtain ⟨z1, w1⟩ : ∃ l : List Gx.Ans, ∀ M : Nat → Prop, (∀ j, ¬ M j) → Gx.RelV W M (Gx.rowAns l) (.slice a1 len1 cap1) := by
    obtain ⟨fuel, hf⟩ := h1
    exact Gx.trod_row hf _ _ _ (by simp [Value.cells])
  clear hA0 hval0
  refine (walk W a0 len0 cap0 z0 w0 a1 len1 cap1 z1 w1).mono fun e W' ⟨he, bel⟩ => ?_
  subst he
  exact ⟨_, rfl, _, _, _, [], _, [], hW', trodAll_mk1 (shut_bool Tryz.underlying4 _), (trodAll_cons_mk (Below.trod laidOut (by kernel_rfl) (of_decide_eq_true (by kernel_rfl)) k0 bel lt0) (trodAll_cons_mk (Below.trod laidOut (by kernel_rfl) (of_decide_eq_true (by kernel_rfl)) k1 bel lt1) trodAll_mk0)), rfl, bel.frame _, fun h => by cases h⟩
theorem k1 : (Rows.chanopLenRow.wf (OpenSpec.ofChange Rows.chanopLenSpec)) = true := by kernel_rfl
theorem k2 : (laidOutB Tryz.prog) = true := Gx.Facts.sk2
theorem k3 : (mapsRowed Tryz.prog) = true := Gx.Facts.sk3
theorem k4 : (Tryz.f4.params.all (Tryz.prog.readableRec ·)) = true := by kernel_rfl
theorem k5 : (namedTie Tryz.prog Rows.chanopLenRow.named Rows.chanopLenSpec.vars) = true := by kernel_rfl
theorem k6 : (Rows.chanopLenRow.stops == []) = true := by kernel_rfl
theorem k7 : (Tryz.prog.stops == []) = true := Gx.Facts.sk7
theorem k8 : (Rows.chanopLenRow.knobs == []) = true := by kernel_rfl
theorem k9 : (Tryz.prog.stopKnobs == []) = true := Gx.Facts.sk9
theorem k10 : (Rows.chanopLenRow.inPlace == Tryz.prog.inPlace 4) = true := by kernel_rfl
theorem k11 : (Rows.chanopLenRow.unfollowed == Tryz.prog.unfollowed 4) = true := by kernel_rfl
theorem k12 : (Rows.chanopLenRow.recurses == Tryz.prog.recurses 4) = true := by kernel_rfl
theorem k13 : (Rows.chanopLenRow.named == Tryz.prog.varsNamed 4) = true := by kernel_rfl
theorem k14 : (Rows.chanopLenRow.maps == (Tryz.f4.params.toList ++ Rows.chanopLenSpec.plain.varTypes Tryz.prog).any (Tryz.prog.mapsRec ·)) = true := by kernel_rfl
theorem k15 : (Rows.chanopLenRow.ifaces == (Tryz.f4.params.toList ++ Rows.chanopLenSpec.plain.varTypes Tryz.prog).any (Tryz.prog.ifacesRec ·)) = true := by kernel_rfl
theorem k16 : (Rows.chanopLenRow.mapsOut == Tryz.prog.mapsAmong Tryz.f4.resultTypes.toList) = true := by kernel_rfl
theorem k17 : (Rows.chanopLenRow.loops == (Tryz.f4.params.toList ++ Rows.chanopLenSpec.plain.varTypes Tryz.prog).any (Tryz.prog.loopsFrom ·)) = true := by kernel_rfl
theorem k17b : (Rows.chanopLenRow.wideKeys == (Tryz.f4.params.toList ++ Rows.chanopLenSpec.plain.varTypes Tryz.prog ++ Tryz.f4.resultTypes.toList).any (Tryz.prog.wideKeysFrom ·)) = true := by kernel_rfl
theorem k18 : (Rows.chanopLenSpec.vars.all (Tryz.prog.varReadable ·)) = true := by kernel_rfl
theorem k19 : (Tryz.f4.resultTypes.all (fun t => Tryz.prog.readableRec t && decide (t < Tryz.prog.types.size))) = true := by kernel_rfl
theorem k20 : (Rows.chanopLenRow.ifacesOut == Tryz.f4.resultTypes.toList.any (Tryz.prog.ifacesRec ·)) = true := by kernel_rfl
theorem k21 : (Rows.chanopLenRow.loopsOut == Tryz.f4.resultTypes.toList.any (Tryz.prog.loopsFrom ·)) = true := by kernel_rfl
theorem k22 : (Rows.chanopLenRow.plainKeys == Tryz.prog.plainKeys) = true := Gx.Facts.sk22
theorem k23 : (Rows.chanopLenRow.shortTexts.isNone) = true := by kernel_rfl
theorem k23b : (Tryz.prog.stopsHeard) = true := Gx.Facts.sk23b
theorem k24 : (Tryz.prog.mayEnter) = true := Gx.Facts.sk24
theorem k24b : (Rows.chanopLenRow.lifted == Tryz.prog.liftsFinal) = true := Gx.Facts.sk24b
theorem k24c : (Tryz.prog.make == some Rows.chanopLenRow.make) = true := Gx.Facts.sk24c
theorem k25 : (Rows.chanopLenRow.kinds == (if Rows.chanopLenRow.domain.isEmpty then [] else Tryz.f4.params.toList.map fun t => match Tryz.prog.underlying t with | some (.int k) => some k | _ => none)) = true := by kernel_rfl
theorem k26 : (Rows.chanopLenRow.pinned == Rows.chanopLenRow.pinnedBy) = true := by kernel_rfl
theorem k27 : (Rows.chanopLenRow.veiled == (Tryz.f4.params.toList ++ Rows.chanopLenSpec.plain.varTypes Tryz.prog ++ Tryz.f4.resultTypes.toList).any (Tryz.prog.veiledRec ·)) = true := by kernel_rfl
theorem k28 : (Rows.chanopLenRow.veiledFits Tryz.prog Tryz.f4.params.toList (Tryz.f4.params.toList ++ Rows.chanopLenSpec.plain.varTypes Tryz.prog ++ Tryz.f4.resultTypes.toList)) = true := by kernel_rfl
set_option maxRecDepth 1000000 in
theorem closed : joinedFacts Tryz.prog 4 Tryz.f4 Rows.chanopLenSpec Rows.chanopLenRow = true := Gx.Facts.joined_mk (P := Tryz.prog) (f := 4) (fn := Tryz.f4) (s := Rows.chanopLenSpec) (c := Rows.chanopLenRow) k1 k2 k3 k4 k5 k6 k7 k8 k9 k10 k11 k12 k13 k14 k15 k16 k17 k17b k18 k19 k20 k21 k22 k23 k23b k24 k24b k24c k25 k26 k27 k28
theorem named : Tryz.prog.funcNamed Rows.chanopLenRow.func = some 4 := by kernel_rfl
theorem inst : Tryz.f4.isInstance Tryz.prog Rows.chanopLenRow.origin Rows.chanopLenRow.targs := of_decide_eq_true (by kernel_rfl)
theorem wrap : Tryz.f4.isWrapper Tryz.prog Rows.chanopLenRow.wrapper Rows.chanopLenRow.mainSum := by unfold Func.isWrapper; first | (rw [if_pos (by decide +kernel)]; kernel_rfl) | (rw [if_neg (by decide +kernel)]; exact ⟨rfl, rfl⟩)
theorem over : Rows.chanopLenRow.holds Tryz.pinned (OpenSpec.ofChange Rows.chanopLenSpec) :=
  OpenClaim.holds_of_wide 4 Tryz.f4 rfl rfl rfl rfl rfl rfl rfl ⟨rfl, rfl, rfl, rfl, rfl⟩ rfl rfl rfl rfl rfl named Tryz.func4 closed
    inst wrap
    (fun os started H enc _ => lifted os started H enc)
theorem proved : Rows.ChanopLenSaid := over
#print axioms proved
end Go.Proofs.YtnbiiphkefhkcaaGreat.chanopLen
namespace Go.Proofs.YtnbiiphkefhkcaaGreat
/-- The row, under a short name, for the claim. -/
theorem chanopLen_holds : Rows.ChanopLenSaid := chanopLen.proved
end Go.Proofs.YtnbiiphkefhkcaaGreat
