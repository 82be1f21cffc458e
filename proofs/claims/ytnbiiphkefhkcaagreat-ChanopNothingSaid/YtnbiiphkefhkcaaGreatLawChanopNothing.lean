/- The law ChanopNothing, for every input: the call returns true, and each argument reads behind it as it read before. No condition. -/
import Derived.Test.YtnbiiphkefhkcaaGreatRows
import Derived.Test.YtnbiiphkefhkcaaGreatGzC
import Derived.Test.YtnbiiphkefhkcaaGreatGzR
import Derived.Test.YtnbiiphkefhkcaaGreatGzF
import Derived.WalkKit
import Derived.ProofKit
import Derived.OpenShut
import Derived.ShutString
import Derived.ChangeOld
import Derived.Below
import Derived.SizedLaws
namespace Go.Proofs.YtnbiiphkefhkcaaGreat.chanopNothing
open Go.ChangeShapes Go.WideShapes Go.ChangeAt Go.RowKit
open Go.ChangeMaps (open_string shut_string)
open Gx (IsRow relV_row law_calls cx0 cx0_mut bytes_of)
set_option linter.unusedVariables false
theorem own : ownKnob Tryz.prog.godebug = none := by kernel_rfl
theorem laidOut : laidOutB Tryz.prog = true := by kernel_rfl
theorem walk (w : World) (a0 : Option Addr) (len0 cap0 : Nat) (z0 : List Int) (w0 : IsRow .u8 w a0 len0 cap0 z0) (a1 : Int) (a2 : Int) (a3 : Int) : Calls Tryz.prog 3 #[.slice a0 len0 cap0, .int .i64 a1, .int .i64 a2, .int .u64 a3] w fun e w' => e = .returned (.bool true) ∧ Below w.heap.size w w' := by
  refine law_calls (Gx.sp_Nothing (z0.take len0) (bytes_of w0) a1 a2 a3) w ⟨rfl, fun i x hi => ?_⟩
  match i, hi with
  | 0, hi => simp at hi; subst hi; exact ⟨_, rfl, (relV_row (cx0_mut w) w0 : Gx.RelV _ _ _ _)⟩
  | 1, hi => simp at hi; subst hi; exact ⟨_, rfl, Gx.RelV.int .i64 a1⟩
  | 2, hi => simp at hi; subst hi; exact ⟨_, rfl, Gx.RelV.int .i64 a2⟩
  | 3, hi => simp at hi; subst hi; exact ⟨_, rfl, Gx.RelV.int .u64 a3⟩
  | i + 4, hi => simp at hi
set_option maxRecDepth 100000 in
theorem lifted (os : Os) (started : os.Started) (H : Type) (enc : TypeId × Value → H) :
    ReturnsInHanded {} Tryz.checked os 3 .any (Rows.chanopNothingSpec.pre6 enc Tryz.prog Tryz.f3 Rows.chanopNothingRow.domain false) (Rows.chanopNothingSpec.post enc Tryz.prog Tryz.f3 false true false false) := by
  refine returnsInHanded_of_change (C := Tryz.checked) own started (by kernel_rfl) Tryz.func3
    (ChangeSpec.witness6 (enc := enc) (C := Tryz.checked) false ⟨#[], #[.slice none 0 0, .int .i64 0, .int .i64 0, .int .u64 0], []⟩ 8 (by kernel_rfl) (by kernel_rfl) (by kernel_rfl) (by kernel_rfl)) ?_
  intro W base args ds gs before hval0 hW hcnd _
  have hval : ∀ (j : Nat) t v, Tryz.f3.params[j]? = some t → args[j]? = some v → Value.okWide Tryz.prog W .any base t v := hval0
  have hW' := hW
  obtain ⟨p, q, hA0, hV, rfl, hfz, hnd⟩ := hW
  have hA : DataW.TrodAll enc Tryz.prog W 0 (fun _ => true) true Tryz.f3.params.toList args.toList ds p := hA0
  rw [Tryz.params3] at hA hval
  obtain ⟨v0, vs0, d0, ds0, p0, q0, hargs, rfl, rfl, h0, r0⟩ := trodAll_cons hA
  obtain ⟨v1, vs1, d1, ds1, p1, q1, rfl, rfl, rfl, h1, r1⟩ := trodAll_cons r0
  obtain ⟨v2, vs2, d2, ds2, p2, q2, rfl, rfl, rfl, h2, r2⟩ := trodAll_cons r1
  obtain ⟨v3, vs3, d3, ds3, p3, q3, rfl, rfl, rfl, h3, r3⟩ := trodAll_cons r2
  obtain ⟨rfl, rfl, rfl⟩ := trodAll_nil r3
  obtain rfl : args = #[v0, v1, v2, v3] := by cases args; simp_all
  obtain ⟨rfl, rfl⟩ := trodVars_none hV
  obtain ⟨a0, len0, cap0, rfl⟩ := okWide_slice Tryz.underlying22 (hval 0 22 v0 rfl rfl)
  have k0 := h0
  have lt0 : ∀ x ∈ p0, x.block < W.heap.size := by obtain ⟨m, hm⟩ := k0; exact DataW.trod_lt m _ _ _ hm
  obtain ⟨z0, w0⟩ : ∃ zs, IsRow .u8 W a0 len0 cap0 zs := by
    obtain ⟨fuel, hf⟩ := h0
    rcases open_ints Tryz.underlying22 Tryz.underlying5 (by kernel_rfl) hf with ⟨hcs, _⟩ | ⟨x, l, c, zs, hcs, _, hl, hm, hz, _, hcell, hwz⟩
    · simp [Value.cells] at hcs
      obtain ⟨rfl, rfl, rfl⟩ := hcs
      exact ⟨[], .inl ⟨rfl, rfl, rfl, rfl⟩⟩
    · simp [Value.cells] at hcs
      obtain ⟨rfl, rfl, rfl⟩ := hcs
      exact ⟨zs, .inr ⟨_, rfl, hl, hm, by simpa using hz, hcell, hwz⟩⟩
  obtain ⟨a1, rfl, rfl, rfl, w1⟩ := open_int Tryz.underlying3 (hval 1 3 v1 rfl rfl) h1
  obtain ⟨a2, rfl, rfl, rfl, w2⟩ := open_int Tryz.underlying3 (hval 2 3 v2 rfl rfl) h2
  obtain ⟨a3, rfl, rfl, rfl, w3⟩ := open_int Tryz.underlying23 (hval 3 23 v3 rfl rfl) h3
  clear hA0 hval0
  refine (walk W a0 len0 cap0 z0 w0 a1 a2 a3).mono fun e W' ⟨he, bel⟩ => ?_
  subst he
  exact ⟨_, rfl, _, _, _, [], _, [], hW', trodAll_mk1 (shut_bool Tryz.underlying4 _), (trodAll_cons_mk (Below.trod laidOut (by kernel_rfl) (of_decide_eq_true (by kernel_rfl)) k0 bel lt0) (trodAll_cons_mk (shut_int Tryz.underlying3 w1) (trodAll_cons_mk (shut_int Tryz.underlying3 w2) (trodAll_cons_mk (shut_int Tryz.underlying23 w3) trodAll_mk0)))), rfl, bel.frame _, fun h => by cases h⟩
theorem k1 : (Rows.chanopNothingRow.wf (OpenSpec.ofChange Rows.chanopNothingSpec)) = true := by kernel_rfl
theorem k2 : (laidOutB Tryz.prog) = true := Gx.Facts.sk2
theorem k3 : (mapsRowed Tryz.prog) = true := Gx.Facts.sk3
theorem k4 : (Tryz.f3.params.all (Tryz.prog.readableRec ·)) = true := by kernel_rfl
theorem k5 : (namedTie Tryz.prog Rows.chanopNothingRow.named Rows.chanopNothingSpec.vars) = true := by kernel_rfl
theorem k6 : (Rows.chanopNothingRow.stops == []) = true := by kernel_rfl
theorem k7 : (Tryz.prog.stops == []) = true := Gx.Facts.sk7
theorem k8 : (Rows.chanopNothingRow.knobs == []) = true := by kernel_rfl
theorem k9 : (Tryz.prog.stopKnobs == []) = true := Gx.Facts.sk9
theorem k10 : (Rows.chanopNothingRow.inPlace == Tryz.prog.inPlace 3) = true := by kernel_rfl
theorem k11 : (Rows.chanopNothingRow.unfollowed == Tryz.prog.unfollowed 3) = true := by kernel_rfl
theorem k12 : (Rows.chanopNothingRow.recurses == Tryz.prog.recurses 3) = true := by kernel_rfl
theorem k13 : (Rows.chanopNothingRow.named == Tryz.prog.varsNamed 3) = true := by kernel_rfl
theorem k14 : (Rows.chanopNothingRow.maps == (Tryz.f3.params.toList ++ Rows.chanopNothingSpec.plain.varTypes Tryz.prog).any (Tryz.prog.mapsRec ·)) = true := by kernel_rfl
theorem k15 : (Rows.chanopNothingRow.ifaces == (Tryz.f3.params.toList ++ Rows.chanopNothingSpec.plain.varTypes Tryz.prog).any (Tryz.prog.ifacesRec ·)) = true := by kernel_rfl
theorem k16 : (Rows.chanopNothingRow.mapsOut == Tryz.prog.mapsAmong Tryz.f3.resultTypes.toList) = true := by kernel_rfl
theorem k17 : (Rows.chanopNothingRow.loops == (Tryz.f3.params.toList ++ Rows.chanopNothingSpec.plain.varTypes Tryz.prog).any (Tryz.prog.loopsFrom ·)) = true := by kernel_rfl
theorem k17b : (Rows.chanopNothingRow.wideKeys == (Tryz.f3.params.toList ++ Rows.chanopNothingSpec.plain.varTypes Tryz.prog ++ Tryz.f3.resultTypes.toList).any (Tryz.prog.wideKeysFrom ·)) = true := by kernel_rfl
theorem k18 : (Rows.chanopNothingSpec.vars.all (Tryz.prog.varReadable ·)) = true := by kernel_rfl
theorem k19 : (Tryz.f3.resultTypes.all (fun t => Tryz.prog.readableRec t && decide (t < Tryz.prog.types.size))) = true := by kernel_rfl
theorem k20 : (Rows.chanopNothingRow.ifacesOut == Tryz.f3.resultTypes.toList.any (Tryz.prog.ifacesRec ·)) = true := by kernel_rfl
theorem k21 : (Rows.chanopNothingRow.loopsOut == Tryz.f3.resultTypes.toList.any (Tryz.prog.loopsFrom ·)) = true := by kernel_rfl
theorem k22 : (Rows.chanopNothingRow.plainKeys == Tryz.prog.plainKeys) = true := Gx.Facts.sk22
theorem k23 : (Rows.chanopNothingRow.shortTexts.isNone) = true := by kernel_rfl
theorem k23b : (Tryz.prog.stopsHeard) = true := Gx.Facts.sk23b
theorem k24 : (Tryz.prog.mayEnter) = true := Gx.Facts.sk24
theorem k24b : (Rows.chanopNothingRow.lifted == Tryz.prog.liftsFinal) = true := Gx.Facts.sk24b
theorem k24c : (Tryz.prog.make == some Rows.chanopNothingRow.make) = true := Gx.Facts.sk24c
theorem k25 : (Rows.chanopNothingRow.kinds == (if Rows.chanopNothingRow.domain.isEmpty then [] else Tryz.f3.params.toList.map fun t => match Tryz.prog.underlying t with | some (.int k) => some k | _ => none)) = true := by kernel_rfl
theorem k26 : (Rows.chanopNothingRow.pinned == Rows.chanopNothingRow.pinnedBy) = true := by kernel_rfl
theorem k27 : (Rows.chanopNothingRow.veiled == (Tryz.f3.params.toList ++ Rows.chanopNothingSpec.plain.varTypes Tryz.prog ++ Tryz.f3.resultTypes.toList).any (Tryz.prog.veiledRec ·)) = true := by kernel_rfl
theorem k28 : (Rows.chanopNothingRow.veiledFits Tryz.prog Tryz.f3.params.toList (Tryz.f3.params.toList ++ Rows.chanopNothingSpec.plain.varTypes Tryz.prog ++ Tryz.f3.resultTypes.toList)) = true := by kernel_rfl
set_option maxRecDepth 1000000 in
theorem closed : joinedFacts Tryz.prog 3 Tryz.f3 Rows.chanopNothingSpec Rows.chanopNothingRow = true := Gx.Facts.joined_mk (P := Tryz.prog) (f := 3) (fn := Tryz.f3) (s := Rows.chanopNothingSpec) (c := Rows.chanopNothingRow) k1 k2 k3 k4 k5 k6 k7 k8 k9 k10 k11 k12 k13 k14 k15 k16 k17 k17b k18 k19 k20 k21 k22 k23 k23b k24 k24b k24c k25 k26 k27 k28
theorem named : Tryz.prog.funcNamed Rows.chanopNothingRow.func = some 3 := by kernel_rfl
theorem inst : Tryz.f3.isInstance Tryz.prog Rows.chanopNothingRow.origin Rows.chanopNothingRow.targs := of_decide_eq_true (by kernel_rfl)
theorem wrap : Tryz.f3.isWrapper Tryz.prog Rows.chanopNothingRow.wrapper Rows.chanopNothingRow.mainSum := by unfold Func.isWrapper; first | (rw [if_pos (by decide +kernel)]; kernel_rfl) | (rw [if_neg (by decide +kernel)]; exact ⟨rfl, rfl⟩)
theorem over : Rows.chanopNothingRow.holds Tryz.pinned (OpenSpec.ofChange Rows.chanopNothingSpec) :=
  OpenClaim.holds_of_wide 3 Tryz.f3 rfl rfl rfl rfl rfl rfl rfl ⟨rfl, rfl, rfl, rfl, rfl⟩ rfl rfl rfl rfl rfl named Tryz.func3 closed
    inst wrap
    (fun os started H enc _ => lifted os started H enc)
theorem proved : Rows.ChanopNothingSaid := over
#print axioms proved
end Go.Proofs.YtnbiiphkefhkcaaGreat.chanopNothing
namespace Go.Proofs.YtnbiiphkefhkcaaGreat
/-- The row, under a short name, for the claim. -/
theorem chanopNothing_holds : Rows.ChanopNothingSaid := chanopNothing.proved
end Go.Proofs.YtnbiiphkefhkcaaGreat
