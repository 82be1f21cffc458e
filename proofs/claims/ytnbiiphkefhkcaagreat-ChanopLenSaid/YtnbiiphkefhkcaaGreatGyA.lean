import Derived.Test.YtnbiiphkefhkcaaGreatGxT
import Derived.Laws.Bits64
import Derived.Laws.BitsLemmas
set_option linter.unusedVariables false
set_option linter.unusedSimpArgs false
set_option maxRecDepth 100000
namespace Gx
open Go Go.Proofs

section
variable {P : Program} {ti : TypeId → Option TI}
theorem frT_v {σ σ' : List (Nat × Option Blk)} {x y : V} (h : x = y) : FrT' σ σ' (.d (.sc (.v x))) (.d (.sc (.v y))) := fr_v (σ := σ) (σ' := σ') h
theorem frT_s {σ σ' : List (Nat × Option Blk)} {x y : S} (h : FrS σ σ' x y) : FrT' σ σ' (.d (.sc x)) (.d (.sc y)) := h
theorem frT_agg {σ σ' : List (Nat × Option Blk)} {l m : List S} (h : FrLs σ σ' l m) : FrT' σ σ' (.d (.agg l)) (.d (.agg m)) := h
theorem frT_tup {σ σ' : List (Nat × Option Blk)} {l m : List D} (h : FrDs σ σ' l m) : FrT' σ σ' (.tup l) (.tup m) := h
theorem frLs_nil {σ σ' : List (Nat × Option Blk)} : FrLs σ σ' [] [] := trivial
theorem frLs_cons {σ σ' : List (Nat × Option Blk)} {x y : S} {l m : List S} (h1 : FrS σ σ' x y) (h2 : FrLs σ σ' l m) : FrLs σ σ' (x :: l) (y :: m) := ⟨h1, h2⟩
theorem frDs_nil {σ σ' : List (Nat × Option Blk)} : FrDs σ σ' [] [] := trivial
theorem frDs_s {σ σ' : List (Nat × Option Blk)} {x y : S} {l m : List D} (h1 : FrS σ σ' x y) (h2 : FrDs σ σ' l m) : FrDs σ σ' (.sc x :: l) (.sc y :: m) := ⟨h1, h2⟩
theorem frDs_agg {σ σ' : List (Nat × Option Blk)} {x y : List S} {l m : List D} (h1 : FrLs σ σ' x y) (h2 : FrDs σ σ' l m) : FrDs σ σ' (.agg x :: l) (.agg y :: m) := ⟨h1, h2⟩
/-- A function of one way, which turns no block. -/
theorem fspec_line (hP : PK P ti) {f : FuncId} {fn : Func} {c : Code} {args : List D} {res r0 : T} {s : St} (he : EnterOK P f)
    (hf : P.funcs[f]? = some fn) (hb : fn.body = some c) (h : ev ti c (entrySt fn [] args) (fun e s => .done e s) = .done .ret s) (hr : resT ti s fn.results.toList = some r0) (hx : FrT' s.σ [] r0 res) : FSpec P f 0 [] args res [] := by
  refine fspec_intro hP he hf hb (by decide) (cwp_ev hP ?_)
  rw [h]
  exact done0 (.inr rfl) hr hx
end

abbrev i64 (n : Int) : V := .int .i64 n
abbrev u64 (n : Int) : V := .int .u64 n
abbrev wI (n : Int) : Int := IntKind.i64.wrap n
abbrev wU (n : Int) : Int := IntKind.u64.wrap n
theorem wU_id {n : Int} (h0 : 0 ≤ n) (h1 : n < 18446744073709551616) : wU n = n := by simp only [wU, IntKind.wrap_u64]; omega
theorem wI_id {n : Int} (h0 : -9223372036854775808 ≤ n) (h1 : n < 9223372036854775808) : wI n = n := by simp only [wI, IntKind.wrap_i64]; omega
abbrev aU (a b : Int) : Int := bits .and .u64 a b
abbrev oU (a b : Int) : Int := bits .or .u64 a b
abbrev di (n : Int) : D := .sc (.v (i64 n))
abbrev du (n : Int) : D := .sc (.v (u64 n))
abbrev db (b : Bool) : D := .sc (.v (.bool b))
abbrev ri (n : Int) : T := .d (di n)
abbrev ru (n : Int) : T := .d (du n)
abbrev rb (b : Bool) : T := .d (db b)

/-! seqword -/
def mask63 : Int := 9223372036854775807
def seqNext (seq n : Int) : Int := aU (wU (seq + wU n)) 9223372036854775807
def seqSeq (w : Int) : Int := w.fdiv (2 ^ (min 1 64))
def seqClosed (w : Int) : Bool := aU w 1 == 1
def seqPack (seq : Int) (c : Bool) : Int := if c then oU (wU (seq * 2 ^ (min 1 64))) 1 else wU (seq * 2 ^ (min 1 64))
def seqSlot (seq size : Int) : Int := if size < 1 then 0 else wI ((aU seq 9223372036854775807).tmod (wU size))
theorem sp_seqNext (seq n : Int) : FSpec Tryz.prog 141 0 [] [du seq, di n] (ru (seqNext seq n)) [] :=
  fspec_line pk (fn := Tryz.f141) (fun _ _ => rfl) Tryz.func141 rfl rfl rfl (frT_v rfl)
theorem sp_seqSeq (w : Int) : FSpec Tryz.prog 261 0 [] [du w] (ru (seqSeq w)) [] := by
  refine (fspec_intro pk (fn := Tryz.f261) (fun _ _ => rfl) Tryz.func261 rfl (by decide) (cwp_ev pk ?_))
  refine w_chk (by decide) ?_
  refine w_done (done0 (.inr rfl) rfl (frT_v rfl))
theorem sp_seqClosed (w : Int) : FSpec Tryz.prog 217 0 [] [du w] (rb (seqClosed w)) [] :=
  fspec_line pk (fn := Tryz.f217) (fun _ _ => rfl) Tryz.func217 rfl rfl rfl (frT_v rfl)
theorem sp_seqPack (seq : Int) (c : Bool) : FSpec Tryz.prog 137 0 [] [du seq, db c] (ru (seqPack seq c)) [] := by
  refine (fspec_intro pk (fn := Tryz.f137) (fun _ _ => rfl) Tryz.func137 rfl (by decide) (cwp_ev pk ?_))
  refine w_chk (by decide) ?_
  refine w_br ?_ ?_
  · rintro rfl
    exact w_done (done0 (.inr rfl) rfl (frT_v rfl))
  · rintro rfl
    exact w_done (done0 (.inr rfl) rfl (frT_v rfl))
theorem sp_seqSlot (seq size : Int) (h0 : size < 9223372036854775808) : FSpec Tryz.prog 252 0 [] [du seq, di size] (ri (seqSlot seq size)) [] := by
  refine (fspec_intro pk (fn := Tryz.f252) (fun _ _ => rfl) Tryz.func252 rfl (by decide) (cwp_ev pk ?_))
  refine w_br ?_ ?_
  · intro h
    refine w_done (done0 (.inr rfl) rfl (frT_v ?_))
    simp at h; simp [seqSlot, h]
  · intro h
    refine w_chk ?_ ?_
    · simp at h; show wU size ≠ 0; rw [wU_id (by omega) (by omega)]; omega
    refine w_done (done0 (.inr rfl) rfl (frT_v ?_))
    simp at h; simp [seqSlot]; omega

/-! frames -/
def rowU (l : List Int) : V := .row (l.map u64) l.length
def rowI (l : List Int) : V := .row (l.map i64) l.length
abbrev frC (code pc : Int) (ws ls : List Int) (up : V) : List S := [.v (i64 code), .v (i64 pc), .v (rowU ws), .v (rowI ls), .v up]
abbrev frD (code pc : Int) (ws ls : List Int) (up : V) : D := .agg (frC code pc ws ls up)
abbrev noUp : V := .row [] 0
structure Fr where
  code : Int
  pc : Int
  ws : List Int
  ls : List Int
  up : V
def Fr.d (f : Fr) : D := frD f.code f.pc f.ws f.ls f.up
def Fr.word (ws : List Int) (i : Int) : Int := ws.getD i.toNat 0
def withL (l : List Int) (i : Nat) (w : Int) : List Int := (l ++ List.replicate (i + 1 - l.length) 0).set i w

theorem sp_Word (code pc i : Int) (ws ls : List Int) (up : V) (hi : 0 ≤ i) : FSpec Tryz.prog 156 0 [] [frD code pc ws ls up, di i] (ru (ws.getD i.toNat 0)) [] := by
  refine (fspec_intro pk (fn := Tryz.f156) (fun _ _ => rfl) Tryz.func156 rfl (by decide) (cwp_ev pk ?_))
  refine w_br ?_ ?_
  · intro h
    refine w_done (done0 (.inr rfl) rfl (frT_v ?_))
    simp at h
    rw [List.getD_eq_getElem?_getD, List.getElem?_eq_none (by omega)]; rfl
  · intro h
    simp at h
    refine w_chk (by omega) ?_
    refine w_rdv (takeN_one (x := u64 (ws.getD i.toNat 0)) ?_) ?_
    · show (ws.map u64)[i.toNat * 1]? = _
      rw [Nat.mul_one, List.getElem?_map, List.getD_eq_getElem?_getD, List.getElem?_eq_getElem (by omega)]; rfl
    exact w_done (done0 (.inr rfl) rfl (frT_v rfl))
theorem sp_Int (code pc i : Int) (ws ls : List Int) (up : V) (hi : 0 ≤ i) : FSpec Tryz.prog 155 0 [] [frD code pc ws ls up, di i] (ri (ls.getD i.toNat 0)) [] := by
  refine (fspec_intro pk (fn := Tryz.f155) (fun _ _ => rfl) Tryz.func155 rfl (by decide) (cwp_ev pk ?_))
  refine w_br ?_ ?_
  · intro h
    refine w_done (done0 (.inr rfl) rfl (frT_v ?_))
    simp at h
    rw [List.getD_eq_getElem?_getD, List.getElem?_eq_none (by omega)]; rfl
  · intro h
    simp at h
    refine w_chk (by omega) ?_
    refine w_rdv (takeN_one (x := i64 (ls.getD i.toNat 0)) ?_) ?_
    · show (ls.map i64)[i.toNat * 1]? = _
      rw [Nat.mul_one, List.getElem?_map, List.getD_eq_getElem?_getD, List.getElem?_eq_getElem (by omega)]; rfl
    exact w_done (done0 (.inr rfl) rfl (frT_v rfl))
theorem sp_At (code pc pc' : Int) (ws ls : List Int) (up : V) : FSpec Tryz.prog 268 0 [] [frD code pc ws ls up, di pc'] (.d (frD code pc' ws ls up)) [] :=
  fspec_line pk (fn := Tryz.f268) (fun _ _ => rfl) Tryz.func268 rfl rfl rfl (frT_agg (frLs_cons (fr_v rfl) (frLs_cons (fr_v rfl) (frLs_cons (fr_v rfl) (frLs_cons (fr_v rfl) (frLs_cons (fr_v rfl) frLs_nil))))))
theorem sp_Done (kind w : Int) : FSpec Tryz.prog 259 0 [] [di kind, du w] (.d (frD kind (-1) [w] [] noUp)) [] := by
  refine (fspec_intro pk (fn := Tryz.f259) (fun _ _ => rfl) Tryz.func259 rfl (by decide) (cwp_ev pk ?_))
  exact w_done (done0 (.inr rfl) rfl (frT_agg (frLs_cons (fr_v rfl) (frLs_cons (fr_v rfl) (frLs_cons (fr_mc rfl) (frLs_cons (fr_x rfl) (frLs_cons (fr_x rfl) frLs_nil)))))))
def endK (pc code : Int) : Int := if pc = -1 then code else 0
def endV (pc : Int) (ws : List Int) : Int := if pc = -1 then ws.getD 0 0 else 0
def endB (pc : Int) : Bool := pc == -1
abbrev outD (k v : Int) : D := .agg [.v (i64 k), .v (u64 v)]
theorem sp_End (code pc : Int) (ws ls : List Int) (up : V) : FSpec Tryz.prog 260 0 [] [frD code pc ws ls up] (.tup [outD (endK pc code) (endV pc ws), db (endB pc)]) [] := by
  refine (fspec_intro pk (fn := Tryz.f260) (fun _ _ => rfl) Tryz.func260 rfl (by decide) (cwp_ev pk ?_))
  refine w_br ?_ ?_
  · intro h
    simp at h
    have e1 : endK pc code = 0 := if_neg h
    have e2 : endV pc ws = 0 := if_neg h
    have e3 : endB pc = false := by simp [endB, h]
    rw [e1, e2, e3]
    exact w_done (done0 (.inr rfl) rfl (frT_tup (frDs_agg (frLs_cons (fr_v rfl) (frLs_cons (fr_v rfl) frLs_nil)) (frDs_s (fr_v rfl) frDs_nil))))
  · intro h
    simp at h
    subst h
    refine w_call (sp_Word _ _ _ _ _ _ (by decide)) rfl rfl rfl ?_
    refine w_chk ⟨by kernel_rfl, by kernel_rfl⟩ ?_
    exact w_done (done0 (.inr rfl) rfl (frT_tup (frDs_agg (frLs_cons (fr_v rfl) (frLs_cons (fr_v rfl) frLs_nil)) (frDs_s (fr_v rfl) frDs_nil))))
end Gx
