import Derived.Test.YtnbiiphkefhkcaaGreatGxR
set_option linter.unusedVariables false
set_option linter.unusedSimpArgs false
namespace Gx
open Go

/-! ### What a proof about a function uses -/
section
variable {P : Program} {Q : Ex → St → Prop}
theorem w_done {e : Ex} {s : St} (h : Q e s) : WpT P (.done e s) Q := h
theorem w_br {b : Bool} {t e : Tree} (h1 : b = true → WpT P t Q) (h2 : b = false → WpT P e Q) : WpT P (.br b t e) Q := ⟨h1, h2⟩
theorem w_brT {t e : Tree} (h : WpT P t Q) : WpT P (.br true t e) Q := ⟨fun _ => h, (fun h => by cases h)⟩
theorem w_brF {t e : Tree} (h : WpT P e Q) : WpT P (.br false t e) Q := ⟨(fun h => by cases h), fun _ => h⟩
theorem w_ub {p : Prop} {t e : Tree} (h1 : p → WpT P t Q) (h2 : WpT P e Q) : WpT P (.ub p t e) Q := ⟨h1, h2⟩
theorem w_chk {p : Prop} {t : Tree} (h1 : p) (h2 : WpT P t Q) : WpT P (.chk p t) Q := ⟨h1, h2⟩
theorem w_rd {l : List S} {off n : Nat} {k : List S → Tree} {cs : List S} (h1 : takeN l off n = some cs) (h2 : WpT P (k cs) Q) : WpT P (.rd l off n k) Q := ⟨cs, h1, h2⟩
theorem w_rdv {l : List V} {off n : Nat} {k : List V → Tree} {cs : List V} (h1 : takeN l off n = some cs) (h2 : WpT P (k cs) Q) : WpT P (.rdv l off n k) Q := ⟨cs, h1, h2⟩
theorem w_code {c : Code} {s : St} {k : Ex → St → Tree} {J : Ex → St → Prop} (h1 : CWp P c s J) (h2 : ∀ e s', J e s' → WpT P (k e s') Q) : WpT P (.code c s k) Q := ⟨J, h1, h2⟩
theorem w_run {ti : TypeId → Option TI} (hP : PK P ti) {c : Code} {s : St} {k : Ex → St → Tree} (h : WpT P (ev ti c s k) Q) : WpT P (.code c s k) Q := ⟨_, ev_ok hP c s k h, fun _ _ h => h⟩
/-- A call that turns no block of the caller. -/
theorem w_call {f : FuncId} {args : List D} {res : T} {s : St} {nm : Nat} {k : T → List (Nat × Option Blk) → List Nat → Tree}
    (hs : FSpec P f 0 [] args res []) (ha : args.all (fun x => x.cl []) = true) (hr : res.rn [] = res) (hargs : args.map (D.rn []) = args) (h : WpT P (k res [] []) Q) : WpT P (.call f args s nm k) Q := by
  have hc : CallIn [] s 0 [] [] := by
    refine ⟨⟨fun b b' h => by simp [look] at h, fun b b' h => by simp [swp, look] at h⟩, fun b h => absurd rfl h, fun b h => absurd rfl h, fun b b' h => by simp [look] at h, fun b b' h => by simp [look] at h, fun b => ⟨fun h => absurd rfl h, fun h => absurd h (by omega)⟩, fun b h => absurd rfl h⟩
  have := callOK_of_spec hs hc (by simpa using ha)
  rw [hargs, hr] at this
  exact ⟨res, [], [], this, fun b hb => by simp at hb, h⟩
end

section
variable {σ σ' : List (Nat × Option Blk)}
theorem fr_v {x y : V} (h : x = y) : FrS σ σ' (.v x) (.v y) := by subst h; exact .inr rfl
theorem fr_x {cs : List V} {n : Nat} {y : V} (h : V.row cs n = y) : FrS σ σ' (.xrow cs n) (.v y) := by subst h; exact .inr (.inr rfl)
theorem fr_xx {cs cs' : List V} {n n' : Nat} (h : cs = cs') (h' : n = n') : FrS σ σ' (.xrow cs n) (.xrow cs' n') := by subst h; subst h'; exact .inr (.inl rfl)
theorem fr_p {b off : Nat} (h : look σ' b ≠ none) : FrS σ σ' (.ptr b off) (.ptr b off) := .inr ⟨rfl, h⟩
theorem fr_any {x : S} : FrS σ σ' x .any := by cases x <;> first | exact .inl rfl | exact rfl
theorem fr_m {b off len es : Nat} {sp : Option Nat} {ex : Bool} {y : V} (n : Nat) (h : FrV σ σ' n (.mrow b off len sp es ex) y) : FrS σ σ' (.mrow b off len sp es ex) (.v y) := .inr (.inr (.inl ⟨n, y, h, rfl⟩))
theorem fr_mk {b off len es : Nat} {sp : Option Nat} {ex : Bool} (h : look σ' b ≠ none) : FrS σ σ' (.mrow b off len sp es ex) (.mrow b off len sp es ex) := .inr (.inl ⟨rfl, h⟩)
theorem fr_mx {b off len es : Nat} {cs : List V} (n : Nat) (h : FrV σ σ' n (.mrow b off len none es true) (.row cs len)) : FrS σ σ' (.mrow b off len none es true) (.xrow cs len) := .inr (.inr (.inr ⟨rfl, rfl, n, cs, h, rfl⟩))
def FrLs (σ σ' : List (Nat × Option Blk)) : List S → List S → Prop
  | [], [] => True
  | x :: l, y :: m => FrS σ σ' x y ∧ FrLs σ σ' l m
  | _, _ => False
theorem frLs_of : ∀ {l m : List S}, FrLs σ σ' l m → m.length = l.length ∧ FrL σ σ' l m
  | [], [], _ => ⟨rfl, Nat.le_refl _, fun i y h => by simp at h⟩
  | [], _ :: _, h => h.elim
  | _ :: _, [], h => h.elim
  | x :: l, y :: m, h => by
    obtain ⟨h1, h2, h3⟩ := frLs_of h.2
    refine ⟨by simp [h1], by simp [h1], fun i z hi => ?_⟩
    cases i with
    | zero => simp at hi; subst hi; exact ⟨x, rfl, h.1⟩
    | succ i => simpa using h3 i z (by simpa using hi)
def FrD' (σ σ' : List (Nat × Option Blk)) : D → D → Prop
  | .sc x, .sc y => FrS σ σ' x y
  | .agg l, .agg m => FrLs σ σ' l m
  | _, _ => False
theorem frD'_of {x y : D} (h : FrD' σ σ' x y) : FrD σ σ' x y := by
  cases x <;> cases y
  · exact ⟨_, rfl, h⟩
  · exact h.elim
  · exact h.elim
  · exact .inr ⟨_, rfl, (frLs_of h).1, (frLs_of h).2⟩
def FrDs (σ σ' : List (Nat × Option Blk)) : List D → List D → Prop
  | [], [] => True
  | x :: l, y :: m => FrD' σ σ' x y ∧ FrDs σ σ' l m
  | _, _ => False
theorem frDs_of : ∀ {l m : List D}, FrDs σ σ' l m → m.length = l.length ∧ ∀ (i : Nat) y, m[i]? = some y → ∃ x, l[i]? = some x ∧ FrD σ σ' x y
  | [], [], _ => ⟨rfl, fun i y h => by simp at h⟩
  | [], _ :: _, h => h.elim
  | _ :: _, [], h => h.elim
  | x :: l, y :: m, h => by
    obtain ⟨h1, h3⟩ := frDs_of h.2
    refine ⟨by simp [h1], fun i z hi => ?_⟩
    cases i with
    | zero => simp at hi; subst hi; exact ⟨x, rfl, frD'_of h.1⟩
    | succ i => simpa using h3 i z (by simpa using hi)
def FrT' (σ σ' : List (Nat × Option Blk)) : T → T → Prop
  | .d x, .d y => FrD' σ σ' x y
  | .tup l, .tup m => FrDs σ σ' l m
  | _, _ => False
theorem frT'_of {x y : T} (h : FrT' σ σ' x y) : FrT σ σ' x y := by
  cases x <;> cases y
  · exact ⟨_, rfl, frD'_of h⟩
  · exact h.elim
  · exact h.elim
  · exact .inr ⟨_, rfl, (frDs_of h).1, (frDs_of h).2⟩
theorem frB_nil : FrB σ [] 0 := ⟨fun b bl h => by simp [look] at h, fun b h => absurd rfl h, fun b h => absurd h (by omega)⟩
def FrBs (σ σ' : List (Nat × Option Blk)) : List (Nat × Option Blk) → Prop
  | [] => True
  | (b, some bl') :: r => (∃ bl, look σ b = some (some bl) ∧ FrLs σ σ' bl.l bl'.l) ∧ FrBs σ σ' r
  | (b, none) :: r => (∃ x, look σ b = some x) ∧ FrBs σ σ' r
def lowB (σ : List (Nat × Option Blk)) : Nat → Bool
  | 0 => true
  | n + 1 => isL σ n && lowB σ n
theorem lowB_of {σ : List (Nat × Option Blk)} : ∀ {n : Nat}, lowB σ n = true → ∀ b, b < n → look σ b ≠ none
  | 0, _, b, h => absurd h (by omega)
  | n + 1, h, b, hb => by
    simp only [lowB, Bool.and_eq_true] at h
    by_cases e : b = n
    · subst e
      unfold isL at h
      intro hn
      rw [hn] at h
      simp at h
    · exact lowB_of h.2 b (by omega)
theorem frBs_mem : ∀ {l : List (Nat × Option Blk)}, FrBs σ σ' l → ∀ b x, look l b = some x → match x with
    | some bl' => ∃ bl, look σ b = some (some bl) ∧ FrL σ σ' bl.l bl'.l
    | none => look σ b ≠ none
  | [], _, b, x, h => by simp [look] at h
  | (j, o) :: r, hf, b, x, h => by
    rw [look_cons] at h
    split at h
    · rename_i e; subst e
      injection h with h; subst h
      cases o with
      | none => obtain ⟨⟨x, h1⟩, _⟩ := hf; simp [h1]
      | some bl' => obtain ⟨⟨bl, h1, h2⟩, _⟩ := hf; exact ⟨bl, h1, (frLs_of h2).2⟩
    · cases o with
      | none => exact frBs_mem hf.2 b x h
      | some bl' => exact frBs_mem hf.2 b x h
theorem frB_of {k : Nat} (h : FrBs σ σ' σ') (hk : lowB σ' k = true) : FrB σ σ' k := by
  refine ⟨fun b bl' hb => frBs_mem h b _ hb, fun b hb => ?_, fun b hb _ => lowB_of hk b hb⟩
  obtain ⟨x, hx⟩ := Option.ne_none_iff_exists'.1 hb
  have := frBs_mem h b x hx
  cases x with
  | none => exact this
  | some bl' => obtain ⟨bl, h1, _⟩ := this; simp [h1]
end

theorem takeN_all {α : Type} (l : List α) (n : Nat) (h : n = l.length) : takeN l 0 n = some l := by
  subst h; unfold takeN; simp
/-! freezing a row -/
def deadB (σ : List (Nat × Option Blk)) (b : Nat) : Bool := match look σ b with | some (some _) => false | _ => true
theorem deadB_of {σ : List (Nat × Option Blk)} {b : Nat} (h : deadB σ b = true) : ∀ l, look σ b ≠ some (some l) := fun l e => by
  unfold deadB at h; rw [e] at h; cases h
def frVs (f : S → Option V) : List S → Option (List V)
  | [] => some []
  | s :: l => match f s, frVs f l with
    | some x, some m => some (x :: m)
    | _, _ => none
def frVc (σ σ' : List (Nat × Option Blk)) : Nat → S → Option V
  | _, .v x => some x
  | _, .xrow cs n => some (.row cs n)
  | n + 1, .mrow b off len sp es ex => match look σ b, deadB σ' b with
    | some (some bl), true => match takeN bl.l off (len * es) with
      | some cs => match frVs (frVc σ σ' n) cs with
        | some [] => if Nat.beq len 0 then some (.row [] len) else none
        | some (v :: vs) => some (.row (v :: vs) len)
        | none => none
      | none => none
    | _, _ => none
  | _, _ => none
theorem frVc_ok {σ σ' : List (Nat × Option Blk)} : ∀ {n : Nat} {s : S} {y : V}, frVc σ σ' n s = some y → FrV σ σ' n s y := by
  have hl : ∀ (f : S → Option V) (R : S → V → Prop), (∀ s y, f s = some y → R s y) → ∀ l m, frVs f l = some m → FrVs R l m := by
    intro f R hf l
    induction l with
    | nil => intro m h; simp only [frVs] at h; injection h with h; subst h; trivial
    | cons s l ih =>
      intro m h
      simp only [frVs] at h
      split at h
      · rename_i x m' hx hm
        injection h with h; subst h
        exact ⟨hf _ _ hx, ih _ hm⟩
      · cases h
  intro n
  induction n with
  | zero =>
    intro s y h
    cases s <;> simp only [frVc] at h <;> first | (injection h with h; subst h; rfl) | cases h
  | succ n ih =>
    intro s y h
    cases s <;> simp only [frVc] at h <;> try first | (injection h with h; subst h; rfl) | cases h
    rename_i b off len sp es ex
    split at h
    · rename_i bl hb hd
      split at h
      · rename_i cs hcs
        split at h
        · rename_i hv
          split at h
          · rename_i h0
            injection h with h; subst h
            have : len = 0 := Nat.eq_of_beq_eq_true h0
            exact ⟨bl, cs, [], rfl, hb, deadB_of hd, hcs, hl (frVc σ σ' n) (FrV σ σ' n) (fun s y h => ih h) _ _ hv, fun h => by omega⟩
          · cases h
        · rename_i v vs hv
          injection h with h; subst h
          exact ⟨bl, cs, _, rfl, hb, deadB_of hd, hcs, hl (frVc σ σ' n) (FrV σ σ' n) (fun s y h => ih h) _ _ hv, fun _ => by simp⟩
        · cases h
      · cases h
    · cases h
theorem fr_mc {σ σ' : List (Nat × Option Blk)} {b off len es : Nat} {sp : Option Nat} {ex : Bool} {y : V} (h : frVc σ σ' 3 (.mrow b off len sp es ex) = some y) : FrS σ σ' (.mrow b off len sp es ex) (.v y) := fr_m 3 (frVc_ok h)
theorem FrVs_map {R : S → V → Prop} (h : ∀ x, R (.v x) x) : ∀ vs : List V, FrVs R (vs.map S.v) vs
  | [] => trivial
  | x :: vs => ⟨h x, FrVs_map h vs⟩
theorem frV_map {σ σ' : List (Nat × Option Blk)} {b len es : Nat} {sp : Option Nat} {ex : Bool} {vs : List V} {bl : Blk} (hb : look σ b = some (some bl)) (hl : bl.l = vs.map S.v) (hd : deadB σ' b = true)
    (hn : len * es = vs.length) (h0 : 0 < len → vs ≠ []) : FrV σ σ' 1 (.mrow b 0 len sp es ex) (.row vs len) := by
  refine ⟨bl, vs.map S.v, vs, rfl, hb, deadB_of hd, ?_, FrVs_map (fun x => rfl) vs, h0⟩
  rw [hl, hn]
  exact takeN_all _ _ (by simp)
theorem fr_mv {σ σ' : List (Nat × Option Blk)} {b len es : Nat} {sp : Option Nat} {ex : Bool} {vs : List V} {bl : Blk} (hb : look σ b = some (some bl)) (hl : bl.l = vs.map S.v) (hd : deadB σ' b = true)
    (hn : len * es = vs.length) (h0 : 0 < len → vs ≠ []) : FrS σ σ' (.mrow b 0 len sp es ex) (.v (.row vs len)) := fr_m 1 (frV_map hb hl hd hn h0)

theorem takeN_one {α : Type} {l : List α} {i : Nat} {x : α} (h : l[i]? = some x) : takeN l i 1 = some [x] := by
  unfold takeN
  have h1 : i < l.length := (List.getElem?_eq_some_iff.1 h).1
  have : Nat.ble (i + 1) l.length = true := Nat.ble_eq_true_of_le (by omega)
  rw [if_pos this]
  have h2 := (List.getElem?_eq_some_iff.1 h).2
  rw [List.drop_eq_getElem_cons h1, h2]
  simp

theorem fr_mw {σ σ' : List (Nat × Option Blk)} {b len es : Nat} {sp : Option Nat} {ex : Bool} {y : V} (vs : List V) {bl : Blk} (hb : look σ b = some (some bl)) (hd : deadB σ' b = true) (hl : bl.l = vs.map S.v)
    (hn : len * es = vs.length) (h0 : 0 < len → vs ≠ []) (hy : V.row vs len = y) : FrS σ σ' (.mrow b 0 len sp es ex) (.v y) := by subst hy; exact fr_mv hb hl hd hn h0
/-! the loops of a function, from the text's beginning, an outer one ahead of its inner ones -/
def loops : Code → List Code
  | .seq a b => loops a ++ loops b
  | .cond _ a b => loops a ++ loops b
  | .block _ a => loops a
  | .loop a => a :: loops a
  | .scope a => loops a
  | _ => []
def loopN (f : Func) (i : Nat) : Code := match f.body with
  | some c => (loops c).getD i .skip
  | none => .skip

/-! ### Keeping some temporaries and blocks -/
def S.clk (σ : List (Nat × Option Blk)) : S → Bool
  | .ptr b _ => isL σ b
  | .mrow b _ _ _ _ _ => isL σ b
  | .clo _ bs => bs.all (isL σ)
  | _ => true
def D.clk (σ : List (Nat × Option Blk)) : D → Bool
  | .sc s => s.clk σ
  | .agg l => l.all (S.clk σ)
def T.clk (σ : List (Nat × Option Blk)) : T → Bool
  | .d x => x.clk σ
  | .tup l => l.all (D.clk σ)
theorem isL_of {σ : List (Nat × Option Blk)} {b : Nat} (h : isL σ b = true) : look σ b ≠ none := fun e => by unfold isL at h; rw [e] at h; cases h
theorem fr_same {σ σ' : List (Nat × Option Blk)} {x : S} (h : x.clk σ' = true) : FrS σ σ' x x := by
  cases x with
  | v x => exact .inr rfl
  | xrow cs n => exact .inr (.inl rfl)
  | ptr b off => exact .inr ⟨rfl, isL_of h⟩
  | eptr cs off => exact .inr rfl
  | mrow b off len sp es ex => exact .inr (.inl ⟨rfl, isL_of h⟩)
  | clo f bs => exact .inr ⟨rfl, fun b hb => isL_of (by simp only [S.clk, List.all_eq_true] at h; exact h b hb)⟩
  | keep b off => exact .inr rfl
  | ub p => exact .inr rfl
  | any => rfl
theorem frL_same {σ σ' : List (Nat × Option Blk)} {l : List S} (h : ∀ x, x ∈ l → x.clk σ' = true) : FrL σ σ' l l := ⟨Nat.le_refl _, fun i y hi => ⟨y, hi, fr_same (h y (List.mem_of_getElem? hi))⟩⟩
theorem frD_same {σ σ' : List (Nat × Option Blk)} {x : D} (h : x.clk σ' = true) : FrD σ σ' x x := by
  cases x with
  | sc s => exact ⟨s, rfl, fr_same h⟩
  | agg l => exact .inr ⟨l, rfl, rfl, frL_same (by simpa [D.clk] using h)⟩
theorem frT_same {σ σ' : List (Nat × Option Blk)} {x : T} (h : x.clk σ' = true) : FrT σ σ' x x := by
  cases x with
  | d x => exact ⟨x, rfl, frD_same h⟩
  | tup l =>
    simp only [T.clk, List.all_eq_true] at h
    exact .inr ⟨l, rfl, rfl, fun i y hi => ⟨y, hi, frD_same (h y (List.mem_of_getElem? hi))⟩⟩
section
variable {P : Program} {ti : TypeId → Option TI}
/-- The end of a function that turns no block. -/
theorem done0 {rs : List ResultVar} {res r0 : T} {e : Ex} {s : St} (he : e = .normal ∨ e = .ret) (h : resT ti s rs = some r0) (hf : FrT' s.σ [] r0 res) : Done ti rs 0 res [] e s :=
  ⟨he, r0, h, frT'_of hf, frB_nil⟩
theorem done_eq {rs : List ResultVar} {res r0 : T} {e : Ex} {s : St} (he : e = .normal ∨ e = .ret) (h : resT ti s rs = some r0) (hc : r0.clk [] = true) (hx : r0 = res) : Done ti rs 0 res [] e s := by
  subst hx; exact ⟨he, r0, h, frT_same hc, frB_nil⟩
theorem doneK {rs : List ResultVar} {res r0 : T} {e : Ex} {s : St} {k : Nat} {σ' : List (Nat × Option Blk)} (he : e = .normal ∨ e = .ret) (h : resT ti s rs = some r0) (hf : FrT' s.σ σ' r0 res)
    (hb : FrBs s.σ σ' σ') (hl : lowB σ' k = true) : Done ti rs k res σ' e s :=
  ⟨he, r0, h, frT'_of hf, frB_of hb hl⟩
end

def pickT (σ' : List (Nat × Option Blk)) (t : List (Nat × T)) : List Nat → Option (List (Nat × T))
  | [] => some []
  | i :: r => match look t i, pickT σ' t r with
    | some x, some l => match x.clk σ' with
      | true => some ((i, x) :: l)
      | false => none
    | _, _ => none
def pickB (σ : List (Nat × Option Blk)) : List Nat → Option (List (Nat × Option Blk))
  | [] => some []
  | b :: r => match look σ b, pickB σ r with
    | some x, some l => some ((b, x) :: l)
    | _, _ => none
def ClB (σ' : List (Nat × Option Blk)) : List (Nat × Option Blk) → Prop
  | [] => True
  | (_, some bl) :: r => (∀ x, x ∈ bl.l → x.clk σ' = true) ∧ ClB σ' r
  | (_, none) :: r => ClB σ' r
def clB (σ' : List (Nat × Option Blk)) : List (Nat × Option Blk) → Bool
  | [] => true
  | (_, some bl) :: r => bl.l.all (S.clk σ') && clB σ' r
  | (_, none) :: r => clB σ' r
theorem clB_of {σ' : List (Nat × Option Blk)} : ∀ {l : List (Nat × Option Blk)}, clB σ' l = true → ClB σ' l
  | [], _ => trivial
  | (_, some bl) :: r, h => by
    simp only [clB, Bool.and_eq_true, List.all_eq_true] at h
    exact ⟨h.1, clB_of h.2⟩
  | (_, none) :: r, h => clB_of (l := r) h
def lowOK (σ σ' : List (Nat × Option Blk)) : Bool := σ.all fun p => Nat.ble 64 p.1 || isL σ' p.1
def St.pick (s : St) (ts ns : List Nat) (nx : Nat) : Option St :=
  match pickB s.σ ns with
  | some σ' => match pickT σ' s.t ts, lowOK s.σ σ' with
    | some t', true => some ⟨t', σ', nx, s.m⟩
    | _, _ => none
  | none => none
theorem pickT_look {σ' : List (Nat × Option Blk)} {t : List (Nat × T)} : ∀ {ts : List Nat} {t' : List (Nat × T)}, pickT σ' t ts = some t' → ∀ i y, look t' i = some y → look t i = some y ∧ y.clk σ' = true
  | [], t', h, i, y, hy => by simp only [pickT] at h; injection h with h; subst h; simp [look] at hy
  | j :: r, t', h, i, y, hy => by
    simp only [pickT] at h
    split at h
    · rename_i x l hx hl
      split at h
      · rename_i hc
        injection h with h; subst h
        rw [look_cons] at hy
        split at hy
        · rename_i e; subst e; injection hy with hy; subst hy; exact ⟨hx, hc⟩
        · exact pickT_look hl i y hy
      · cases h
    · cases h
theorem pickB_look {σ : List (Nat × Option Blk)} : ∀ {ns : List Nat} {σ' : List (Nat × Option Blk)}, pickB σ ns = some σ' → ∀ b x, look σ' b = some x → look σ b = some x
  | [], σ', h, b, x, hy => by simp only [pickB] at h; injection h with h; subst h; simp [look] at hy
  | j :: r, σ', h, b, x, hy => by
    simp only [pickB] at h
    split at h
    · rename_i y l hx hl
      injection h with h; subst h
      rw [look_cons] at hy
      split at hy
      · rename_i e; subst e; injection hy with hy; subst hy; exact hx
      · exact pickB_look hl b x hy
    · cases h
theorem ClB_look {σ' : List (Nat × Option Blk)} : ∀ {l : List (Nat × Option Blk)}, ClB σ' l → ∀ b bl, look l b = some (some bl) → ∀ x, x ∈ bl.l → x.clk σ' = true
  | [], _, b, bl, h => by simp [look] at h
  | (j, some bl') :: r, hc, b, bl, h => by
    rw [look_cons] at h
    split at h
    · injection h with h; injection h with h; subst h; exact hc.1
    · exact ClB_look hc.2 b bl h
  | (j, none) :: r, hc, b, bl, h => by
    rw [look_cons] at h
    split at h
    · injection h with h; cases h
    · exact ClB_look (l := r) hc b bl h
theorem pick_imp {s s0 : St} (ts ns : List Nat) (nx : Nat) (h : s.pick ts ns nx = some s0) (hc : ClB s0.σ s0.σ) : Imp s s0 := by
  unfold St.pick at h
  split at h
  · rename_i σ' hB
    split at h
    · rename_i t' hT hlow
      injection h with h; subst h
      refine Frz.imp ⟨rfl, fun i y hy => ?_, fun b bl hb => ?_, fun b hb => ?_, fun b hb hn => ?_⟩
      · obtain ⟨h1, h2⟩ := pickT_look hT i y hy
        exact ⟨y, h1, frT_same h2⟩
      · exact ⟨bl, pickB_look hB b _ hb, frL_same (ClB_look hc b bl hb)⟩
      · obtain ⟨x, hx⟩ := Option.ne_none_iff_exists'.1 hb
        rw [pickB_look hB b x hx]; simp
      · unfold lowOK at hlow
        rw [List.all_eq_true] at hlow
        obtain ⟨x, hx⟩ := Option.ne_none_iff_exists'.1 hn
        have := hlow _ (look_mem hx)
        simp only [Bool.or_eq_true] at this
        rcases this with h | h
        · have := Nat.le_of_ble_eq_true h; omega
        · exact isL_of h
    · cases h
  · cases h

/-- Up to forgetting. -/
def Up (J : Ex → St → Prop) : Ex → St → Prop := fun e s => ∃ s', Imp s s' ∧ J e s'
theorem CWp.out {P : Program} {c : Code} {s : St} {J : Ex → St → Prop} (h : CWp P c s (Up J)) : CWp P c s J := fun cx hk μ A w g Q hQ => by
  refine h cx hk μ A w g Q ?_
  rintro e s' μ' A' w' ⟨s'', hi, hj⟩ g'
  obtain ⟨μ'', g''⟩ := hi cx hk μ' A' w' g'
  exact hQ e s'' μ'' A' w' hj g''
theorem cwp_loop_up {P : Program} {b : Code} {s : St} {J : Ex → St → Prop} {n : Nat} (h : Lp P b n s (Up J)) : CWp P (.loop b) s J := (cwp_loop h).out
theorem lp_step {P : Program} {ti : TypeId → Option TI} (hP : PK P ti) {b : Code} {n : Nat} {s : St} {J : Ex → St → Prop}
    (h : WpT P (ev ti b s fun e s' => .done e s') fun e s' => match e with
      | .normal => Lp P b n s' J
      | e => J e s') : Lp P b (n + 1) s J := cwp_ev hP h
theorem up_of {J : Ex → St → Prop} {e : Ex} {s s0 : St} (ts ns : List Nat) (nx : Nat) (h : s.pick ts ns nx = some s0) (hc : ClB s0.σ s0.σ) (hj : J e s0) : Up J e s := ⟨s0, pick_imp ts ns nx h hc, hj⟩
theorem lp_pick {P : Program} {b : Code} {n : Nat} {s s0 : St} {J : Ex → St → Prop} (ts ns : List Nat) (nx : Nat) (h : s.pick ts ns nx = some s0) (hc : ClB s0.σ s0.σ) (hl : Lp P b n s0 J) : Lp P b n s J := Lp.imp (pick_imp ts ns nx h hc) hl
theorem cwp_pick {P : Program} {c : Code} {s s0 : St} {J : Ex → St → Prop} (ts ns : List Nat) (nx : Nat) (h : s.pick ts ns nx = some s0) (hc : ClB s0.σ s0.σ) (hl : CWp P c s0 J) : CWp P c s J := (pick_imp ts ns nx h hc).cwp hl
end Gx
