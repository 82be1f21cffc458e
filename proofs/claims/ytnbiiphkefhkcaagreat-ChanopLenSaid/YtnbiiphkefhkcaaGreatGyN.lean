import Derived.Test.YtnbiiphkefhkcaaGreatGyK
import Derived.Test.YtnbiiphkefhkcaaGreatGxS
set_option linter.unusedVariables false
set_option linter.unusedSimpArgs false
set_option maxRecDepth 100000
set_option maxHeartbeats 1000000
namespace Gx
open Go Go.Proofs

/-! the closures that read a frame's lists -/
abbrev vI1 (l : List Int) : Blk := .var [.v (rowI l)]
abbrev vU1 (l : List Int) : Blk := .var [.v (rowU l)]
theorem takeI {l : List Int} {f : Int → V} (n : Nat) (h : n = l.length) : (l.map f).take n = l.map f := by
  subst h; rw [List.take_of_length_le (by simp)]
section
variable {ti : TypeId → Option TI} {rs : List ResultVar} {s : St} {e : Ex}
theorem leafN' {k : Nat} {res : T} {σ' σ'' : List (Nat × Option Blk)} (he : e = .normal ∨ e = .ret) (h : resT ti s rs = some res) (hσ : σ' = σ'') (hs : SameBs s σ' σ') (hc : res.clk σ' = true) (hb : ClB σ' σ') (hl : lowB σ' k = true) : Done ti rs k res σ'' e s := by
  subst hσ; exact leafN he h hs hc hb hl
end
theorem rowTl (f : Int → V) (x : Int) (r : List Int) : V.row ((((x :: r).map f).drop ((1 : Int).toNat * 1)).take (((((x :: r).length : Nat) : Int).toNat - (1 : Int).toNat) * 1)) ((((x :: r).length : Nat) : Int).toNat - (1 : Int).toNat) = .row (r.map f) r.length := by
  have e : (((x :: r).length : Nat) : Int).toNat - (1 : Int).toNat = r.length := by simp
  rw [e, Nat.mul_one]
  show V.row ((r.map f).take r.length) r.length = _
  rw [takeI _ rfl]
theorem sp_get (l : List Int) : FSpec Tryz.prog 145 1 [(0, some (vI1 l))] [.sc (.ptr 0 0)] (ri (l.headD 0)) [(0, some (vI1 l.tail))] := by
  refine (fspec_intro pk (fn := Tryz.f145) (fun _ _ => rfl) Tryz.func145 rfl (by decide) (cwp_ev pk ?_))
  refine w_br (fun h => ?_) fun h => ?_
  · simp at h
    subst h
    exact w_done (leafN (.inr rfl) rfl ⟨rfl, trivial⟩ rfl (clB_of rfl) rfl)
  · simp at h
    obtain ⟨x, r, rfl⟩ := List.exists_cons_of_ne_nil h
    refine w_chk ⟨by decide, by simp⟩ ?_
    refine w_rdv (takeN_one rfl) ?_
    refine w_chk ⟨by decide, by simp; omega, by simp, by simp [tyI3], by decide, fun q h => by cases h⟩ ?_
    exact w_done (leafN' (σ' := [(0, some (.var [.v (.row ((((x :: r).map i64).drop ((1 : Int).toNat * 1)).take (((((x :: r).length : Nat) : Int).toNat - (1 : Int).toNat) * 1)) ((((x :: r).length : Nat) : Int).toNat - (1 : Int).toNat))]))]) (.inr rfl) rfl
      (by rw [rowTl]; rfl) ⟨rfl, trivial⟩ rfl (clB_of rfl) rfl)
theorem sp_word (l : List Int) : FSpec Tryz.prog 146 1 [(0, some (vU1 l))] [.sc (.ptr 0 0)] (ru (l.headD 0)) [(0, some (vU1 l.tail))] := by
  refine (fspec_intro pk (fn := Tryz.f146) (fun _ _ => rfl) Tryz.func146 rfl (by decide) (cwp_ev pk ?_))
  refine w_br (fun h => ?_) fun h => ?_
  · simp at h
    subst h
    exact w_done (leafN (.inr rfl) rfl ⟨rfl, trivial⟩ rfl (clB_of rfl) rfl)
  · simp at h
    obtain ⟨x, r, rfl⟩ := List.exists_cons_of_ne_nil h
    refine w_chk ⟨by decide, by simp⟩ ?_
    refine w_rdv (takeN_one rfl) ?_
    refine w_chk ⟨by decide, by simp; omega, by simp, by simp [tyI23], by decide, fun q h => by cases h⟩ ?_
    exact w_done (leafN' (σ' := [(0, some (.var [.v (.row ((((x :: r).map u64).drop ((1 : Int).toNat * 1)).take (((((x :: r).length : Nat) : Int).toNat - (1 : Int).toNat) * 1)) ((((x :: r).length : Nat) : Int).toNat - (1 : Int).toNat))]))]) (.inr rfl) rfl
      (by rw [rowTl]; rfl) ⟨rfl, trivial⟩ rfl (clB_of rfl) rfl)
theorem sp_getc (x : Int) (r : List Int) : FSpec Tryz.prog 145 1 [(0, some (vI1 (x :: r)))] [.sc (.ptr 0 0)] (ri x) [(0, some (vI1 r))] := sp_get (x :: r)
theorem sp_wordc (x : Int) (r : List Int) : FSpec Tryz.prog 146 1 [(0, some (vU1 (x :: r)))] [.sc (.ptr 0 0)] (ru x) [(0, some (vU1 r))] := sp_word (x :: r)
abbrev gB : Blk := .var [.clo 145 [1]]
theorem sp_flist (xs ys : List Int) : FSpec Tryz.prog 147 2 [(0, some gB), (1, some (vI1 ((xs.length : Int) :: (xs ++ ys))))] [.sc (.ptr 0 0), .sc (.ptr 1 0)] (.d (.sc (.xrow (xs.map i64) xs.length)))
    [(0, some gB), (1, some (vI1 ys))] := by
  refine (fspec_intro pk (fn := Tryz.f147) (fun _ _ => rfl) Tryz.func147 rfl (by decide) (cwp_ev pk ?_))
  refine w_call1 1 (sp_get _) rfl rfl rfl rfl rfl rfl ?_
  have e : (if ((((xs.length : Int) :: (xs ++ ys)).tail.length : Nat) : Int) < (if 0 > ((xs.length : Int) :: (xs ++ ys)).headD 0 then 0 else ((xs.length : Int) :: (xs ++ ys)).headD 0) then ((((xs.length : Int) :: (xs ++ ys)).tail.length : Nat) : Int)
      else (if 0 > ((xs.length : Int) :: (xs ++ ys)).headD 0 then 0 else ((xs.length : Int) :: (xs ++ ys)).headD 0)) = (xs.length : Int) := by
    simp; omega
  conv => arg 2; whnf
  rw [e]
  refine w_chk ⟨by decide, by simp, by simp; omega, by simp [tyI3], by decide, fun q h => by injection h with h; exact h.symm⟩ ?_
  conv => arg 2; whnf
  refine w_chk ⟨by simp, by simp; omega, by simp, by simp [tyI3], by decide, fun q h => by cases h⟩ ?_
  have e1 : V.row ((((xs ++ ys).map i64).drop ((xs.length : Int).toNat * 1)).take (((((xs ++ ys).length : Nat) : Int).toNat - (xs.length : Int).toNat) * 1)) ((((xs ++ ys).length : Nat) : Int).toNat - (xs.length : Int).toNat) = rowI ys := by
    have : (((xs ++ ys).length : Nat) : Int).toNat - (xs.length : Int).toNat = ys.length := by simp; omega
    rw [this, Int.toNat_natCast, Nat.mul_one, Nat.mul_one, List.map_append, List.drop_left' (by simp), takeI _ rfl]; rfl
  have e2 : S.xrow ((((xs ++ ys).map i64).drop ((0 : Int).toNat * 1)).take (((xs.length : Int).toNat - (0 : Int).toNat) * 1)) ((xs.length : Int).toNat - (0 : Int).toNat) = .xrow (xs.map i64) xs.length := by
    simp [List.map_append]
  rw [← e2]
  exact w_done (leafN' (σ' := [(0, some gB), (1, some (.var [.v (.row ((((xs ++ ys).map i64).drop ((xs.length : Int).toNat * 1)).take (((((xs ++ ys).length : Nat) : Int).toNat - (xs.length : Int).toNat) * 1)) ((((xs ++ ys).length : Nat) : Int).toNat - (xs.length : Int).toNat))]))]) (.inr rfl) rfl
      (by rw [e1]) ⟨rfl, rfl, trivial⟩ rfl (clB_of rfl) rfl)
end Gx
