/- Parts of the proof: Dpr, Dpk. -/
import Derived.Test.YtoogmimbmgdflaaGreatY15
namespace Go.Proofs.YtoogmimbmgdflaaGreat
open Go.RowKit
theorem mayO_un (a : O) : mayO (unO a) = mayO a := rfl
def getK : List (O × O) → O → Option O
 | [], _ => none
 | p :: ps, k => if sameO p.1 k = true then some p.2 else getK ps k
def setK : List (O × O) → O → O → List (O × O)
 | [], k, v => [(k, v)]
 | p :: ps, k, v => if sameO p.1 k = true then (p.1, v) :: ps else p :: setK ps k v
def dropK : List (O × O) → O → List (O × O)
 | [], _ => []
 | p :: ps, k => if sameO p.1 k = true then ps else p :: dropK ps k
theorem place_cons {ps : List (O × O)} {k : O} {r : Nat} {b : Bool} (p : O × O) (h : sameO p.1 k = false) (hP : PlaceS ps k r b) : PlaceS (p :: ps) k (if b = true then r + 1 else 0) b := by
 rcases hP with ⟨rfl, ⟨q, hq, hs⟩, hn⟩ | ⟨rfl, rfl, hn⟩
 · refine .inl ⟨rfl, ⟨q, by simpa using hq, hs⟩, fun j x hj hx => ?_⟩
   cases j with
   | zero => simp at hx; subst hx; exact h
   | succ j => exact hn j x (by simp at hj; omega) (by simpa using hx)
 · refine .inr ⟨rfl, by simp, fun j x hx => ?_⟩
   cases j with
   | zero => simp at hx; subst hx; exact h
   | succ j => exact hn j x (by simpa using hx)
theorem place_at (ps : List (O × O)) (k v : O) : ∃ r b, PlaceS ps k r b ∧
 ((b = true ∧ ∃ kk u, ps[r]? = some (kk, u) ∧ ps.set r (kk, v) = setK ps k v ∧ ps.eraseIdx r = dropK ps k ∧ getK ps k = some u) ∨
  (b = false ∧ getK ps k = none ∧ setK ps k v = ps ++ [(k, v)] ∧ dropK ps k = ps)) := by
 induction ps with
 | nil => exact ⟨0, false, .inr ⟨rfl, rfl, fun j p h => by simp at h⟩, .inr ⟨rfl, rfl, rfl, rfl⟩⟩
 | cons p ps ih =>
  by_cases h : sameO p.1 k = true
  · exact ⟨0, true, .inl ⟨rfl, ⟨p, rfl, h⟩, fun j q hj => absurd hj (by omega)⟩, .inl ⟨rfl, p.1, p.2, rfl, by simp [setK, h], by simp [dropK, h], by simp [getK, h]⟩⟩
  · obtain ⟨r, b, hP, hQ⟩ := ih; refine ⟨_, b, place_cons p (by simpa using h) hP, ?_⟩
    rcases hQ with ⟨rfl, kk, u, h1, h2, h3, h4⟩ | ⟨rfl, h1, h2, h3⟩
    · exact .inl ⟨rfl, kk, u, by simpa using h1, by simp [setK, h, h2], by simp [dropK, h, h3], by simp [getK, h, h4]⟩
    · exact .inr ⟨rfl, by simp [getK, h, h1], by simp [setK, h, h2], by simp [dropK, h, h3]⟩
theorem at_dsetK {w0 w : World} {hp : Nat} {L : List C} {M : List (Nat × List C)} {K : List (Nat × Obj)} (A : Ats w0 w ((hp, L) :: M) K) (N : Nat) (ps : List (O × O)) (room : Nat) (D : DicAt L N (dcell ps room)) (h : ps.length < room) (hr : room ≤ 1000) (hf : ps.length < 256)
 (k v : O) {key : O} (hk : keyD L k = (key, 0)) (hmv : mayH L v = true) (hmk : mayH L key = true) :
 Calls Tryz.prog 27 #[ptr hp, (dicO N).val, k.val, v.val] w fun x w' => x = .returned (.int .i64 0) ∧ Ats w0 w' ((hp, L.set N (dcell (setK ps key v) room)) :: M) K := by
 obtain ⟨r, b, hP, hQ⟩ := place_at ps key v; refine at_dset A N ps room D (by omega) hr hf k v hk hmv hmk r b hP ?_
 rcases hQ with ⟨rfl, kk, u, h1, h2, -, -⟩ | ⟨rfl, -, h2, -⟩
 · exact .inl ⟨rfl, rfl, kk, u, h1, by rw [h2]⟩
 · exact .inr (.inl ⟨rfl, h, rfl, by rw [h2]⟩)
theorem at_dgetK {lk : Bool} {w0 w : World} {hp : Nat} {L : List C} {M : List (Nat × List C)} {K : List (Nat × Obj)} (A : Ats w0 w M K) (hm : (hp, L) ∈ M) (N : Nat) (ps : List (O × O)) (room : Nat) (D : DicAt L N (dcellk lk ps room)) (h : ps.length ≤ room) (hr : room ≤ 1000) (hf : ps.length < 256)
 (k : O) {key : O} (hk : keyD L k = (key, 0)) (v : O) (e : Int) (hv : (getK ps key = some v ∧ e = 0) ∨ (getK ps key = none ∧ v = O.nil ∧ e = 9)) :
 Calls Tryz.prog 78 #[ptr hp, (dicO N).val, k.val] w fun x w' => x = .returned (.tuple #[v.val, .int .i64 e]) ∧ Ats w0 w' M K := by
 obtain ⟨r, b, hP, hQ⟩ := place_at ps key O.nil
 rcases hQ with ⟨rfl, kk, u, h1, -, -, h2⟩ | ⟨rfl, h2, -, -⟩
 · rcases hv with ⟨h3, rfl⟩ | ⟨h3, -⟩
   · obtain rfl : u = v := by rw [h2] at h3; exact Option.some.inj h3
     exact at_dgetSome A hm N ps room D h hr hf k hk r hP kk u h1
   · rw [h2] at h3; simp at h3
 · rcases hv with ⟨h3, -⟩ | ⟨-, rfl, rfl⟩
   · rw [h2] at h3; simp at h3
   · exact at_dgetNone A hm N ps room D h hr hf k hk r hP
end Go.Proofs.YtoogmimbmgdflaaGreat
