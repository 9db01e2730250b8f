/- dict.Set, Drop and Get, as what they make of a list of pairs. -/
import Derived.Test.YtgllgemjfpiogaaDpr
namespace Go.Proofs.Ytgllgemjfpiogaa
open Go.RowKit

theorem m0 {α : Type} {a : α} {l : List α} : a ∈ a :: l := List.mem_cons_self ..
theorem m1 {α : Type} {a b : α} {l : List α} : a ∈ b :: a :: l := List.mem_cons_of_mem _ m0
theorem m2 {α : Type} {a b c : α} {l : List α} : a ∈ b :: c :: a :: l := List.mem_cons_of_mem _ m1
theorem m3 {α : Type} {a b c d : α} {l : List α} : a ∈ b :: c :: d :: a :: l := List.mem_cons_of_mem _ m2
theorem m4 {α : Type} {a b c d e : α} {l : List α} : a ∈ b :: c :: d :: e :: a :: l := List.mem_cons_of_mem _ m3
theorem m5 {α : Type} {a b c d e f : α} {l : List α} : a ∈ b :: c :: d :: e :: f :: a :: l := List.mem_cons_of_mem _ m4

set_option maxRecDepth 100000 in
set_option maxHeartbeats 8000000 in
theorem at_ddropNot {w0 w : World} {hp : Nat} {L : List C} {M : List (Nat × List C)} {K : List (Nat × Obj)} (A : Ats w0 w M K) (hm : (hp, L) ∈ M) (N : Nat) (ps : List (O × O)) (room : Nat) (D : DicAt L N (dcell ps room)) (h : ps.length ≤ room) (hr : room ≤ 1000) (hf : ps.length < 256)
    (k : O) {key : O} {e : Int} (hk : keyD L k = (key, e)) (hp1 : e = 0 → PlaceS ps key 0 false) :
    Calls Try.prog 15 #[ptr hp, (dicO N).val, k.val] w fun x w' => x = .returned (.int .i64 e) ∧ Ats w0 w' M K := by
  have HL := fun {w' : World} {K' : List (Nat × Obj)} (A' : Ats w0 w' M K') => at_look A' hm N ps room D h hr hf k hk 0 false hp1 (fun _ => ⟨rfl, rfl⟩)
  obtain ⟨kk, kx, kn, kp, kl, ks⟩ := k
  obtain ⟨ck, cx, cn, cp, cl, cs⟩ := key
  have A1 := (A.alloc (.cells #[.int .i64 10, .bool false, .int .i64 N, .int .i64 0, .int .i64 0, .string ⟨#[]⟩] 28)).alloc (.cells #[.int .i64 kk, .bool kx, .int .i64 kn, .int .i64 kp, .int .i64 kl, .string ks] 28)
  simp only [World.size_alloc] at A1
  clear hk hp1
  by_cases he : e = 0
  · subst he
    go_enter Try.func15, Try.ntmps15
    go_wp2_with fail
    refine (HL A1).mono ?_
    rintro x w2 ⟨rfl, A2⟩
    clear HL A1
    go_wp2
    go_ret
    exact ⟨rfl, (A2.pure ((Chg.refl NoB w2).alloc _)).loses (K1 := [_, _]) (Chg.refl _ _)⟩
  · have he' : (e != 0) = true := by simpa using he
    go_enter Try.func15, Try.ntmps15
    go_wp2_with fail
    refine (HL A1).mono ?_
    rintro x w2 ⟨rfl, A2⟩
    clear HL A1
    go_wp2
    go_ret
    exact ⟨rfl, (A2.pure ((Chg.refl NoB w2).alloc _)).loses (K1 := [_, _]) (Chg.refl _ _)⟩

theorem DicAt.self {L : List C} {N : Nat} {c : C} (D : DicAt L N c) : L.set N c = L := by
  apply List.ext_getElem?
  intro j
  rw [List.getElem?_set]
  by_cases hj : N = j
  · subst hj; rw [if_pos rfl, if_pos D.lt]; exact D.cell.symm
  · rw [if_neg hj]
theorem at_dsetK {w0 w : World} {hp : Nat} {L : List C} {M : List (Nat × List C)} {K : List (Nat × Obj)} (A : Ats w0 w ((hp, L) :: M) K) (N : Nat) (ps : List (O × O)) (room : Nat) (D : DicAt L N (dcell ps room)) (h : ps.length < room) (hr : room ≤ 1000) (hf : ps.length < 256)
    (k v : O) {key : O} (hk : keyD L k = (key, 0)) (hmv : mayH L v = true) (hmk : mayH L key = true) :
    Calls Try.prog 16 #[ptr hp, (dicO N).val, k.val, v.val] w fun x w' => x = .returned (.int .i64 0) ∧ Ats w0 w' ((hp, L.set N (dcell (setK ps key v) room)) :: M) K := by
  obtain ⟨r, b, hP, hQ⟩ := place_at ps key v
  refine at_dset A N ps room D (by omega) hr hf k v hk hmv hmk r b hP ?_
  rcases hQ with ⟨rfl, kk, u, h1, h2, -, -⟩ | ⟨rfl, -, h2, -⟩
  · exact .inl ⟨rfl, rfl, kk, u, h1, by rw [h2]⟩
  · exact .inr (.inl ⟨rfl, h, rfl, by rw [h2]⟩)
theorem at_ddropK {w0 w : World} {hp : Nat} {L : List C} {M : List (Nat × List C)} {K : List (Nat × Obj)} (A : Ats w0 w ((hp, L) :: M) K) (N : Nat) (ps : List (O × O)) (room : Nat) (D : DicAt L N (dcell ps room)) (h : ps.length ≤ room) (hr : room ≤ 1000) (hf : ps.length < 256)
    (k : O) {key : O} (hk : keyD L k = (key, 0)) (hall : ∀ p ∈ ps, mayH L p.1 = true ∧ mayH L p.2 = true) :
    Calls Try.prog 15 #[ptr hp, (dicO N).val, k.val] w fun x w' => x = .returned (.int .i64 0) ∧ Ats w0 w' ((hp, L.set N (dcell (dropK ps key) room)) :: M) K := by
  obtain ⟨r, b, hP, hQ⟩ := place_at ps key O.nil
  rcases hQ with ⟨rfl, kk, u, h1, -, h2, -⟩ | ⟨rfl, -, -, h2⟩
  · rw [← h2]; exact at_ddrop A N ps room D h hr hf k hk r hP hall
  · rw [h2, D.self]
    have h0 : r = 0 := by
      rcases hP with ⟨hb, -⟩ | ⟨-, h0, -⟩
      · simp at hb
      · exact h0
    subst h0
    exact at_ddropNot A (List.mem_cons_self ..) N ps room D h hr hf k hk (fun _ => hP)
theorem at_dgetK {w0 w : World} {hp : Nat} {L : List C} {M : List (Nat × List C)} {K : List (Nat × Obj)} (A : Ats w0 w M K) (hm : (hp, L) ∈ M) (N : Nat) (ps : List (O × O)) (room : Nat) (D : DicAt L N (dcell ps room)) (h : ps.length ≤ room) (hr : room ≤ 1000) (hf : ps.length < 256)
    (k : O) {key : O} (hk : keyD L k = (key, 0)) (v : O) (e : Int) (hv : (getK ps key = some v ∧ e = 0) ∨ (getK ps key = none ∧ v = O.nil ∧ e = 9)) :
    Calls Try.prog 17 #[ptr hp, (dicO N).val, k.val] w fun x w' => x = .returned (.tuple #[v.val, .int .i64 e]) ∧ Ats w0 w' M K := by
  obtain ⟨r, b, hP, hQ⟩ := place_at ps key O.nil
  rcases hQ with ⟨rfl, kk, u, h1, -, -, h2⟩ | ⟨rfl, h2, -, -⟩
  · rcases hv with ⟨h3, rfl⟩ | ⟨h3, -⟩
    · obtain rfl : u = v := by rw [h2] at h3; exact Option.some.inj h3
      exact at_dgetSome A hm N ps room D h hr hf k hk r hP kk u h1
    · rw [h2] at h3; simp at h3
  · rcases hv with ⟨h3, -⟩ | ⟨-, rfl, rfl⟩
    · rw [h2] at h3; simp at h3
    · exact at_dgetNone A hm N ps room D h hr hf k hk r hP
end Go.Proofs.Ytgllgemjfpiogaa
