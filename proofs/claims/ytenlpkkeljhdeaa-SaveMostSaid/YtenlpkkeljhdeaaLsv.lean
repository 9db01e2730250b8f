/- Saves numbered in order; known of tympanlaw13. -/
import Derived.Test.YtenlpkkeljhdeaaSv3
namespace Go.Proofs.Ytenlpkkeljhdeaa
open Go.RowKit

theorem m0 {α : Type} {a : α} {l : List α} : a ∈ a :: l := List.mem_cons_self ..
theorem m1 {α : Type} {a b : α} {l : List α} : b ∈ a :: b :: l := List.mem_cons_of_mem _ m0
theorem m2 {α : Type} {a b c : α} {l : List α} : c ∈ a :: b :: c :: l := List.mem_cons_of_mem _ m1
theorem m3 {α : Type} {a b c d : α} {l : List α} : d ∈ a :: b :: c :: d :: l := List.mem_cons_of_mem _ m2
theorem p1 {α : Type} {a b : α} {l : List α} : (a :: b :: l).Perm (b :: a :: l) := List.Perm.swap ..
theorem p2 {α : Type} {a b c : α} {l : List α} : (a :: b :: c :: l).Perm (c :: a :: b :: l) := List.perm_middle (a := c) (l₁ := [a, b]) (l₂ := l)
theorem p3 {α : Type} {a b c d : α} {l : List α} : (a :: b :: c :: d :: l).Perm (d :: a :: b :: c :: l) := List.perm_middle (a := d) (l₁ := [a, b, c]) (l₂ := l)

theorem at_new {w0 w : World} {M : List (Nat × List C)} {K : List (Nat × Obj)} (A : Ats w0 w M K) :
    Calls Try.prog 12 #[] w fun e w' => ∃ hp, e = .returned (ptr hp) ∧ Ats w0 w' ((hp, []) :: M) K :=
  (new_any w).mono fun e w' ⟨h1, h2⟩ => ⟨_, h1, h2 ▸ A.new⟩
theorem at_snew {w0 w : World} {M : List (Nat × List C)} {K : List (Nat × Obj)} (A : Ats w0 w M K) :
    Calls Try.prog 13 #[] w fun e w' => ∃ sp, e = .returned (ptr sp) ∧ Ats w0 w' M ((sp, svBox [] 0) :: K) :=
  (snew_any w).mono fun e w' ⟨h1, h2⟩ => ⟨_, h1, h2 ▸ A.alloc _⟩
theorem at_slen {w0 w : World} {sp : Nat} {M : List (Nat × List C)} {K : List (Nat × Obj)} {l : List (Int × Nat)} {last : Int} (A : Ats w0 w M K) (hs : (sp, svBox l last) ∈ K) :
    Calls Try.prog 16 #[ptr sp] w fun e w' => e = .returned (.int .i64 l.length) ∧ w = w' := slen_any sp l last w (A.box _ hs)

/-- Numbered from 1 on. -/
def Num (l : List (Int × Nat)) : Prop := ∀ (j : Nat) (q : Int × Nat), l[j]? = some q → q.1 = (j : Int) + 1
theorem Num.nil : Num [] := fun j q h => by simp at h
theorem Num.push {l : List (Int × Nat)} (h : Num l) (n : Int) (hn : n = (l.length : Int) + 1) (g : Nat) : Num (l ++ [(n, g)]) := fun j q hq => by
  by_cases hj : j < l.length
  · rw [List.getElem?_append_left hj] at hq; exact h j q hq
  · have hl := (List.getElem?_eq_some_iff.1 hq).1
    simp at hl
    obtain rfl : j = l.length := by omega
    simp at hq; subst hq; exact hn
theorem Num.take {l : List (Int × Nat)} (h : Num l) (i : Nat) : Num (l.take i) := fun j q hq => by
  by_cases hj : j < i
  · rw [List.getElem?_take_of_lt hj] at hq; exact h j q hq
  · rw [List.getElem?_eq_none (by simp; omega)] at hq; simp at hq
theorem hit_num (n : Int) (ex : Bool) (q : Int × Nat) : hit ⟨11, ex, n, 0, 0, ⟨#[]⟩⟩ q = decide (n = q.1) := by
  simp [hit, eqO]
theorem find_num {l : List (Int × Nat)} (h : Num l) (i : Nat) (hi : i < l.length) (n : Int) (hn : n = (i : Int) + 1) (ex : Bool) (r : Int) (hr : r = (i : Int)) : FindS l ⟨11, ex, n, 0, 0, ⟨#[]⟩⟩ r := by
  subst hr
  refine .inl ⟨i, l[i], rfl, by simp [hi], ?_, fun j p hj hp => ?_⟩
  · rw [hit_num, h i l[i] (by simp [hi])]; simp [hn]
  · rw [hit_num, h j p hp]; simp; omega
theorem find_out {l : List (Int × Nat)} (h : Num l) (n : Int) (hn : n < 1 ∨ (l.length : Int) < n) (ex : Bool) : FindS l ⟨11, ex, n, 0, 0, ⟨#[]⟩⟩ (-1) := by
  refine .inr ⟨rfl, fun q hq => ?_⟩
  obtain ⟨j, hj, e⟩ := List.getElem_of_mem hq
  rw [hit_num, h j q (by simp [hj, e])]
  simp; omega

theorem kn13_1 : arrayH [] 3 = ([⟨false, false, false, [nullO, nullO, nullO], []⟩], ⟨9, false, 0, 0, 3, ⟨#[]⟩⟩, 0) := by
  simp [arrayH, makeH, addE, objOf, used, C.size, C.kind, List.replicate]
set_option maxRecDepth 100000 in
set_option maxHeartbeats 4000000 in
theorem known13_any (w : World) :
   Calls Try.prog 11 #[] w fun e w' => e = .returned (.bool true) ∧ Chg NoB w w' := by
  have S1 := kn13_1
  go_enter Try.func11, Try.ntmps11
  go_wp2_with fail
  refine (at_new (Ats.start (Chg.refl NoB w))).mono ?_
  rintro e w1 ⟨hp, rfl, A0⟩
  go_wp2_with fail
  refine (at_snew A0).mono ?_
  rintro e w2 ⟨sp, rfl, A1⟩
  go_wp2_with fail
  refine (at_save A1 m0 (by simp) (by omega) (by omega)).mono ?_
  rintro e w3 ⟨rfl, g1, A2⟩
  simp only [List.nil_append, Int.zero_add] at A2
  have A3 := A2.order p1
  clear A2 A1 A0
  go_wp2_with fail
  refine (at_array (A3.alloc _) 3 S1).mono ?_
  rintro e w4 ⟨rfl, A4⟩
  have v4 := blk_lt (A4.box _ m0)
  have R := cells_of (A4.box _ m0)
  simp only at v4
  go_wp2_with fail
  have NN : Num [(1, g1)] := Num.nil.push 1 rfl g1
  have F1 : FindS [(1, g1)] (svO 1) 0 := find_num NN 0 (by simp) 1 rfl false 0 rfl
  have F2 : FindS [(1, g1)] (svO 1) ((0 : Nat) : Int) := F1
  have N1 : (0 : Int) ≤ 0 → ∃ q G, [((1 : Int), g1)][(0 : Int).toNat]? = some q ∧ (q.2, G) ∈ [(hp, [(⟨false, false, false, [nullO, nullO, nullO], []⟩ : C)]), (g1, [])] ∧ (G.length : Int) = 0 := fun _ => ⟨(1, g1), [], rfl, m1, rfl⟩
  have e0 : newerS 0 0 (svO 1) ⟨9, false, 0, 0, 3, ⟨#[]⟩⟩ = true := by decide
  refine (at_newer (A4.alloc _) m2 (by simp) (svO 1) ⟨9, false, 0, 0, 3, ⟨#[]⟩⟩ 0 0 F1 N1).mono ?_
  rintro e w5 ⟨rfl, A5⟩
  rw [e0]
  clear R
  have R := cells_of (A5.box _ m1)
  go_wp2_with fail
  refine (at_back (A5.perm p2) (by simp) (svO 1) 0 (1, g1) F2 rfl m0).mono ?_
  rintro e w6 ⟨rfl, A6⟩
  clear R N1 F1 F2 A4 A5
  go_wp2_with fail
  refine (at_cells A6 m0).mono ?_
  rintro e w7 ⟨rfl, rfl⟩
  go_wp2_with fail
  refine (at_slen A6 m0).mono ?_
  rintro e w7 ⟨rfl, rfl⟩
  go_wp2_with fail
  go_ret
  exact ⟨rfl, A6.chg⟩
end Go.Proofs.Ytenlpkkeljhdeaa
