/- Walk: tympanlaw12.DictKeys. -/
import Derived.Test.YtgllgemjfpiogaaDy
namespace Go.Proofs.Ytgllgemjfpiogaa
open Go.RowKit

theorem n0 {α : Type} {a : α} {l : List α} : a ∈ a :: l := List.mem_cons_self ..
theorem n1 {α : Type} {a b : α} {l : List α} : b ∈ a :: b :: l := List.mem_cons_of_mem _ n0
theorem n2 {α : Type} {a b c : α} {l : List α} : c ∈ a :: b :: c :: l := List.mem_cons_of_mem _ n1
theorem n3 {α : Type} {a b c d : α} {l : List α} : d ∈ a :: b :: c :: d :: l := List.mem_cons_of_mem _ n2
theorem n4 {α : Type} {a b c d e : α} {l : List α} : e ∈ a :: b :: c :: d :: e :: l := List.mem_cons_of_mem _ n3
abbrev markO : O := ⟨6, false, 0, 0, 0, ⟨#[]⟩⟩
theorem may_mark (L : List C) : mayH L markO = true := by simp [mayH, held, mayO, eqO, bareO, O.nil]
theorem string_300 (s : ByteArray) (h : s.size ≤ 300) : stringH [] s = ([txt s.toList], strO 0 s.size, 0) := by
  unfold stringH
  rw [if_neg (by omega), add_fits _ _ (by simp) (by rw [txt_size, size_toList]; simp [used]; omega)]
  simp [objOf, C.kind, C.size, size_toList]

set_option maxRecDepth 100000 in
set_option maxHeartbeats 8000000 in
theorem dictKeys_any (s : ByteArray) (ex : Bool) (ws : s.size ≤ maxLen) (w : World) :
   Calls Try.prog 4 #[.string s, .bool ex] w fun e w' => e = .returned (.bool true) ∧ Chg NoB w w' := by
  obtain ⟨k, hk⟩ : ∃ k : Int, (s.size : Int) = k := ⟨_, rfl⟩
  have kk : k ≤ 9223372036854775807 := by simp only [maxLen] at ws; omega
  have k0 : 0 ≤ k := by omega
  by_cases hg : 300 < k
  · go_enter Try.func4, Try.ntmps4
    go_wp2_with fail
    refine (known12_any w).mono ?_
    rintro e w0 ⟨rfl, X0⟩
    go_wp2
    go_ret
    exact ⟨rfl, X0⟩
  have S1 := string_300 s (by omega)
  rw [hk] at S1
  have S2 := key_str [txt s.toList] 0 s ex rfl (by omega) (by omega)
  rw [hk] at S2
  have hz := size_toList s
  have S3 := dict_new [txt s.toList] 2 (by simp) (by omega) (by simp [used, C.size, hz]; omega)
  have S4 := key_str [txt s.toList, dcell [] 2] 0 s ex rfl (by omega) (by omega)
  rw [hk] at S4
  have D1 : DicAt [txt s.toList, dcell [] 2] 1 (dcell [] 2) := ⟨rfl, rfl, rfl, rfl, by simp [dItems_length], by omega⟩
  have D2 : DicAt [txt s.toList, dcell [(nameO s, markO)] 2] 1 (dcell [(nameO s, markO)] 2) := ⟨rfl, rfl, rfl, rfl, by simp [dItems_length], by omega⟩
  have S5 : s.size ≤ 100 → keyD [txt s.toList, dcell [(nameO s, markO)] 2] ⟨5, !ex, 0, 0, 0, s⟩ = (nameO s, 0) := fun h => key_name _ s (!ex) h
  have S6 := may_name [txt s.toList, dcell [] 2] s false
  by_cases hl : 100 < k
  · rw [if_pos hl] at S2 S4
    clear S5 S6 D2
    go_enter Try.func4, Try.ntmps4
    go_wp2_with fail
    refine (known12_any w).mono ?_
    rintro e w0 ⟨rfl, X0⟩
    go_wp2_with fail
    refine (at_hnew (Ats.start X0)).mono ?_
    rintro e w1 ⟨hp, rfl, A0⟩
    go_wp2_with fail
    refine (at_string A0 s S1).mono ?_
    rintro e w2 ⟨rfl, A1⟩
    have A2 := A1.alloc (.cells #[.int .i64 8, .bool ex, .int .i64 0, .int .i64 0, .int .i64 k, .string ⟨#[]⟩] 28)
    clear A0 A1
    go_wp2_with fail
    refine (at_dkey A2 ⟨8, ex, 0, 0, k, ⟨#[]⟩⟩ S2 (List.mem_cons_self ..)).mono ?_
    rintro e w3 ⟨rfl, A3⟩
    go_wp2_with fail
    refine (at_dnew (A3.alloc _) 2 S3).mono ?_
    rintro e w4 ⟨rfl, A4⟩
    have R6 := cells_of (A4.box _ n1)
    have v6 := blk_lt (A4.box _ n1)
    simp only at v6
    clear A2 A3
    go_wp2_with fail
    have A5 := A4.alloc (.cells #[.int .i64 10, .bool false, .int .i64 1, .int .i64 0, .int .i64 0, .string ⟨#[]⟩] 28)
    refine (at_dsetErr A5 (List.mem_cons_self ..) 1 [] 2 D1 (by simp) (by omega) (by simp) ⟨8, ex, 0, 0, k, ⟨#[]⟩⟩ markO S4 (by decide)).mono ?_
    rintro e w5 ⟨rfl, A6⟩
    clear R6 A4 A5
    go_wp2_with fail
    go_ret
    exact ⟨by simp, A6.chg⟩
  rw [if_neg hl] at S2 S4
  have S5' := S5 (by omega)
  have S6' := S6 (by omega)
  clear S5 S6
  have E1 : eqO ⟨5, false, 0, 0, 0, s⟩ ⟨5, false, 0, 0, 0, s⟩ = true := eqO_self _
  have RW : (dItems [(nameO s, markO)] 2)[1]? = some (nameO s) := by simp [dItems, pairsL]
  go_enter Try.func4, Try.ntmps4
  go_wp2_with fail
  refine (known12_any w).mono ?_
  rintro e w0 ⟨rfl, X0⟩
  go_wp2_with fail
  refine (at_hnew (Ats.start X0)).mono ?_
  rintro e w1 ⟨hp, rfl, A0⟩
  go_wp2_with fail
  refine (at_string A0 s S1).mono ?_
  rintro e w2 ⟨rfl, A1⟩
  have A2 := A1.alloc (.cells #[.int .i64 8, .bool ex, .int .i64 0, .int .i64 0, .int .i64 k, .string ⟨#[]⟩] 28)
  clear A0 A1
  go_wp2_with fail
  refine (at_dkey A2 ⟨8, ex, 0, 0, k, ⟨#[]⟩⟩ S2 (List.mem_cons_self ..)).mono ?_
  rintro e w3 ⟨rfl, A3⟩
  go_wp2_with fail
  refine (at_dnew (A3.alloc _) 2 S3).mono ?_
  rintro e w4 ⟨rfl, A4⟩
  have R6 := cells_of (A4.box _ n1)
  have v6 := blk_lt (A4.box _ n1)
  simp only at v6
  clear A2 A3
  go_wp2_with fail
  have A5 := A4.alloc (.cells #[.int .i64 10, .bool false, .int .i64 1, .int .i64 0, .int .i64 0, .string ⟨#[]⟩] 28)
  refine (at_dset A5 1 [] 2 D1 (by simp) (by omega) (by simp) ⟨8, ex, 0, 0, k, ⟨#[]⟩⟩ markO S4 (may_mark _) S6' 0 false (place_nil _) (L' := [txt s.toList, dcell [(nameO s, markO)] 2]) (e := 0) (.inr (.inl ⟨rfl, by simp, rfl, rfl⟩))).mono ?_
  rintro e w5 ⟨rfl, A6⟩
  clear R6 A4 A5
  have R10 := cells_of (A6.box _ n0)
  go_wp2_with fail
  refine (at_dgetSome A6 (List.mem_cons_self ..) 1 _ 2 D2 (by simp) (by omega) (by simp) ⟨5, !ex, 0, 0, 0, s⟩ S5' 0 (place_one s markO) _ markO rfl).mono ?_
  rintro e w6 ⟨rfl, A7⟩
  clear R10 A6
  have R10 := cells_of (A7.box _ n0)
  have v10 := blk_lt (A7.box _ n0)
  simp only at v10
  go_wp2_with fail
  have A8 := A7.alloc (.cells #[.int .i64 6, .bool false, .int .i64 0, .int .i64 0, .int .i64 0, .string ⟨#[]⟩] 28)
  refine (at_dgetErr A8 (List.mem_cons_self ..) 1 _ 2 D2 (by simp) (by omega) (by simp) nullO (key_null _) (by decide)).mono ?_
  rintro e w7 ⟨rfl, A9⟩
  clear R10 A7 A8
  have R10 := cells_of (A9.box _ n1)
  have v10 := blk_lt (A9.box _ n1)
  simp only at v10
  go_wp2_with fail
  have A10 := A9.alloc (.cells #[.int .i64 0, .bool false, .int .i64 0, .int .i64 0, .int .i64 0, .string ⟨#[]⟩] 28)
  refine (at_dpairs A10 (List.mem_cons_self ..) 1 [(nameO s, markO)] 2 D2 (by simp) (by omega) (by simp)).mono ?_
  rintro e w8 ⟨g, cur, fz, rfl, A11, RL⟩
  obtain ⟨y0, y1, y2, y3, y4, y5⟩ := row_item RL RW
  clear R10 A9 A10 RL
  have Rg := cells_of (A11.box _ n0)
  have R13 := cells_of (A11.box _ n2)
  have R8 := cells_of (A11.box _ n4)
  have vg := blk_lt (A11.box _ n0)
  simp only [Nat.one_mul] at y0 y1 y2 y3 y4 y5 vg
  have XX := A11.chg
  clear A11 S1 S2 S3 S4 S5' S6' RW D1 D2
  go_wp2_with fail
  go_quiet (fail)
  go_wp2
  go_ret
  exact ⟨by simp, XX.drewN _⟩
end Go.Proofs.Ytgllgemjfpiogaa
