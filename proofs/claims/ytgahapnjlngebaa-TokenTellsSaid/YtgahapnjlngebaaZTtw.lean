/- Walk: tympanlaw8.TokenTells. -/
import Derived.Test.YtgahapnjlngebaaZReff8
import Derived.Test.YtgahapnjlngebaaZTky
import Derived.Test.YtgahapnjlngebaaZMwd
import Derived.Test.YtgahapnjlngebaaZPlc
namespace Go.Proofs.Ytgahapnjlngebaa
open Go.RowKit

theorem wf_i64 {n : Int} (h : (Lit.int .i64 n).wf = true) : -9223372036854775808 ≤ n ∧ n ≤ 9223372036854775807 := by
  have e1 : IntKind.i64.min = -9223372036854775808 := by decide
  have e2 : IntKind.i64.max = 9223372036854775807 := by decide
  simp only [Lit.wf, Bool.and_eq_true, decide_eq_true_eq, e1, e2] at h
  exact h
/-- What both answer at a place. -/
def tellF (s : ByteArray) (a : Int) : Tok × Int × Int :=
  if a < 0 ∨ (s.size : Int) < a then (Tok.nil, 0, 1) else (tokAt a.toNat (s.toList.drop a.toNat), ((a.toNat + (nextF (s.toList.drop a.toNat)).2.2.1 + (nextF (s.toList.drop a.toNat)).2.2.2 : Nat) : Int), (nextF (s.toList.drop a.toNat)).1)
theorem tell_any (s : ByteArray) (a : Int) (hs : s.size ≤ 1000000) (w : World) :
    Calls Try.prog 12 #[.string s, .int .i64 a] w fun r w' => r = .returned (wordV (tellF s a).1 (tellF s a).2.1 (tellF s a).2.2) ∧ Chg NoB w w' := by
  by_cases h : a < 0 ∨ (s.size : Int) < a
  · have e : tellF s a = (Tok.nil, 0, 1) := if_pos h
    rw [e]
    exact next_out s a h w
  · have e : tellF s a = _ := if_neg h
    rw [e]
    have := next_any s a.toNat hs (by omega) w
    rwa [show ((a.toNat : Nat) : Int) = a by omega] at this
theorem rtell_any (s : ByteArray) (a : Int) (hs : s.size ≤ 1000000) (w : World) :
    Calls Try.prog 13 #[.string s, .int .i64 a] w fun r w' => r = .returned (wordV (tellF s a).1 (tellF s a).2.1 (tellF s a).2.2) ∧ Chg NoB w w' := by
  by_cases h : a < 0 ∨ (s.size : Int) < a
  · have e : tellF s a = (Tok.nil, 0, 1) := if_pos h
    rw [e]
    exact rnext_out s a h w
  · have e : tellF s a = _ := if_neg h
    rw [e]
    have := rnext_any s a.toNat hs (by omega) w
    rwa [show ((a.toNat : Nat) : Int) = a by omega] at this
set_option maxRecDepth 100000 in
set_option maxHeartbeats 2000000 in
theorem tokenTells_any (s : ByteArray) (at_ : Int) (w : World) (hs : s.size ≤ maxLen) (l0 : -9223372036854775808 ≤ at_) (l1 : at_ ≤ 9223372036854775807) :
    Calls Try.prog 3 #[.string s, .int .i64 at_] w fun e w' => e = .returned (.bool true) ∧ Chg NoB w w' := by
  have HK := hid' (known8_any w)
  by_cases h : 600 < s.size
  · have h' : 600 < (s.size : Int) := by omega
    go_enter Try.func3, Try.ntmps3
    go_wp2_with fail
    refine HK.out.mono ?_
    rintro r w1 ⟨rfl, X1⟩
    go_wp2_with fail
    go_ret
    exact ⟨rfl, X1⟩
  have h' : (s.size : Int) ≤ 600 := by omega
  have HA := hid' (fun w => all_any s (by omega) w)
  have HB := hid' (fun w => rall8_any s (by omega) w)
  have hlen := (allF_may s.toList).2.1
  generalize allF s.toList = RA at *
  obtain ⟨ae, al, ap⟩ := RA
  simp only at hlen
  have HN := hid' (fun a w => tell_any s a (by omega) w)
  have HM := hid' (fun a w => rtell_any s a (by omega) w)
  generalize tellF s = F at *
  have wsz := IntWalk.i64_in ((s.size : Int) + 1) (by omega)
  have HP := hid' (fun w => place_any at_ ((s.size : Int) + 1) (by omega) (by omega) w)
  have hm0 := Int.emod_nonneg at_ (show (s.size : Int) + 1 ≠ 0 by omega)
  generalize at_ % ((s.size : Int) + 1) = pl at *
  have i0 : ∀ W, (Instr.index 29 (.agg #[.int .i64 at_, .int .i64 pl]) (.int .i64 0)).run Try.prog W = .ok (.int .i64 at_) W := fun W => by kernel_rfl
  have i1 : ∀ W, (Instr.index 29 (.agg #[.int .i64 at_, .int .i64 pl]) (.int .i64 1)).run Try.prog W = .ok (.int .i64 pl) W := fun W => by kernel_rfl
  go_enter Try.func3, Try.ntmps3
  go_wp2_with fail
  refine HK.out.mono ?_
  rintro r w1 ⟨rfl, X1⟩
  go_wp2_with fail
  refine (HA.out _).mono ?_
  rintro r w2 ⟨va, rfl, X2, hown2, -⟩
  have HO2 := hid' hown2
  obtain ⟨a2, c2, rfl, -⟩ := own_val hown2
  clear hown2
  go_wp2_with fail
  refine (HB.out _).mono ?_
  rintro r w3 ⟨vb, rfl, X3, hown3, -⟩
  have HT := hid' (tokens_any (by omega) (ToksAt.of_own (ownB HO2.out X3 (fun _ _ e => e))) (ToksAt.of_own hown3) true (Alike.refl _ _))
  obtain ⟨a3, c3, rfl, -⟩ := own_val hown3
  have X4 := (X1.trans X2).trans X3
  clear hown3 X1 X2 X3 HO2 HA HB
  go_wp2_with fail
  refine HT.out.mono ?_
  rintro r w4 ⟨rfl, X5⟩
  have X6 := X4.trans X5
  clear X4 X5 HT
  go_wp2_with fail
  refine (HP.out _).mono ?_
  rintro r w5 ⟨rfl, rfl⟩
  go_wp2_with fail
  refine wp_loop_rounds 3 ?_
  rw [rounds_succ]
  go_wp2_with fail
  refine (HN.out at_ _).mono ?_
  rintro r w7 ⟨rfl, Y7⟩
  obtain ⟨t7, ht7⟩ : ∃ t, F at_ = t := ⟨_, rfl⟩
  have HM7 := hid' (fun w => by have := HM.out at_ w; rw [ht7] at this; exact this : ∀ w, Calls Try.prog 13 #[.string s, .int .i64 at_] w fun r w' => r = .returned (wordV t7.1 t7.2.1 t7.2.2) ∧ Chg NoB w w')
  rw [ht7]
  obtain ⟨⟨k7, n7, s7, p7⟩, x7, e7⟩ := t7
  simp only at HM7 ⊢
  have hb7 := blk_new w7 (.cells #[.int .i64 k7, .int .i64 n7, .string s7, .int .i64 p7] 31)
  have Z7 := (X6.trans Y7).alloc (.cells #[.int .i64 k7, .int .i64 n7, .string s7, .int .i64 p7] 31)
  have eq7 := eqT_self ⟨k7, n7, s7, p7⟩
  go_wp2_with fail
  refine (HM7.out _).mono ?_
  rintro r w7' ⟨rfl, U7⟩
  have hc7 := U7.blk hb7 id
  have R7 := cells_of (Chg.blk ((Chg.refl NoB w7').alloc (.cells #[.int .i64 k7, .int .i64 n7, .string s7, .int .i64 p7] 31)) hc7 id)
  have R7' := cells_of (blk_new w7' (.cells #[.int .i64 k7, .int .i64 n7, .string s7, .int .i64 p7] 31))
  have V7 := (Z7.trans U7).alloc (.cells #[.int .i64 k7, .int .i64 n7, .string s7, .int .i64 p7] 31)
  have l7 := blk_lt hc7
  clear hb7 Z7 U7 Y7 X6
  go_wp2_with fail
  rw [rounds_succ]
  go_wp2_with fail
  refine (HN.out pl _).mono ?_
  rintro r w8 ⟨rfl, Y8⟩
  obtain ⟨t8, ht8⟩ : ∃ t, F pl = t := ⟨_, rfl⟩
  have HM8 := hid' (fun w => by have := HM.out pl w; rw [ht8] at this; exact this : ∀ w, Calls Try.prog 13 #[.string s, .int .i64 pl] w fun r w' => r = .returned (wordV t8.1 t8.2.1 t8.2.2) ∧ Chg NoB w w')
  rw [ht8]
  obtain ⟨⟨k8, n8, s8, p8⟩, x8, e8⟩ := t8
  simp only at HM8 ⊢
  have hb8 := blk_new w8 (.cells #[.int .i64 k8, .int .i64 n8, .string s8, .int .i64 p8] 31)
  have Z8 := (V7.trans Y8).alloc (.cells #[.int .i64 k8, .int .i64 n8, .string s8, .int .i64 p8] 31)
  have eq8 := eqT_self ⟨k8, n8, s8, p8⟩
  go_wp2_with fail
  refine (HM8.out _).mono ?_
  rintro r w8' ⟨rfl, U8⟩
  have hc8 := U8.blk hb8 id
  have R8 := cells_of (Chg.blk ((Chg.refl NoB w8').alloc (.cells #[.int .i64 k8, .int .i64 n8, .string s8, .int .i64 p8] 31)) hc8 id)
  have R8' := cells_of (blk_new w8' (.cells #[.int .i64 k8, .int .i64 n8, .string s8, .int .i64 p8] 31))
  have V8 := (Z8.trans U8).alloc (.cells #[.int .i64 k8, .int .i64 n8, .string s8, .int .i64 p8] 31)
  have l8 := blk_lt hc8
  clear hb8 Z8 U8 Y8 V7
  go_wp2_with fail
  rw [rounds_succ]
  go_wp2_with fail
  go_ret
  exact ⟨rfl, V8⟩
end Go.Proofs.Ytgahapnjlngebaa
