/- Rh7, Rj8, Rk8, Rn8 -/
import Derived.Test.YtgahapnjlngebaaZRefe
import Derived.Test.YtgahapnjlngebaaZTokb
import Derived.Test.YtgahapnjlngebaaZTokc
import Derived.Test.YtgahapnjlngebaaZTokd
/- Walk: layer 7's reference: Take. -/
namespace Go.Proofs.Ytgahapnjlngebaa
open Go.RowKit

set_option maxRecDepth 100000 in
set_option maxHeartbeats 2000000 in
theorem rtake_any (s : ByteArray) (hs : s.size ≤ 1000000) (w : World) :
    Calls Try.prog 36 #[.string s] w fun r w' => r = .returned (takeV (takeF s.toList)) ∧ Chg NoB w w' := by
  have hW : takeW s.toList = if s.toList.head? = some 40 then parenW (s.toList.drop 1) 1 1 [] else if s.toList.head? = some 60 ∧ (s.toList.drop 1).head? = some 126 then eightyW (s.toList.drop 2) 2 [] [] else if s.toList.head? = some 60 then hexW (s.toList.drop 1) 1 (-1) [] else (3, [], 0) := rfl
  have hF : takeF s.toList = if (takeW s.toList).1 = 0 then takeW s.toList else ((takeW s.toList).1, [], 0) := rfl
  have A : Tr w (w.alloc (trBox (.slice none 0 0) 0)) w.heap.size (.slice none 0 0) [] 0 := ⟨(Chg.refl NoB w).alloc _, Nat.le_refl _, blk_new w _, World.ownsRow_nil _ _ _ _⟩
  have HA := hid' A
  clear A
  generalize takeF s.toList = F at *
  by_cases h0 : s.size = 0
  · have he : s.toList = [] := List.eq_nil_of_length_eq_zero (by rw [size_lst]; exact h0)
    have h3 : takeW s.toList = (3, [], 0) := by rw [hW, he]; rfl
    have HF := hid' (hF.trans (by rw [h3]))
    have hz : ¬ 0 < (s.size : Int) := by omega
    have hz2 : ¬ 1 < (s.size : Int) := by omega
    clear hW hF h3 he h0
    have hb3 := blk_new w (trBox (.slice none 0 0) 3)
    have X := (Chg.refl NoB w).alloc (trBox (.slice none 0 0) 3)
    clear HA
    go_enter Try.func36, Try.ntmps36
    go_upto_region 10 with (fail)
    generalize w.alloc _ = w1 at *
    have R0 := cells_of hb3
    have l0 := blk_lt hb3
    go_wp2_with fail
    go_quiet (fail)
    go_wp2_with fail
    go_ret3
    exact ⟨by rw [HF.out]; rfl, X.trans ((Chg.refl NoB _).drewN _)⟩
  have h1 : 1 ≤ s.size := by omega
  have h1' : 0 < (s.size : Int) := by omega
  have h1'' : 0 < s.size := h1
  have hh : s.toList.head? = some s[0] := by rw [← List.drop_zero (l := s.toList), drop_at s 0 h1]; rfl
  rw [hh] at hW
  clear h0 hh
  by_cases e40 : s[0] = 40
  · have u40 := u8T 40 e40 (40 : Int)
    have hW1 := hW.trans (if_pos (by rw [e40]))
    rw [hW1] at hF
    have HP := hid' (rtparen_any HA.out s hs h1)
    generalize parenW (s.toList.drop 1) 1 1 [] = R at *
    clear hW hW1 e40
    go_enter Try.func36, Try.ntmps36
    go_wp2_with fail
    refine HP.out.mono ?_
    rintro r w1 ⟨v, b, n, rfl, A1, hb, -⟩
    have R0 := cells_of A1.box
    have l0 := blk_lt A1.box
    have X := A1.chg
    by_cases er : R.1 = 0
    · have er' : (R.1 != 0) = false := by rw [er]; rfl
      have HS := own_str A1.own _ (Chg.refl _ _)
      obtain ⟨hb1, hb2⟩ := hb er
      have HB := hid' hb1
      have HB2 := hid' hb2
      have HF := hid' (hF.trans (if_pos er))
      have HER := hid' er
      clear HP HA A1 hF er hb hb1 hb2
      go_wp2_with fail
      go_ret3
      refine ⟨?_, X⟩
      rw [HF.out]
      exact congrArg Ending.returned (by rw [HB.out, HB2.out, show takeV R = .tuple #[.string ⟨R.2.1.toArray⟩, .int .i64 (R.2.2 : Nat), .int .i64 R.1] from rfl, HER.out]; rfl)
    · have er' : (R.1 != 0) = true := by simpa using er
      have HF := hid' (hF.trans (if_neg er))
      have HER := hid' er
      clear HP HA A1 hF er hb
      go_wp2_with fail
      go_quiet (fail)
      go_wp2_with fail
      go_ret3
      exact ⟨by rw [HF.out]; rfl, X.trans ((Chg.refl NoB _).drewN _)⟩
  have u40 := u8F 40 e40 (40 : Int)
  have hW1 := hW.trans (if_neg (by simpa using e40))
  clear hW e40
  by_cases e60 : s[0] = 60
  rotate_left
  · have u60 := u8F 60 e60 (60 : Int)
    have h3 := hW1.trans ((if_neg (fun h => e60 (by simpa using h.1))).trans (if_neg (by simpa using e60)))
    rw [h3] at hF
    have HF := hid' (hF.trans (if_neg (by decide)))
    clear hF h3 hW1 e60
    by_cases hz : s.size ≤ 1
    · have hz' : ¬ 1 < (s.size : Int) := by omega
      have hb3 := blk_new w (trBox (.slice none 0 0) 3)
      have X := (Chg.refl NoB w).alloc (trBox (.slice none 0 0) 3)
      clear HA
      go_enter Try.func36, Try.ntmps36
      go_upto_region 10 with (fail)
      generalize w.alloc _ = w1 at *
      have R0 := cells_of hb3
      have l0 := blk_lt hb3
      go_wp2_with fail
      go_quiet (fail)
      go_wp2_with fail
      go_ret3
      exact ⟨by rw [HF.out]; rfl, X.trans ((Chg.refl NoB _).drewN _)⟩
    · have hz' : 1 < (s.size : Int) := by omega
      have hb3 := blk_new w (trBox (.slice none 0 0) 3)
      have X := (Chg.refl NoB w).alloc (trBox (.slice none 0 0) 3)
      clear HA
      go_enter Try.func36, Try.ntmps36
      go_upto_region 10 with (fail)
      generalize w.alloc _ = w1 at *
      have R0 := cells_of hb3
      have l0 := blk_lt hb3
      go_wp2_with fail
      go_quiet (fail)
      go_wp2_with fail
      go_ret3
      exact ⟨by rw [HF.out]; rfl, X.trans ((Chg.refl NoB _).drewN _)⟩
  have u60 := u8T 60 e60 (60 : Int)
  by_cases hz : s.size ≤ 1
  · have hz' : ¬ 1 < (s.size : Int) := by omega
    have hW2 := hW1.trans ((if_neg (fun h => by have := h.2; rw [drop_end s 1 hz] at this; simp at this)).trans (if_pos (by rw [e60])))
    rw [hW2] at hF
    have HP := hid' (rthex_any HA.out s hs h1)
    generalize hexW (s.toList.drop 1) 1 (-1) [] = R at *
    clear hW1 hW2 e60
    go_enter Try.func36, Try.ntmps36
    go_wp2_with fail
    refine HP.out.mono ?_
    rintro r w1 ⟨v, b, n, rfl, A1, hb, -⟩
    have R0 := cells_of A1.box
    have l0 := blk_lt A1.box
    have X := A1.chg
    by_cases er : R.1 = 0
    · have er' : (R.1 != 0) = false := by rw [er]; rfl
      have HS := own_str A1.own _ (Chg.refl _ _)
      obtain ⟨hb1, hb2⟩ := hb er
      have HB := hid' hb1
      have HB2 := hid' hb2
      have HF := hid' (hF.trans (if_pos er))
      have HER := hid' er
      clear HP HA A1 hF er hb hb1 hb2
      go_wp2_with fail
      go_ret3
      refine ⟨?_, X⟩
      rw [HF.out]
      exact congrArg Ending.returned (by rw [HB.out, HB2.out, show takeV R = .tuple #[.string ⟨R.2.1.toArray⟩, .int .i64 (R.2.2 : Nat), .int .i64 R.1] from rfl, HER.out]; rfl)
    · have er' : (R.1 != 0) = true := by simpa using er
      have HF := hid' (hF.trans (if_neg er))
      have HER := hid' er
      clear HP HA A1 hF er hb
      go_wp2_with fail
      go_quiet (fail)
      go_wp2_with fail
      go_ret3
      exact ⟨by rw [HF.out]; rfl, X.trans ((Chg.refl NoB _).drewN _)⟩
  have hz' : 1 < (s.size : Int) := by omega
  have hz'' : 1 < s.size := by omega
  have hh1 : (s.toList.drop 1).head? = some s[1] := by rw [drop_at s 1 hz'']; rfl
  by_cases e126 : s[1] = 126
  · have u126 := u8T 126 e126 (126 : Int)
    have hW2 := hW1.trans (if_pos ⟨by rw [e60], by rw [hh1, e126]⟩)
    rw [hW2] at hF
    have HP := hid' (rteighty_any HA.out s hs (by omega))
    generalize eightyW (s.toList.drop 2) 2 [] [] = R at *
    clear hW1 hW2 e60 e126 hh1
    go_enter Try.func36, Try.ntmps36
    go_wp2_with fail
    refine HP.out.mono ?_
    rintro r w1 ⟨v, b, n, rfl, A1, hb, -⟩
    have R0 := cells_of A1.box
    have l0 := blk_lt A1.box
    have X := A1.chg
    by_cases er : R.1 = 0
    · have er' : (R.1 != 0) = false := by rw [er]; rfl
      have HS := own_str A1.own _ (Chg.refl _ _)
      obtain ⟨hb1, hb2⟩ := hb er
      have HB := hid' hb1
      have HB2 := hid' hb2
      have HF := hid' (hF.trans (if_pos er))
      have HER := hid' er
      clear HP HA A1 hF er hb hb1 hb2
      go_wp2_with fail
      go_ret3
      refine ⟨?_, X⟩
      rw [HF.out]
      exact congrArg Ending.returned (by rw [HB.out, HB2.out, show takeV R = .tuple #[.string ⟨R.2.1.toArray⟩, .int .i64 (R.2.2 : Nat), .int .i64 R.1] from rfl, HER.out]; rfl)
    · have er' : (R.1 != 0) = true := by simpa using er
      have HF := hid' (hF.trans (if_neg er))
      have HER := hid' er
      clear HP HA A1 hF er hb
      go_wp2_with fail
      go_quiet (fail)
      go_wp2_with fail
      go_ret3
      exact ⟨by rw [HF.out]; rfl, X.trans ((Chg.refl NoB _).drewN _)⟩
  have u126 := u8F 126 e126 (126 : Int)
  have hW2 := hW1.trans ((if_neg (fun h => e126 (by have := h.2; rw [hh1] at this; exact Option.some.inj this))).trans (if_pos (by rw [e60])))
  rw [hW2] at hF
  have HP := hid' (rthex_any HA.out s hs h1)
  generalize hexW (s.toList.drop 1) 1 (-1) [] = R at *
  clear hW1 hW2 e60 e126 hh1
  go_enter Try.func36, Try.ntmps36
  go_wp2_with fail
  refine HP.out.mono ?_
  rintro r w1 ⟨v, b, n, rfl, A1, hb, -⟩
  have R0 := cells_of A1.box
  have l0 := blk_lt A1.box
  have X := A1.chg
  by_cases er : R.1 = 0
  · have er' : (R.1 != 0) = false := by rw [er]; rfl
    have HS := own_str A1.own _ (Chg.refl _ _)
    obtain ⟨hb1, hb2⟩ := hb er
    have HB := hid' hb1
    have HB2 := hid' hb2
    have HF := hid' (hF.trans (if_pos er))
    have HER := hid' er
    clear HP HA A1 hF er hb hb1 hb2
    go_wp2_with fail
    go_ret3
    refine ⟨?_, X⟩
    rw [HF.out]
    exact congrArg Ending.returned (by rw [HB.out, HB2.out, show takeV R = .tuple #[.string ⟨R.2.1.toArray⟩, .int .i64 (R.2.2 : Nat), .int .i64 R.1] from rfl, HER.out]; rfl)
  · have er' : (R.1 != 0) = true := by simpa using er
    have HF := hid' (hF.trans (if_neg er))
    have HER := hid' er
    clear HP HA A1 hF er hb
    go_wp2_with fail
    go_quiet (fail)
    go_wp2_with fail
    go_ret3
    exact ⟨by rw [HF.out]; rfl, X.trans ((Chg.refl NoB _).drewN _)⟩
end Go.Proofs.Ytgahapnjlngebaa
/- Walk: layer 8's reference: skip, sign, two, name. -/
namespace Go.Proofs.Ytgahapnjlngebaa
open Go.RowKit

theorem skipT_at (s : ByteArray) (j : Nat) (h : j < s.size) : skipL true (s.toList.drop j) = if s[j] = 10 ∨ s[j] = 13 then 1 + skipL false (s.toList.drop (j + 1)) else 1 + skipL true (s.toList.drop (j + 1)) := by
  rw [drop_at s j h, skipL]
theorem skip_nl (s : ByteArray) (j : Nat) (h : j < s.size) (hc : s[j] = 10 ∨ s[j] = 13) : skipL true (s.toList.drop j) = skipL false (s.toList.drop j) := by
  rw [skipT_at s j h, if_pos hc, skipL_f s j h, if_pos (by rcases hc with h | h <;> rw [h] <;> decide)]
theorem skip_37 (s : ByteArray) (j : Nat) (h : j < s.size) (hc : s[j] = 37) : skipL false (s.toList.drop j) = skipL true (s.toList.drop j) := by
  rw [skipT_at s j h, if_neg (by rw [hc]; decide), skipL_f s j h, if_neg (by rw [hc]; decide), if_pos hc]
set_option maxRecDepth 100000 in
set_option maxHeartbeats 2000000 in
theorem rskip_any (s : ByteArray) (a : Nat) (hs : s.size ≤ 1000000) (ha : a ≤ s.size) (w : World) :
    Calls Try.prog 20 #[.string s, .int .i64 a] w fun e w' => e = .returned (.int .i64 ((a + skipL false (s.toList.drop a) : Nat) : Int)) ∧ w = w' := by
  go_enter Try.func20, Try.ntmps20
  go_wp2_with fail
  go_loop [1] (fun av => ∃ j : Nat, a ≤ j ∧ j ≤ s.size ∧ av = .int .i64 j ∧ a + skipL false (s.toList.drop a) = j + skipL false (s.toList.drop j)) (fun av => s.size - (intOf av).toNat)
  case atStart => exact ⟨a, Nat.le_refl _, ha, rfl, rfl⟩
  case round =>
    obtain ⟨j, hj1, hj2, rfl, hj3⟩ := hrel
    have HJ := hid' hj3
    clear hj3
    by_cases hlt : j < s.size
    rotate_left
    · have hlt' : ¬ (j : Int) < s.size := by omega
      have HZ := hid' (skipL_end s j (by omega) false)
      go_wp2_with fail
      go_ret
      have e1 := HJ.out
      rw [HZ.out] at e1
      exact ⟨congrArg (fun z : Int => Ending.returned (Value.int .i64 z)) (by omega), rfl⟩
    have hlt' : (j : Int) < s.size := by omega
    have h0j : (0 : Int) ≤ j := by omega
    have HS := hid' (skipL_f s j hlt)
    have HK := hid' (fun w => rkind_any s[j].toNat w)
    by_cases hk : kindI s[j].toNat = 1
    · have hk' : (kindI s[j].toNat == 1) = true := by simpa using hk
      have HKK := hid' hk
      clear hk
      go_wp2_with fail
      refine (HK.out _).mono ?_
      rintro e w' ⟨rfl, rfl⟩
      go_wp2_with fail
      go_round
      case rel => exact ⟨j + 1, by omega, by omega, by go_num, by rw [HJ.out, HS.out, if_pos HKK.out]; omega⟩
      case measure => simp [intOf]; omega
    have hk' : (kindI s[j].toNat == 1) = false := by simpa using hk
    have HKK := hid' hk
    clear hk
    by_cases e37 : s[j] = 37
    rotate_left
    · have u37 := u8F 37 e37 (37 : Int)
      have HE := hid' e37
      clear e37
      go_wp2_with fail
      refine (HK.out _).mono ?_
      rintro e w' ⟨rfl, rfl⟩
      go_wp2_with fail
      go_ret
      have e1 := HJ.out
      rw [HS.out, if_neg HKK.out, if_neg HE.out] at e1
      exact ⟨congrArg (fun z : Int => Ending.returned (Value.int .i64 z)) (by omega), rfl⟩
    have u37 := u8T 37 e37 (37 : Int)
    have H37 := hid' (skip_37 s j hlt e37)
    have hjN := hid' (show j < s.size ∧ (s[j]'hlt ≠ 10 ∧ s[j]'hlt ≠ 13) from ⟨hlt, by rw [e37]; decide, by rw [e37]; decide⟩)
    clear e37
    go_wp2_with fail
    refine (HK.out _).mono ?_
    rintro e w' ⟨rfl, rfl⟩
    go_wp2_with fail
    go_loop [1] (fun av => ∃ k : Nat, j ≤ k ∧ k ≤ s.size ∧ av = .int .i64 k ∧ a + skipL false (s.toList.drop a) = k + skipL true (s.toList.drop k) ∧ (k = j → True)) (fun av => s.size - (intOf av).toNat)
    case atStart => exact ⟨j, Nat.le_refl _, hj2, rfl, by rw [HJ.out, H37.out], fun _ => trivial⟩
    case round =>
      obtain ⟨k, hk1, hk2, rfl, hk3, -⟩ := hrel
      have HJ2 := hid' hk3
      clear hk3
      by_cases hlk : k < s.size
      rotate_left
      · have hlk' : ¬ (k : Int) < s.size := by omega
        obtain rfl : k = s.size := by omega
        have HZ := hid' (show skipL true (s.toList.drop s.size) = skipL false (s.toList.drop s.size) by rw [skipL_end s s.size (Nat.le_refl _) true, skipL_end s s.size (Nat.le_refl _) false])
        go_wp2_with fail
        go_round
        case rel => exact ⟨s.size, by omega, by omega, rfl, by rw [HJ2.out, HZ.out]⟩
        case measure => simp [intOf]; omega
      have hlk' : (k : Int) < s.size := by omega
      have h0k : (0 : Int) ≤ k := by omega
      by_cases hn : s[k] = 10 ∨ s[k] = 13
      · have HZ := hid' (skip_nl s k hlk hn)
        have hjk : j < k := by
          apply Classical.byContradiction
          intro h
          obtain rfl : k = j := by omega
          rcases hn with h | h
          · exact hjN.out.2.1 h
          · exact hjN.out.2.2 h
        have hnd : ((s[k].toNat : Int) != 10) = false ∨ (((s[k].toNat : Int) != 10) = true ∧ ((s[k].toNat : Int) != 13) = false) := by
          rcases hn with h | h
          · exact .inl (u8nF 10 h (10 : Int))
          · exact .inr ⟨u8nT 10 (by rw [h]; decide) (10 : Int), u8nF 13 h (13 : Int)⟩
        clear hn
        rcases hnd with d1 | ⟨d1, d2⟩
        all_goals
          go_wp2_with fail
          go_round
          case rel => exact ⟨k, by omega, by omega, rfl, by rw [HJ2.out, HZ.out]⟩
          case measure => simp [intOf]; omega
      · have d1 := u8nT 10 (fun h => hn (.inl h)) (10 : Int)
        have d2 := u8nT 13 (fun h => hn (.inr h)) (13 : Int)
        have HZ := hid' ((skipT_at s k hlk).trans (if_neg hn))
        clear hn
        go_wp2_with fail
        go_round
        case rel => exact ⟨k + 1, by omega, by omega, by go_num, by rw [HJ2.out, HZ.out]; omega, fun _ => trivial⟩
        case measure => simp [intOf]; omega
/-- A sign of one byte. -/
def sg1 (c : UInt8) : Int := if c = 123 then 7 else if c = 125 then 8 else if c = 91 then 9 else if c = 93 then 10 else 0
set_option maxRecDepth 100000 in
theorem rsign_any (c : UInt8) (w : World) : Calls Try.prog 34 #[.int .u8 c.toNat] w fun e w' => e = .returned (.int .i64 (sg1 c)) ∧ w = w' := by
  have hr : sg1 c = if c = 123 then 7 else if c = 125 then 8 else if c = 91 then 9 else if c = 93 then 10 else 0 := rfl
  by_cases c1 : c = 123
  · have u1 := u8T 123 c1 (123 : Int)
    have HR := hid' (hr.trans (if_pos c1))
    clear hr c1
    go_enter Try.func34, Try.ntmps34
    go_wp2_with fail
    go_ret
    exact ⟨by rw [HR.out]; rfl, rfl⟩
  have u1 := u8F 123 c1 (123 : Int)
  by_cases c2 : c = 125
  · have u2 := u8T 125 c2 (125 : Int)
    have HR := hid' (hr.trans ((if_neg c1).trans (if_pos c2)))
    clear hr c1 c2
    go_enter Try.func34, Try.ntmps34
    go_wp2_with fail
    go_ret
    exact ⟨by rw [HR.out]; rfl, rfl⟩
  have u2 := u8F 125 c2 (125 : Int)
  by_cases c3 : c = 91
  · have u3 := u8T 91 c3 (91 : Int)
    have HR := hid' (hr.trans ((if_neg c1).trans ((if_neg c2).trans (if_pos c3))))
    clear hr c1 c2 c3
    go_enter Try.func34, Try.ntmps34
    go_wp2_with fail
    go_ret
    exact ⟨by rw [HR.out]; rfl, rfl⟩
  have u3 := u8F 91 c3 (91 : Int)
  by_cases c4 : c = 93
  · have u4 := u8T 93 c4 (93 : Int)
    have HR := hid' (hr.trans ((if_neg c1).trans ((if_neg c2).trans ((if_neg c3).trans (if_pos c4)))))
    clear hr c1 c2 c3 c4
    go_enter Try.func34, Try.ntmps34
    go_wp2_with fail
    go_ret
    exact ⟨by rw [HR.out]; rfl, rfl⟩
  have u4 := u8F 93 c4 (93 : Int)
  have HR := hid' (hr.trans ((if_neg c1).trans ((if_neg c2).trans ((if_neg c3).trans (if_neg c4)))))
  clear hr c1 c2 c3 c4
  go_enter Try.func34, Try.ntmps34
  go_wp2_with fail
  go_ret
  exact ⟨by rw [HR.out]; rfl, rfl⟩
/-- Two bytes of a kind at the head. -/
def twoB (c : UInt8) (l : List UInt8) : Bool := [c, c].isPrefixOf l
theorem twoB_at (s : ByteArray) (a : Nat) (h : a < s.size) (c : UInt8) : twoB c (s.toList.drop a) = (decide (c = s[a]) && (if h1 : a + 1 < s.size then decide (c = s[a + 1]) else false)) := by
  unfold twoB
  rw [drop_at s a h]
  by_cases h1 : a + 1 < s.size
  · rw [drop_at s (a + 1) h1, dif_pos h1]
    simp [List.isPrefixOf]
    rw [Bool.eq_iff_iff]; simp
  · rw [drop_end s (a + 1) (by omega), dif_neg h1]
    simp [List.isPrefixOf]
set_option maxRecDepth 100000 in
set_option maxHeartbeats 1000000 in
theorem rtwo_any (s : ByteArray) (a : Nat) (c : UInt8) (hs : s.size ≤ 1000000) (ha : a < s.size) (w : World) :
    Calls Try.prog 35 #[.string s, .int .i64 a, .int .u8 c.toNat] w fun e w' => e = .returned (.bool (twoB c (s.toList.drop a))) ∧ w = w' := by
  have hr := twoB_at s a ha c
  have ha' : (a : Int) < s.size := by omega
  have h0 : (0 : Int) ≤ a := by omega
  by_cases h1 : a + 1 < s.size
  · have h1' : (a : Int) + 1 < s.size := by omega
    have h2 : ((a : Int) + 1).toNat = a + 1 := by omega
    have h3 : (0 : Int) ≤ (a : Int) + 1 := by omega
    rw [dif_pos h1] at hr
    by_cases e1 : s[a] = c
    · have u1 : ((s[a].toNat : Int) == (c.toNat : Int)) = true := by rw [e1]; simp
      have hr : twoB c (s.toList.drop a) = decide (c = s[a + 1]) := by rw [hr, decide_eq_true e1.symm]; rfl
      by_cases e2 : s[a + 1] = c
      · have u2 : ((s[a + 1].toNat : Int) == (c.toNat : Int)) = true := by rw [e2]; simp
        have HR := hid' (hr.trans (decide_eq_true e2.symm))
        clear hr e1 e2
        go_enter Try.func35, Try.ntmps35
        go_wp2_with fail
        go_ret
        exact ⟨by rw [HR.out]; rfl, rfl⟩
      · have u2 : ((s[a + 1].toNat : Int) == (c.toNat : Int)) = false := by
          simp only [beq_eq_false_iff_ne, ne_eq]
          intro e
          exact e2 (UInt8.toNat_inj.1 (by omega))
        have HR := hid' (hr.trans (decide_eq_false (fun e => e2 e.symm)))
        clear hr e1 e2
        go_enter Try.func35, Try.ntmps35
        go_wp2_with fail
        go_ret
        exact ⟨by rw [HR.out]; rfl, rfl⟩
    · have u1 : ((s[a].toNat : Int) == (c.toNat : Int)) = false := by
        simp only [beq_eq_false_iff_ne, ne_eq]
        intro e
        exact e1 (UInt8.toNat_inj.1 (by omega))
      have HR := hid' (show twoB c (s.toList.drop a) = false by rw [hr, decide_eq_false (fun e => e1 e.symm)]; rfl)
      clear hr e1
      go_enter Try.func35, Try.ntmps35
      go_wp2_with fail
      go_ret
      exact ⟨by rw [HR.out]; rfl, rfl⟩
  · have h1' : ¬ (a : Int) + 1 < s.size := by omega
    rw [dif_neg h1] at hr
    have HR := hid' (show twoB c (s.toList.drop a) = false by rw [hr, Bool.and_false])
    clear hr
    go_enter Try.func35, Try.ntmps35
    go_wp2_with fail
    go_ret
    exact ⟨by rw [HR.out]; rfl, rfl⟩
set_option maxRecDepth 100000 in
set_option maxHeartbeats 1000000 in
theorem rname_big (k : Int) (s : ByteArray) (a p : Nat) (hs : s.size ≤ 1000000) (hp : p ≤ 1000002) (c : 100 < regL (s.toList.drop p)) (w : World) :
    Calls Try.prog 37 #[.int .i64 k, .string s, .int .i64 a, .int .i64 p] w fun r w' => r = .returned (wordV Tok.nil a 5) ∧ Chg NoB w w' := by
  have HREG := hid' (fun w => rregular_any s p (by omega) (by omega) w)
  have c' : 100 < ((regL (s.toList.drop p) : Nat) : Int) := by omega
  generalize regL (s.toList.drop p) = n at *
  clear c
  go_enter Try.func37, Try.ntmps37
  go_wp2_with fail
  refine (HREG.out _).mono ?_
  rintro r w1 ⟨rfl, rfl⟩
  go_wp2_with fail
  refine bodyPost_ret (v := wordV Tok.nil a 5) (by simp [results, Try.results37, go_sem, Tok.nil]) rfl ?_
  exact ⟨rfl, (Chg.refl NoB w).alloc _⟩
set_option maxRecDepth 100000 in
set_option maxHeartbeats 1000000 in
theorem rname_ok (k : Int) (s : ByteArray) (a p : Nat) (hs : s.size ≤ 1000000) (hp : p ≤ s.size) (c : ¬ 100 < regL (s.toList.drop p)) (w : World) :
    Calls Try.prog 37 #[.int .i64 k, .string s, .int .i64 a, .int .i64 p] w fun r w' => r = .returned (wordV ⟨k, 0, bytesB ((s.toList.drop p).take (regL (s.toList.drop p))), a⟩ ((p + regL (s.toList.drop p) : Nat) : Int) 0) ∧ Chg NoB w w' := by
  have hn := regL_le (s.toList.drop p)
  rw [List.length_drop, size_lst] at hn
  have hx := extract_lst s p (regL (s.toList.drop p)) (by omega)
  have HREG := hid' (fun w => rregular_any s p (by omega) (by omega) w)
  have c' : ((regL (s.toList.drop p) : Nat) : Int) ≤ 100 := by omega
  generalize regL (s.toList.drop p) = n at *
  have hsum : (p : Int) + n ≤ s.size := by omega
  have HX := hid' hx
  clear hx c
  go_enter Try.func37, Try.ntmps37
  go_wp2_with fail
  refine (HREG.out _).mono ?_
  rintro r w1 ⟨rfl, rfl⟩
  go_wp2_with fail
  refine bodyPost_ret (v := wordV ⟨k, 0, s.extract p (p + n), a⟩ (p + n) 0) (by simp [results, Try.results37, go_sem]) rfl ?_
  exact ⟨by rw [HX.out]; simp only [Int.natCast_add], (Chg.refl NoB w).alloc _⟩
end Go.Proofs.Ytgahapnjlngebaa
/- Walk: layer 8's reference: word. -/
namespace Go.Proofs.Ytgahapnjlngebaa
open Go.RowKit

/-- A word with its place, as the reference hands it back. -/
def rwV (a : Nat) (R : Int × Tok × Nat) : Value := if R.1 = 0 then wordV { R.2.1 with pos := a } ((a + R.2.2 : Nat) : Int) 0 else wordV Tok.nil a R.1
theorem rwV_ok (a : Nat) (t : Tok) (n : Nat) {v : Value} (h : wordV { t with pos := a } ((a + n : Nat) : Int) 0 = v) : rwV a (0, t, n) = v := (if_pos rfl).trans h
theorem rwV_bad (a : Nat) (e : Int) (t : Tok) (n : Nat) (h : e ≠ 0) : rwV a (e, t, n) = wordV Tok.nil a e := if_neg h
theorem sgF_eq (c : UInt8) (t : List UInt8) : sgF 6 7 (c :: t) = if c = 123 then 7 else if c = 125 then 8 else if c = 91 then 9 else if c = 93 then 10 else if twoB 60 (c :: t) = true then 11 else if twoB 62 (c :: t) = true then 12 else 0 := by
  have h7 : pre 7 (c :: t) = decide (c = 123) := by
    rw [show pre 7 (c :: t) = ((123 : UInt8) == c && true) from rfl, Bool.and_true, Bool.eq_iff_iff, beq_iff_eq, decide_eq_true_eq]
    exact ⟨Eq.symm, Eq.symm⟩
  have h8 : pre 8 (c :: t) = decide (c = 125) := by
    rw [show pre 8 (c :: t) = ((125 : UInt8) == c && true) from rfl, Bool.and_true, Bool.eq_iff_iff, beq_iff_eq, decide_eq_true_eq]
    exact ⟨Eq.symm, Eq.symm⟩
  have h9 : pre 9 (c :: t) = decide (c = 91) := by
    rw [show pre 9 (c :: t) = ((91 : UInt8) == c && true) from rfl, Bool.and_true, Bool.eq_iff_iff, beq_iff_eq, decide_eq_true_eq]
    exact ⟨Eq.symm, Eq.symm⟩
  have h10 : pre 10 (c :: t) = decide (c = 93) := by
    rw [show pre 10 (c :: t) = ((93 : UInt8) == c && true) from rfl, Bool.and_true, Bool.eq_iff_iff, beq_iff_eq, decide_eq_true_eq]
    exact ⟨Eq.symm, Eq.symm⟩
  have h11 : pre 11 (c :: t) = twoB 60 (c :: t) := rfl
  have h12 : pre 12 (c :: t) = twoB 62 (c :: t) := rfl
  simp only [sgF, h7, h8, h9, h10, h11, h12, decide_eq_true_eq]
theorem two_head (x c : UInt8) (t : List UInt8) (h : twoB x (c :: t) = true) : c = x := by
  unfold twoB at h
  simp only [List.isPrefixOf, Bool.and_eq_true, beq_iff_eq] at h
  exact h.1.symm
set_option maxRecDepth 100000 in
set_option maxHeartbeats 1000000 in
theorem rword_any (s : ByteArray) (a : Nat) (hs : s.size ≤ 1000000) (ha : a < s.size) (w : World) :
    Calls Try.prog 21 #[.string s, .int .i64 a] w fun r w' => r = .returned (rwV a (wordF (s.toList.drop a))) ∧ Chg NoB w w' := by
  have HSG := hid' (fun w => rsign_any s[a] w)
  have H60 := hid' (fun w => rtwo_any s a 60 hs ha w)
  have H62 := hid' (fun w => rtwo_any s a 62 hs ha w)
  have H47 := hid' (fun w => rtwo_any s a 47 hs ha w)
  rw [show (((60 : UInt8).toNat : Nat) : Int) = 60 from rfl] at H60
  rw [show (((62 : UInt8).toNat : Nat) : Int) = 62 from rfl] at H62
  rw [show (((47 : UInt8).toNat : Nat) : Int) = 47 from rfl] at H47
  have hda := drop_at s a ha
  obtain ⟨R, hR⟩ : ∃ R, wordF (s.toList.drop a) = R := ⟨_, rfl⟩
  rw [hR]
  have hF := hR.symm
  clear hR
  unfold wordF at hF
  have hsg := sgF_eq s[a] (s.toList.drop (a + 1))
  rw [← hda] at hsg
  have hh : (s.toList.drop a).head? = some s[a] := by rw [hda]; rfl
  rw [hh] at hF
  have t60 := two_head 60 s[a] (s.toList.drop (a + 1))
  have t62 := two_head 62 s[a] (s.toList.drop (a + 1))
  have t47 := two_head 47 s[a] (s.toList.drop (a + 1))
  rw [← hda] at t60 t62 t47
  have htw : twoB 47 (s.toList.drop a) = true ↔ s[a] = 47 ∧ ((s.toList.drop a).drop 1).head? = some 47 := by
    rw [hda]
    unfold twoB
    cases hd : s.toList.drop (a + 1) with
    | nil => simp [List.isPrefixOf]
    | cons d u =>
      simp only [List.isPrefixOf, Bool.and_true, Bool.and_eq_true, beq_iff_eq, List.drop_succ_cons, List.drop_zero, List.head?_cons, Option.some.injEq]
      exact ⟨fun h => ⟨h.1.symm, h.2.symm⟩, fun h => ⟨h.1.symm, h.2.symm⟩⟩
  have ha' : (a : Int) < s.size := by omega
  have h0 : (0 : Int) ≤ a := by omega
  have a1 : (a : Int) ≤ s.size := by omega
  have hreg := regL_le (s.toList.drop a)
  rw [List.length_drop, size_lst] at hreg
  go_enter Try.func21, Try.ntmps21
  have hb := blk_new w (.cells #[.int .i64 0, .int .i64 0, .string ⟨#[]⟩, .int .i64 0] 31)
  have X := (Chg.refl NoB w).alloc (.cells #[.int .i64 0, .int .i64 0, .string ⟨#[]⟩, .int .i64 0] 31)
  have hge : w.heap.size ≤ w.heap.size := Nat.le_refl _
  go_upto_region 1 with (fail)
  generalize w.alloc _ = w1 at *
  obtain ⟨b4, hb4⟩ : ∃ b4, w.heap.size = b4 := ⟨_, rfl⟩
  have HGE := hid' (show w.heap.size ≤ b4 by omega)
  rw [hb4] at hb ⊢
  clear hge hb4
  have hge := HGE.out
  have R4 := cells_of hb
  have Z4 := free_of hb
  have l4 := blk_lt hb
  go_wp2_with fail
  refine (HSG.out _).mono ?_
  rintro e w' ⟨rfl, rfl⟩
  by_cases hz : sg1 s[a] = 0
  rotate_left
  · have hz' : (sg1 s[a] != 0) = true := by simpa using hz
    have hsk : ((sgF 6 7 (s.toList.drop a) : Nat) : Int) = sg1 s[a] ∧ (signL (sgF 6 7 (s.toList.drop a) : Nat)).length = 1 ∧ sgF 6 7 (s.toList.drop a) ≠ 0 := by
      rw [hsg]
      unfold sg1 at hz ⊢
      by_cases c1 : s[a] = 123
      · rw [if_pos c1, if_pos c1]; exact ⟨rfl, rfl, by decide⟩
      rw [if_neg c1] at hz ⊢
      rw [if_neg c1]
      by_cases c2 : s[a] = 125
      · rw [if_pos c2, if_pos c2]; exact ⟨rfl, rfl, by decide⟩
      rw [if_neg c2] at hz ⊢
      rw [if_neg c2]
      by_cases c3 : s[a] = 91
      · rw [if_pos c3, if_pos c3]; exact ⟨rfl, rfl, by decide⟩
      rw [if_neg c3] at hz ⊢
      rw [if_neg c3]
      by_cases c4 : s[a] = 93
      · rw [if_pos c4, if_pos c4]; exact ⟨rfl, rfl, by decide⟩
      rw [if_neg c4] at hz
      exact absurd rfl hz
    have hF1 := hF.trans (if_pos hsk.2.2)
    rw [hsk.2.1, hsk.1] at hF1
    have HF := hid' hF1
    clear hF hF1 hsk hsg hz t60 t62 t47 htw hda hh
    generalize sg1 s[a] = k at *
    go_wp2_with fail
    refine (HSG.out _).mono ?_
    rintro e w' ⟨rfl, rfl⟩
    go_wp2_with fail
    refine bodyPost_ret (v := wordV ⟨k, 0, ⟨#[]⟩, a⟩ (a + 1) 0) (by simp [results, Try.results21, go_sem, R4, cell_set_at, Tok.nil]) rfl ?_
    refine ⟨by rw [HF.out]; exact congrArg Ending.returned (rwV_ok _ _ _ (by first | rfl | (simp only [Int.natCast_add]; done) | (simp only [Int.natCast_add]; rfl))).symm, ?_⟩
    (repeat' (first | with_reducible assumption | with_reducible refine Chg.alloc ?_ _ | with_reducible refine Chg.drew ?_ | with_reducible refine Chg.drewN ?_ _ | with_reducible refine Chg.setCell ?_ (Or.inr ?_) _ | exact Nat.le_refl _ | exact Nat.le_add_right _ _ | (simp; done) | (simp; omega)))
  have hz' : (sg1 s[a] != 0) = false := by simpa using hz
  have hsg2 : sgF 6 7 (s.toList.drop a) = if twoB 60 (s.toList.drop a) = true then 11 else if twoB 62 (s.toList.drop a) = true then 12 else 0 := by
    rw [hsg]
    unfold sg1 at hz
    by_cases c1 : s[a] = 123
    · rw [if_pos c1] at hz; exact absurd hz (by decide)
    rw [if_neg c1] at hz
    by_cases c2 : s[a] = 125
    · rw [if_pos c2] at hz; exact absurd hz (by decide)
    rw [if_neg c2] at hz
    by_cases c3 : s[a] = 91
    · rw [if_pos c3] at hz; exact absurd hz (by decide)
    rw [if_neg c3] at hz
    by_cases c4 : s[a] = 93
    · rw [if_pos c4] at hz; exact absurd hz (by decide)
    rw [if_neg c1, if_neg c2, if_neg c3, if_neg c4]
  clear hsg
  generalize hk0 : sg1 s[a] = k0 at *
  clear hk0 hz
  obtain ⟨b60, hb60⟩ : ∃ b, twoB 60 (s.toList.drop a) = b := ⟨_, rfl⟩
  rw [hb60] at hsg2 t60 H60
  cases b60 with
  | true =>
    rw [if_pos rfl] at hsg2
    rw [hsg2] at hF
    have HF := hid' (hF.trans (if_pos (by decide)))
    clear hF hsg2 t60 t62 t47 htw hda hh hb60
    go_wp2_with fail
    refine (H60.out _).mono ?_
    rintro e w' ⟨rfl, rfl⟩
    go_wp2_with fail
    refine bodyPost_ret (v := wordV ⟨11, 0, ⟨#[]⟩, a⟩ (a + 2) 0) (by simp [results, Try.results21, go_sem, R4, cell_set_at, Tok.nil]) rfl ?_
    refine ⟨by rw [HF.out]; exact congrArg Ending.returned (rwV_ok _ _ _ (by first | rfl | (simp only [Int.natCast_add]; done) | (simp only [Int.natCast_add]; rfl))).symm, ?_⟩
    (repeat' (first | with_reducible assumption | with_reducible refine Chg.alloc ?_ _ | with_reducible refine Chg.drew ?_ | with_reducible refine Chg.drewN ?_ _ | with_reducible refine Chg.setCell ?_ (Or.inr ?_) _ | exact Nat.le_refl _ | exact Nat.le_add_right _ _ | (simp; done) | (simp; omega)))
  | false =>
  rw [if_neg (by decide)] at hsg2
  obtain ⟨b62, hb62⟩ : ∃ b, twoB 62 (s.toList.drop a) = b := ⟨_, rfl⟩
  rw [hb62] at hsg2 t62 H62
  cases b62 with
  | true =>
    rw [if_pos rfl] at hsg2
    rw [hsg2] at hF
    have HF := hid' (hF.trans (if_pos (by decide)))
    clear hF hsg2 t60 t62 t47 htw hda hh hb60 hb62
    go_wp2_with fail
    refine (H60.out _).mono ?_
    rintro e w' ⟨rfl, rfl⟩
    go_wp2_with fail
    refine (H62.out _).mono ?_
    rintro e w' ⟨rfl, rfl⟩
    go_wp2_with fail
    refine bodyPost_ret (v := wordV ⟨12, 0, ⟨#[]⟩, a⟩ (a + 2) 0) (by simp [results, Try.results21, go_sem, R4, cell_set_at, Tok.nil]) rfl ?_
    refine ⟨by rw [HF.out]; exact congrArg Ending.returned (rwV_ok _ _ _ (by first | rfl | (simp only [Int.natCast_add]; done) | (simp only [Int.natCast_add]; rfl))).symm, ?_⟩
    (repeat' (first | with_reducible assumption | with_reducible refine Chg.alloc ?_ _ | with_reducible refine Chg.drew ?_ | with_reducible refine Chg.drewN ?_ _ | with_reducible refine Chg.setCell ?_ (Or.inr ?_) _ | exact Nat.le_refl _ | exact Nat.le_add_right _ _ | (simp; done) | (simp; omega)))
  | false =>
  rw [if_neg (by decide)] at hsg2
  rw [hsg2] at hF
  have hF0 := hF.trans (if_neg (by decide))
  clear hF hsg2 hb60 hb62 t60 t62
  by_cases e40 : s[a] = 40
  · have u40 := u8T 40 e40 (40 : Int)
    have hF1 := hF0.trans (if_pos (.inl (by rw [e40])))
    clear e40
    have htl := takeF_len (s.toList.drop a)
    rw [List.length_drop, size_lst] at htl
    have hts := fun w => rtake_any (s.extract a s.size) (by have := ext_size s a s.size (Nat.le_refl _); omega) w
    rw [ext_end] at hts
    generalize takeF (s.toList.drop a) = T at *
    obtain ⟨te, tb, tn⟩ := T
    simp only at hts hF1 htl
    have HT := hid' hts
    clear hts hF0 hda hh t47 htw
    by_cases z : te = 0
    · subst z
      have HF := hid' hF1
      clear hF1
      go_wp2_with fail
      refine (H60.out _).mono ?_
      rintro e w' ⟨rfl, rfl⟩
      go_wp2_with fail
      refine (H62.out _).mono ?_
      rintro e w' ⟨rfl, rfl⟩
      go_wp2_with fail
      refine (HT.out _).mono ?_
      rintro r w2 ⟨rfl, X2⟩
      have hb2 := X2.blk hb id
      have R4 := cells_of hb2
      have Z4 := free_of hb2
      have l4 := blk_lt hb2
      have X3 := X.trans X2
      clear hb hb2 X X2
      go_wp2_with fail
      refine bodyPost_ret (v := wordV ⟨6, 0, bytesB tb, a⟩ (a + tn) 0) (by simp [results, Try.results21, go_sem, R4, cell_set_at, Tok.nil]) rfl ?_
      refine ⟨by rw [HF.out]; exact congrArg Ending.returned (rwV_ok _ _ _ (by first | rfl | (simp only [Int.natCast_add]; done) | (simp only [Int.natCast_add]; rfl))).symm, ?_⟩
      (repeat' (first | with_reducible assumption | with_reducible refine Chg.alloc ?_ _ | with_reducible refine Chg.drew ?_ | with_reducible refine Chg.drewN ?_ _ | with_reducible refine Chg.setCell ?_ (Or.inr ?_) _ | exact Nat.le_refl _ | exact Nat.le_add_right _ _ | (simp; done) | (simp; omega)))
    · have z' : (te != 0) = true := by simpa using z
      have HF := hid' hF1
      have HZ := hid' z
      clear hF1 z
      go_wp2_with fail
      refine (H60.out _).mono ?_
      rintro e w' ⟨rfl, rfl⟩
      go_wp2_with fail
      refine (H62.out _).mono ?_
      rintro e w' ⟨rfl, rfl⟩
      go_wp2_with fail
      refine (HT.out _).mono ?_
      rintro r w2 ⟨rfl, X2⟩
      have hb2 := X2.blk hb id
      have R4 := cells_of hb2
      have Z4 := free_of hb2
      have l4 := blk_lt hb2
      have X3 := X.trans X2
      clear hb hb2 X X2
      go_wp2_with fail
      refine bodyPost_ret (v := wordV Tok.nil a te) (by simp [results, Try.results21, go_sem, R4, cell_set_at, Tok.nil]) rfl ?_
      refine ⟨by rw [HF.out]; exact congrArg Ending.returned (rwV_bad _ _ _ _ (HZ.out)).symm, ?_⟩
      (repeat' (first | with_reducible assumption | with_reducible refine Chg.alloc ?_ _ | with_reducible refine Chg.drew ?_ | with_reducible refine Chg.drewN ?_ _ | with_reducible refine Chg.setCell ?_ (Or.inr ?_) _ | exact Nat.le_refl _ | exact Nat.le_add_right _ _ | (simp; done) | (simp; omega)))
  have u40 := u8F 40 e40 (40 : Int)
  by_cases e60 : s[a] = 60
  · have u60 := u8T 60 e60 (60 : Int)
    have hF1 := hF0.trans (if_pos (.inr (by rw [e60])))
    clear e60 e40
    have htl := takeF_len (s.toList.drop a)
    rw [List.length_drop, size_lst] at htl
    have hts := fun w => rtake_any (s.extract a s.size) (by have := ext_size s a s.size (Nat.le_refl _); omega) w
    rw [ext_end] at hts
    generalize takeF (s.toList.drop a) = T at *
    obtain ⟨te, tb, tn⟩ := T
    simp only at hts hF1 htl
    have HT := hid' hts
    clear hts hF0 hda hh t47 htw
    by_cases z : te = 0
    · subst z
      have HF := hid' hF1
      clear hF1
      go_wp2_with fail
      refine (H60.out _).mono ?_
      rintro e w' ⟨rfl, rfl⟩
      go_wp2_with fail
      refine (H62.out _).mono ?_
      rintro e w' ⟨rfl, rfl⟩
      go_wp2_with fail
      refine (HT.out _).mono ?_
      rintro r w2 ⟨rfl, X2⟩
      have hb2 := X2.blk hb id
      have R4 := cells_of hb2
      have Z4 := free_of hb2
      have l4 := blk_lt hb2
      have X3 := X.trans X2
      clear hb hb2 X X2
      go_wp2_with fail
      refine bodyPost_ret (v := wordV ⟨6, 0, bytesB tb, a⟩ (a + tn) 0) (by simp [results, Try.results21, go_sem, R4, cell_set_at, Tok.nil]) rfl ?_
      refine ⟨by rw [HF.out]; exact congrArg Ending.returned (rwV_ok _ _ _ (by first | rfl | (simp only [Int.natCast_add]; done) | (simp only [Int.natCast_add]; rfl))).symm, ?_⟩
      (repeat' (first | with_reducible assumption | with_reducible refine Chg.alloc ?_ _ | with_reducible refine Chg.drew ?_ | with_reducible refine Chg.drewN ?_ _ | with_reducible refine Chg.setCell ?_ (Or.inr ?_) _ | exact Nat.le_refl _ | exact Nat.le_add_right _ _ | (simp; done) | (simp; omega)))
    · have z' : (te != 0) = true := by simpa using z
      have HF := hid' hF1
      have HZ := hid' z
      clear hF1 z
      go_wp2_with fail
      refine (H60.out _).mono ?_
      rintro e w' ⟨rfl, rfl⟩
      go_wp2_with fail
      refine (H62.out _).mono ?_
      rintro e w' ⟨rfl, rfl⟩
      go_wp2_with fail
      refine (HT.out _).mono ?_
      rintro r w2 ⟨rfl, X2⟩
      have hb2 := X2.blk hb id
      have R4 := cells_of hb2
      have Z4 := free_of hb2
      have l4 := blk_lt hb2
      have X3 := X.trans X2
      clear hb hb2 X X2
      go_wp2_with fail
      refine bodyPost_ret (v := wordV Tok.nil a te) (by simp [results, Try.results21, go_sem, R4, cell_set_at, Tok.nil]) rfl ?_
      refine ⟨by rw [HF.out]; exact congrArg Ending.returned (rwV_bad _ _ _ _ (HZ.out)).symm, ?_⟩
      (repeat' (first | with_reducible assumption | with_reducible refine Chg.alloc ?_ _ | with_reducible refine Chg.drew ?_ | with_reducible refine Chg.drewN ?_ _ | with_reducible refine Chg.setCell ?_ (Or.inr ?_) _ | exact Nat.le_refl _ | exact Nat.le_add_right _ _ | (simp; done) | (simp; omega)))
  have u60 := u8F 60 e60 (60 : Int)
  have hF1 := hF0.trans (if_neg (by rintro (h | h); exact e40 (by simpa using h); exact e60 (by simpa using h)))
  clear hF0 e40 e60
  by_cases e62 : s[a] = 62
  · have u62 := u8T 62 e62 (62 : Int)
    have HF := hid' (hF1.trans (if_pos (.inl (by rw [e62]))))
    clear hF1 e62 hda hh t47 htw
    go_wp2_with fail
    refine (H60.out _).mono ?_
    rintro e w' ⟨rfl, rfl⟩
    go_wp2_with fail
    refine (H62.out _).mono ?_
    rintro e w' ⟨rfl, rfl⟩
    go_wp2_with fail
    refine bodyPost_ret (v := wordV Tok.nil a 3) (by simp [results, Try.results21, go_sem, R4, cell_set_at, Tok.nil]) rfl ?_
    refine ⟨by rw [HF.out]; exact congrArg Ending.returned (rwV_bad _ _ _ _ (by decide)).symm, ?_⟩
    (repeat' (first | with_reducible assumption | with_reducible refine Chg.alloc ?_ _ | with_reducible refine Chg.drew ?_ | with_reducible refine Chg.drewN ?_ _ | with_reducible refine Chg.setCell ?_ (Or.inr ?_) _ | exact Nat.le_refl _ | exact Nat.le_add_right _ _ | (simp; done) | (simp; omega)))
  have u62 := u8F 62 e62 (62 : Int)
  by_cases e41 : s[a] = 41
  · have u41 := u8T 41 e41 (41 : Int)
    have HF := hid' (hF1.trans (if_pos (.inr (by rw [e41]))))
    clear hF1 e41 e62 hda hh t47 htw
    go_wp2_with fail
    refine (H60.out _).mono ?_
    rintro e w' ⟨rfl, rfl⟩
    go_wp2_with fail
    refine (H62.out _).mono ?_
    rintro e w' ⟨rfl, rfl⟩
    go_wp2_with fail
    refine bodyPost_ret (v := wordV Tok.nil a 3) (by simp [results, Try.results21, go_sem, R4, cell_set_at, Tok.nil]) rfl ?_
    refine ⟨by rw [HF.out]; exact congrArg Ending.returned (rwV_bad _ _ _ _ (by decide)).symm, ?_⟩
    (repeat' (first | with_reducible assumption | with_reducible refine Chg.alloc ?_ _ | with_reducible refine Chg.drew ?_ | with_reducible refine Chg.drewN ?_ _ | with_reducible refine Chg.setCell ?_ (Or.inr ?_) _ | exact Nat.le_refl _ | exact Nat.le_add_right _ _ | (simp; done) | (simp; omega)))
  have u41 := u8F 41 e41 (41 : Int)
  have hF2 := hF1.trans (if_neg (by rintro (h | h); exact e62 (by simpa using h); exact e41 (by simpa using h)))
  clear hF1 e62 e41
  obtain ⟨b47, hb47⟩ : ∃ b, twoB 47 (s.toList.drop a) = b := ⟨_, rfl⟩
  rw [hb47] at htw t47 H47
  cases b47 with
  | true =>
    obtain ⟨g1, g2⟩ := htw.1 rfl
    have hF3 := hF2.trans ((if_pos (by rw [g1])).trans (if_pos g2))
    rw [List.drop_drop] at hF3
    have hsz2 : a + 2 ≤ s.size := by
      apply Classical.byContradiction
      intro h
      rw [List.drop_drop, drop_end s (a + 1) (by omega)] at g2
      simp at g2
    clear hF2 g1 g2 hda hh t47 htw hb47
    have hnf : nameF 5 (s.toList.drop (a + 2)) = if 100 < regL (s.toList.drop (a + 2)) then (5, Tok.nil, 0) else (0, nameT 5 ((s.toList.drop (a + 2)).take (regL (s.toList.drop (a + 2)))), regL (s.toList.drop (a + 2))) := rfl
    have ep : ((a + 2 : Nat) : Int) = (a : Int) + 2 := by omega
    by_cases big : 100 < regL (s.toList.drop (a + 2))
    · have HN := hid' (fun w => rname_big 5 s a (a + 2) hs (by omega) big w)
      rw [ep] at HN
      rw [hnf.trans (if_pos big)] at hF3
      have HF := hid' hF3
      clear hF3 hnf big ep 
      go_wp2_with fail
      refine (H60.out _).mono ?_
      rintro e w' ⟨rfl, rfl⟩
      go_wp2_with fail
      refine (H62.out _).mono ?_
      rintro e w' ⟨rfl, rfl⟩
      go_wp2_with fail
      refine (H47.out _).mono ?_
      rintro e w' ⟨rfl, rfl⟩
      go_wp2_with fail
      refine (HN.out _).mono ?_
      rintro r w2 ⟨rfl, X2⟩
      have hb2 := X2.blk hb id
      have R4 := cells_of hb2
      have Z4 := free_of hb2
      have l4 := blk_lt hb2
      have X3 := X.trans X2
      clear hb hb2 X X2
      go_wp2_with fail
      refine bodyPost_ret (v := wordV Tok.nil a 5) (by simp [results, Try.results21, go_sem, R4, cell_set_at, Tok.nil]) rfl ?_
      refine ⟨by rw [HF.out]; exact congrArg Ending.returned (rwV_bad _ _ _ _ (by decide)).symm, ?_⟩
      (repeat' (first | with_reducible assumption | with_reducible refine Chg.alloc ?_ _ | with_reducible refine Chg.drew ?_ | with_reducible refine Chg.drewN ?_ _ | with_reducible refine Chg.setCell ?_ (Or.inr ?_) _ | exact Nat.le_refl _ | exact Nat.le_add_right _ _ | (simp; done) | (simp; omega)))
    · have HN := hid' (fun w => rname_ok 5 s a (a + 2) hs (by omega) big w)
      rw [ep] at HN
      rw [hnf.trans (if_neg big)] at hF3
      have HF := hid' hF3
      clear hF3 hnf big ep 
      generalize regL (s.toList.drop (a + 2)) = n at *
      generalize (s.toList.drop (a + 2)).take n = tx at *
      go_wp2_with fail
      refine (H60.out _).mono ?_
      rintro e w' ⟨rfl, rfl⟩
      go_wp2_with fail
      refine (H62.out _).mono ?_
      rintro e w' ⟨rfl, rfl⟩
      go_wp2_with fail
      refine (H47.out _).mono ?_
      rintro e w' ⟨rfl, rfl⟩
      go_wp2_with fail
      refine (HN.out _).mono ?_
      rintro r w2 ⟨rfl, X2⟩
      have hb2 := X2.blk hb id
      have R4 := cells_of hb2
      have Z4 := free_of hb2
      have l4 := blk_lt hb2
      have X3 := X.trans X2
      clear hb hb2 X X2
      go_wp2_with fail
      refine bodyPost_ret (v := wordV ⟨5, 0, bytesB tx, a⟩ ((a + 2 + n : Nat) : Int) 0) (by simp [results, Try.results21, go_sem, R4, cell_set_at, Tok.nil]) rfl ?_
      refine ⟨by rw [HF.out]; exact congrArg Ending.returned (rwV_ok _ _ _ (by rw [show a + (2 + n) = a + 2 + n by omega])).symm, ?_⟩
      (repeat' (first | with_reducible assumption | with_reducible refine Chg.alloc ?_ _ | with_reducible refine Chg.drew ?_ | with_reducible refine Chg.drewN ?_ _ | with_reducible refine Chg.setCell ?_ (Or.inr ?_) _ | exact Nat.le_refl _ | exact Nat.le_add_right _ _ | (simp; done) | (simp; omega)))
  | false =>
  have hnt : ¬ (s[a] = 47 ∧ ((s.toList.drop a).drop 1).head? = some 47) := fun h => Bool.noConfusion (htw.2 h)
  by_cases e47 : s[a] = 47
  · have u47 := u8T 47 e47 (47 : Int)
    have hF3 := hF2.trans ((if_pos (by rw [e47])).trans (if_neg (fun h => hnt ⟨e47, h⟩)))
    rw [List.drop_drop] at hF3
    clear hF2 hnt hda hh t47 htw hb47 e47
    have hnf : nameF 4 (s.toList.drop (a + 1)) = if 100 < regL (s.toList.drop (a + 1)) then (5, Tok.nil, 0) else (0, nameT 4 ((s.toList.drop (a + 1)).take (regL (s.toList.drop (a + 1)))), regL (s.toList.drop (a + 1))) := rfl
    have ep : ((a + 1 : Nat) : Int) = (a : Int) + 1 := by omega
    by_cases big : 100 < regL (s.toList.drop (a + 1))
    · have HN := hid' (fun w => rname_big 4 s a (a + 1) hs (by omega) big w)
      rw [ep] at HN
      rw [hnf.trans (if_pos big)] at hF3
      have HF := hid' hF3
      clear hF3 hnf big ep 
      go_wp2_with fail
      refine (H60.out _).mono ?_
      rintro e w' ⟨rfl, rfl⟩
      go_wp2_with fail
      refine (H62.out _).mono ?_
      rintro e w' ⟨rfl, rfl⟩
      go_wp2_with fail
      refine (H47.out _).mono ?_
      rintro e w' ⟨rfl, rfl⟩
      go_wp2_with fail
      refine (HN.out _).mono ?_
      rintro r w2 ⟨rfl, X2⟩
      have hb2 := X2.blk hb id
      have R4 := cells_of hb2
      have Z4 := free_of hb2
      have l4 := blk_lt hb2
      have X3 := X.trans X2
      clear hb hb2 X X2
      go_wp2_with fail
      refine bodyPost_ret (v := wordV Tok.nil a 5) (by simp [results, Try.results21, go_sem, R4, cell_set_at, Tok.nil]) rfl ?_
      refine ⟨by rw [HF.out]; exact congrArg Ending.returned (rwV_bad _ _ _ _ (by decide)).symm, ?_⟩
      (repeat' (first | with_reducible assumption | with_reducible refine Chg.alloc ?_ _ | with_reducible refine Chg.drew ?_ | with_reducible refine Chg.drewN ?_ _ | with_reducible refine Chg.setCell ?_ (Or.inr ?_) _ | exact Nat.le_refl _ | exact Nat.le_add_right _ _ | (simp; done) | (simp; omega)))
    · have HN := hid' (fun w => rname_ok 4 s a (a + 1) hs (by omega) big w)
      rw [ep] at HN
      rw [hnf.trans (if_neg big)] at hF3
      have HF := hid' hF3
      clear hF3 hnf big ep 
      generalize regL (s.toList.drop (a + 1)) = n at *
      generalize (s.toList.drop (a + 1)).take n = tx at *
      go_wp2_with fail
      refine (H60.out _).mono ?_
      rintro e w' ⟨rfl, rfl⟩
      go_wp2_with fail
      refine (H62.out _).mono ?_
      rintro e w' ⟨rfl, rfl⟩
      go_wp2_with fail
      refine (H47.out _).mono ?_
      rintro e w' ⟨rfl, rfl⟩
      go_wp2_with fail
      refine (HN.out _).mono ?_
      rintro r w2 ⟨rfl, X2⟩
      have hb2 := X2.blk hb id
      have R4 := cells_of hb2
      have Z4 := free_of hb2
      have l4 := blk_lt hb2
      have X3 := X.trans X2
      clear hb hb2 X X2
      go_wp2_with fail
      refine bodyPost_ret (v := wordV ⟨4, 0, bytesB tx, a⟩ ((a + 1 + n : Nat) : Int) 0) (by simp [results, Try.results21, go_sem, R4, cell_set_at, Tok.nil]) rfl ?_
      refine ⟨by rw [HF.out]; exact congrArg Ending.returned (rwV_ok _ _ _ (by rw [show a + (1 + n) = a + 1 + n by omega])).symm, ?_⟩
      (repeat' (first | with_reducible assumption | with_reducible refine Chg.alloc ?_ _ | with_reducible refine Chg.drew ?_ | with_reducible refine Chg.drewN ?_ _ | with_reducible refine Chg.setCell ?_ (Or.inr ?_) _ | exact Nat.le_refl _ | exact Nat.le_add_right _ _ | (simp; done) | (simp; omega)))
  have u47 := u8F 47 e47 (47 : Int)
  have hF3 := hF2.trans (if_neg (by simpa using e47))
  clear hF2 hnt hda hh t47 htw hb47 e47
  have HREG := hid' (fun w => rregular_any s a (by omega) (by omega) w)
  have hxl := extract_lst s a (regL (s.toList.drop a)) (by omega)
  have hrd := fun w => rread6_any (s.extract a (a + regL (s.toList.drop a))) (by rw [ByteArray.size_extract]; omega) w
  rw [show (s.extract a (a + regL (s.toList.drop a))).toList = (s.toList.drop a).take (regL (s.toList.drop a)) by rw [hxl]; exact bytesB_lst _, hxl] at hrd
  have hnf : nameF 3 (s.toList.drop a) = if 100 < regL (s.toList.drop a) then (5, Tok.nil, 0) else (0, nameT 3 ((s.toList.drop a).take (regL (s.toList.drop a))), regL (s.toList.drop a)) := rfl
  have HNB := hid' (fun (big : 100 < regL (s.toList.drop a)) w => rname_big 3 s a a hs (by omega) big w)
  have HNO := hid' (fun (big : ¬ 100 < regL (s.toList.drop a)) w => rname_ok 3 s a a hs (by omega) big w)
  generalize regL (s.toList.drop a) = n at *
  generalize (s.toList.drop a).take n = tx at *
  generalize readF tx = RD at *
  obtain ⟨rk, rv, re⟩ := RD
  simp only at hF3
  have hxl' : s.extract a ((a : Int) + (n : Int)).toNat = bytesB tx := by rw [show ((a : Int) + (n : Int)).toNat = a + n by omega]; exact hxl
  have HRD := hid' hrd
  have sum : (a : Int) + n ≤ s.size := by omega
  have an : (a : Int) ≤ (a : Int) + n := by omega
  clear hrd
  by_cases z0 : re = 0
  · subst z0
    have HF := hid' (hF3.trans (if_pos rfl))
    clear hF3 hnf HNB HNO
    go_wp2_with fail
    refine (H60.out _).mono ?_
    rintro e w' ⟨rfl, rfl⟩
    go_wp2_with fail
    refine (H62.out _).mono ?_
    rintro e w' ⟨rfl, rfl⟩
    go_wp2_with fail
    refine (H47.out _).mono ?_
    rintro e w' ⟨rfl, rfl⟩
    go_wp2_with fail
    refine (HREG.out _).mono ?_
    rintro e w' ⟨rfl, rfl⟩
    go_wp2_with fail
    refine (HRD.out _).mono ?_
    rintro r w2 ⟨rfl, X2⟩
    have hb2 := X2.blk hb id
    have R4 := cells_of hb2
    have Z4 := free_of hb2
    have l4 := blk_lt hb2
    have X3 := X.trans X2
    clear hb hb2 X X2
    go_wp2_with fail
    refine bodyPost_ret (v := wordV ⟨rk, rv, ⟨#[]⟩, a⟩ (a + n) 0) (by simp [results, Try.results21, go_sem, R4, cell_set_at, Tok.nil]) rfl ?_
    refine ⟨by rw [HF.out]; exact congrArg Ending.returned (rwV_ok _ _ _ (by first | rfl | (simp only [Int.natCast_add]; done) | (simp only [Int.natCast_add]; rfl))).symm, ?_⟩
    (repeat' (first | with_reducible assumption | with_reducible refine Chg.alloc ?_ _ | with_reducible refine Chg.drew ?_ | with_reducible refine Chg.drewN ?_ _ | with_reducible refine Chg.setCell ?_ (Or.inr ?_) _ | exact Nat.le_refl _ | exact Nat.le_add_right _ _ | (simp; done) | (simp; omega)))
  have z0' : (re == 0) = false := by simpa using z0
  by_cases z2 : re = 2
  · subst z2
    have HF := hid' (hF3.trans ((if_neg (by decide)).trans (if_pos rfl)))
    clear hF3 hnf HNB HNO z0
    go_wp2_with fail
    refine (H60.out _).mono ?_
    rintro e w' ⟨rfl, rfl⟩
    go_wp2_with fail
    refine (H62.out _).mono ?_
    rintro e w' ⟨rfl, rfl⟩
    go_wp2_with fail
    refine (H47.out _).mono ?_
    rintro e w' ⟨rfl, rfl⟩
    go_wp2_with fail
    refine (HREG.out _).mono ?_
    rintro e w' ⟨rfl, rfl⟩
    go_wp2_with fail
    refine (HRD.out _).mono ?_
    rintro r w2 ⟨rfl, X2⟩
    have hb2 := X2.blk hb id
    have R4 := cells_of hb2
    have Z4 := free_of hb2
    have l4 := blk_lt hb2
    have X3 := X.trans X2
    clear hb hb2 X X2
    go_wp2_with fail
    refine bodyPost_ret (v := wordV Tok.nil a 2) (by simp [results, Try.results21, go_sem, R4, cell_set_at, Tok.nil]) rfl ?_
    refine ⟨by rw [HF.out]; exact congrArg Ending.returned (rwV_bad _ _ _ _ (by decide)).symm, ?_⟩
    (repeat' (first | with_reducible assumption | with_reducible refine Chg.alloc ?_ _ | with_reducible refine Chg.drew ?_ | with_reducible refine Chg.drewN ?_ _ | with_reducible refine Chg.setCell ?_ (Or.inr ?_) _ | exact Nat.le_refl _ | exact Nat.le_add_right _ _ | (simp; done) | (simp; omega)))
  have z2' : (re == 2) = false := by simpa using z2
  have hF4 := hF3.trans ((if_neg z0).trans (if_neg z2))
  clear hF3 z0 z2
  rw [hnf] at hF4
  by_cases big : 100 < n
  · have HN := hid' (HNB.out big)
    have HF := hid' (hF4.trans (if_pos big))
    clear hF4 hnf HNB HNO big
    go_wp2_with fail
    refine (H60.out _).mono ?_
    rintro e w' ⟨rfl, rfl⟩
    go_wp2_with fail
    refine (H62.out _).mono ?_
    rintro e w' ⟨rfl, rfl⟩
    go_wp2_with fail
    refine (H47.out _).mono ?_
    rintro e w' ⟨rfl, rfl⟩
    go_wp2_with fail
    refine (HREG.out _).mono ?_
    rintro e w' ⟨rfl, rfl⟩
    go_wp2_with fail
    refine (HRD.out _).mono ?_
    rintro r w2 ⟨rfl, X2⟩
    have hb4 := X2.blk hb id
    have R4 := cells_of hb4
    have Z4 := free_of hb4
    have l4 := blk_lt hb4
    have X3 := X.trans X2
    clear hb X X2
    go_wp2_with fail
    refine (HN.out _).mono ?_
    rintro r w5 ⟨rfl, X4⟩
    have hb5 := X4.blk hb4 id
    have R4 := cells_of hb5
    have Z4 := free_of hb5
    have l4 := blk_lt hb5
    have X5 := X3.trans X4
    clear hb4 hb5 X3 X4
    go_wp2_with fail
    refine bodyPost_ret (v := wordV Tok.nil a 5) (by simp [results, Try.results21, go_sem, R4, cell_set_at, Tok.nil]) rfl ?_
    refine ⟨by rw [HF.out]; exact congrArg Ending.returned (rwV_bad _ _ _ _ (by decide)).symm, ?_⟩
    (repeat' (first | with_reducible assumption | with_reducible refine Chg.alloc ?_ _ | with_reducible refine Chg.drew ?_ | with_reducible refine Chg.drewN ?_ _ | with_reducible refine Chg.setCell ?_ (Or.inr ?_) _ | exact Nat.le_refl _ | exact Nat.le_add_right _ _ | (simp; done) | (simp; omega)))
  · have HN := hid' (HNO.out big)
    have HF := hid' (hF4.trans (if_neg big))
    clear hF4 hnf HNB HNO big
    go_wp2_with fail
    refine (H60.out _).mono ?_
    rintro e w' ⟨rfl, rfl⟩
    go_wp2_with fail
    refine (H62.out _).mono ?_
    rintro e w' ⟨rfl, rfl⟩
    go_wp2_with fail
    refine (H47.out _).mono ?_
    rintro e w' ⟨rfl, rfl⟩
    go_wp2_with fail
    refine (HREG.out _).mono ?_
    rintro e w' ⟨rfl, rfl⟩
    go_wp2_with fail
    refine (HRD.out _).mono ?_
    rintro r w2 ⟨rfl, X2⟩
    have hb4 := X2.blk hb id
    have R4 := cells_of hb4
    have Z4 := free_of hb4
    have l4 := blk_lt hb4
    have X3 := X.trans X2
    clear hb X X2
    go_wp2_with fail
    refine (HN.out _).mono ?_
    rintro r w5 ⟨rfl, X4⟩
    have hb5 := X4.blk hb4 id
    have R4 := cells_of hb5
    have Z4 := free_of hb5
    have l4 := blk_lt hb5
    have X5 := X3.trans X4
    clear hb4 hb5 X3 X4
    go_wp2_with fail
    refine bodyPost_ret (v := wordV ⟨3, 0, bytesB tx, a⟩ ((a + n : Nat) : Int) 0) (by simp [results, Try.results21, go_sem, R4, cell_set_at, Tok.nil]) rfl ?_
    refine ⟨by rw [HF.out]; exact congrArg Ending.returned (rwV_ok a (nameT 3 tx) n rfl).symm, ?_⟩
    (repeat' (first | with_reducible assumption | with_reducible refine Chg.alloc ?_ _ | with_reducible refine Chg.drew ?_ | with_reducible refine Chg.drewN ?_ _ | with_reducible refine Chg.setCell ?_ (Or.inr ?_) _ | exact Nat.le_refl _ | exact Nat.le_add_right _ _ | (simp; done) | (simp; omega)))
end Go.Proofs.Ytgahapnjlngebaa
/- Walk: layer 8's reference: Next, All; what is out of range. -/
namespace Go.Proofs.Ytgahapnjlngebaa
open Go.RowKit

set_option maxRecDepth 100000 in
set_option maxHeartbeats 400000 in
theorem rnext_any (s : ByteArray) (a : Nat) (hs : s.size ≤ 1000000) (ha : a ≤ s.size) (w : World) :
    Calls Try.prog 13 #[.string s, .int .i64 a] w fun r w' => r = .returned (nextV a (s.toList.drop a)) ∧ Chg NoB w w' := by
  have ha' : (a : Int) ≤ s.size := by omega
  have h0 : (0 : Int) ≤ a := by omega
  have hsk := rskip_any s a hs ha
  have hl := skipL_len false (s.toList.drop a)
  rw [List.length_drop, size_lst] at hl
  have hN : nextF (s.toList.drop a) = if (s.toList.drop a).drop (skipL false (s.toList.drop a)) = [] then (0, Tok.nil, skipL false (s.toList.drop a), 0)
    else if (wordF ((s.toList.drop a).drop (skipL false (s.toList.drop a)))).1 = 0 then (0, (wordF ((s.toList.drop a).drop (skipL false (s.toList.drop a)))).2.1, skipL false (s.toList.drop a), (wordF ((s.toList.drop a).drop (skipL false (s.toList.drop a)))).2.2)
    else ((wordF ((s.toList.drop a).drop (skipL false (s.toList.drop a)))).1, Tok.nil, skipL false (s.toList.drop a), 0) := rfl
  have hT : tokAt a (s.toList.drop a) = if (s.toList.drop a).drop (skipL false (s.toList.drop a)) = [] ∨ (nextF (s.toList.drop a)).1 ≠ 0 then Tok.nil else { (nextF (s.toList.drop a)).2.1 with pos := ((a + skipL false (s.toList.drop a) : Nat) : Int) } := rfl
  rw [List.drop_drop] at hN hT
  change Calls _ _ _ _ (fun r w' => r = .returned (wordV (tokAt a (s.toList.drop a)) ((a + (nextF (s.toList.drop a)).2.2.1 + (nextF (s.toList.drop a)).2.2.2 : Nat) : Int) (nextF (s.toList.drop a)).1) ∧ Chg NoB w w')
  generalize tokAt a (s.toList.drop a) = T at *
  generalize nextF (s.toList.drop a) = N at *
  generalize skipL false (s.toList.drop a) = k at *
  generalize hj : a + k = j at *
  have hjs : j ≤ s.size := by omega
  have HJ := hid' hj
  have HSK := hid' hsk
  clear hsk hj
  by_cases c : j = s.size
  · have c1 : ((j : Int) == (s.size : Int)) = true := by rw [c]; simp
    have c2 : (j == s.size) = true := by rw [c]; simp
    have hd : s.toList.drop j = [] := drop_end s j (by omega)
    have hN1 := hN.trans (if_pos hd)
    have HT := hid' (hT.trans (if_pos (.inl hd)))
    have HN := hid' hN1
    clear hN hN1 hT hd c
    go_enter Try.func13, Try.ntmps13
    go_wp2_with fail
    refine (HSK.out _).mono ?_
    rintro r w1 ⟨rfl, rfl⟩
    go_wp2_with fail
    refine bodyPost_ret (v := wordV Tok.nil j 0) (by simp [results, Try.results13, go_sem, Tok.nil]) rfl ?_
    refine ⟨?_, (Chg.refl NoB w).alloc _⟩
    rw [HT.out, HN.out]
    simp only [HJ.out, Nat.add_zero]
  · have c1 : ((j : Int) == (s.size : Int)) = false := by simp; omega
    have c2 : (j == s.size) = false := by simpa using c
    have hjl : j < s.size := by omega
    have hd : ¬ s.toList.drop j = [] := by rw [drop_at s j hjl]; simp
    have hN1 := hN.trans (if_neg hd)
    have hW := fun w => rword_any s j hs hjl w
    generalize wordF (s.toList.drop j) = W at *
    obtain ⟨we, wt, wn⟩ := W
    simp only at hN1
    clear hN c
    by_cases e0 : we = 0
    · subst e0
      have hN2 := hN1.trans (if_pos rfl)
      have HT := hid' (hT.trans (if_neg (by rw [hN2]; rintro (h | h); exact hd h; exact h rfl)))
      have HN := hid' hN2
      rw [rwV_ok j wt wn rfl] at hW
      have HW := hid' hW
      obtain ⟨tk, tv, ts, tp⟩ := wt
      clear hN1 hN2 hT hd hW
      go_enter Try.func13, Try.ntmps13
      go_wp2_with fail
      refine (HSK.out _).mono ?_
      rintro r w1 ⟨rfl, rfl⟩
      go_wp2_with fail
      refine (HW.out _).mono ?_
      rintro r w1 ⟨rfl, X1⟩
      have hb := X1.blk (blk_new w (.cells #[.int .i64 0, .int .i64 0, .string ⟨#[]⟩, .int .i64 0] 31)) id
      have R4 := cells_of hb
      have Z4 := free_of hb
      have l4 := blk_lt hb
      have X2 := ((Chg.refl NoB w).alloc (.cells #[.int .i64 0, .int .i64 0, .string ⟨#[]⟩, .int .i64 0] 31)).trans X1
      clear X1 HW HSK
      go_wp2_with fail
      refine bodyPost_ret (v := wordV ⟨tk, tv, ts, j⟩ ((j + wn : Nat) : Int) 0) (by simp [results, Try.results13, go_sem, R4, cell_set_at]) rfl ?_
      refine ⟨?_, ?_⟩
      · rw [HT.out, HN.out]
        simp only [HJ.out]
      · (repeat' (first | with_reducible assumption | with_reducible refine Chg.alloc ?_ _ | with_reducible refine Chg.drew ?_ | with_reducible refine Chg.drewN ?_ _ | with_reducible refine Chg.setCell ?_ (Or.inr ?_) _ | exact Nat.le_refl _ | exact Nat.le_add_right _ _ | (simp; done) | (simp; omega)))
    · have hN2 := hN1.trans (if_neg e0)
      have HT := hid' (hT.trans (if_pos (by rw [hN2]; exact .inr e0)))
      have HN := hid' hN2
      rw [rwV_bad j we wt wn e0] at hW
      have HW := hid' hW
      clear hN1 hN2 hT hd hW e0
      go_enter Try.func13, Try.ntmps13
      go_wp2_with fail
      refine (HSK.out _).mono ?_
      rintro r w1 ⟨rfl, rfl⟩
      go_wp2_with fail
      refine (HW.out _).mono ?_
      rintro r w1 ⟨rfl, X1⟩
      have hb := X1.blk (blk_new w (.cells #[.int .i64 0, .int .i64 0, .string ⟨#[]⟩, .int .i64 0] 31)) id
      have R4 := cells_of hb
      have Z4 := free_of hb
      have l4 := blk_lt hb
      have X2 := ((Chg.refl NoB w).alloc (.cells #[.int .i64 0, .int .i64 0, .string ⟨#[]⟩, .int .i64 0] 31)).trans X1
      clear X1 HW HSK
      go_wp2_with fail
      refine bodyPost_ret (v := wordV Tok.nil j we) (by simp [results, Try.results13, go_sem, R4, cell_set_at, Tok.nil]) rfl ?_
      refine ⟨?_, ?_⟩
      · rw [HT.out, HN.out]
        simp only [HJ.out, Nat.add_zero]
      · (repeat' (first | with_reducible assumption | with_reducible refine Chg.alloc ?_ _ | with_reducible refine Chg.drew ?_ | with_reducible refine Chg.drewN ?_ _ | with_reducible refine Chg.setCell ?_ (Or.inr ?_) _ | exact Nat.le_refl _ | exact Nat.le_add_right _ _ | (simp; done) | (simp; omega)))
set_option maxRecDepth 100000 in
theorem next_out (s : ByteArray) (a : Int) (ha : a < 0 ∨ (s.size : Int) < a) (w : World) :
    Calls Try.prog 12 #[.string s, .int .i64 a] w fun r w' => r = .returned (wordV Tok.nil 0 1) ∧ Chg NoB w w' := by
  rcases ha with h | h
  · go_enter Try.func12, Try.ntmps12
    go_wp2_with fail
    refine bodyPost_ret (v := wordV Tok.nil 0 1) (by simp [results, Try.results12, go_sem, Tok.nil]) rfl ?_
    refine ⟨rfl, ?_⟩
    (repeat' (first | with_reducible assumption | with_reducible refine Chg.alloc ?_ _ | with_reducible refine Chg.drew ?_ | with_reducible refine Chg.drewN ?_ _ | with_reducible refine Chg.setCell ?_ (Or.inr ?_) _ | exact Nat.le_refl _ | exact Nat.le_add_right _ _ | (simp; done) | (simp; omega)))
    exact Chg.refl _ _
  · have h0 : ¬ a < 0 := by omega
    go_enter Try.func12, Try.ntmps12
    go_wp2_with fail
    refine bodyPost_ret (v := wordV Tok.nil 0 1) (by simp [results, Try.results12, go_sem, Tok.nil]) rfl ?_
    refine ⟨rfl, ?_⟩
    (repeat' (first | with_reducible assumption | with_reducible refine Chg.alloc ?_ _ | with_reducible refine Chg.drew ?_ | with_reducible refine Chg.drewN ?_ _ | with_reducible refine Chg.setCell ?_ (Or.inr ?_) _ | exact Nat.le_refl _ | exact Nat.le_add_right _ _ | (simp; done) | (simp; omega)))
    exact Chg.refl _ _
set_option maxRecDepth 100000 in
theorem rnext_out (s : ByteArray) (a : Int) (ha : a < 0 ∨ (s.size : Int) < a) (w : World) :
    Calls Try.prog 13 #[.string s, .int .i64 a] w fun r w' => r = .returned (wordV Tok.nil 0 1) ∧ Chg NoB w w' := by
  rcases ha with h | h
  · go_enter Try.func13, Try.ntmps13
    go_wp2_with fail
    refine bodyPost_ret (v := wordV Tok.nil 0 1) (by simp [results, Try.results13, go_sem, Tok.nil]) rfl ?_
    refine ⟨rfl, ?_⟩
    (repeat' (first | with_reducible assumption | with_reducible refine Chg.alloc ?_ _ | with_reducible refine Chg.drew ?_ | with_reducible refine Chg.drewN ?_ _ | with_reducible refine Chg.setCell ?_ (Or.inr ?_) _ | exact Nat.le_refl _ | exact Nat.le_add_right _ _ | (simp; done) | (simp; omega)))
    exact Chg.refl _ _
  · have h0 : ¬ a < 0 := by omega
    go_enter Try.func13, Try.ntmps13
    go_wp2_with fail
    refine bodyPost_ret (v := wordV Tok.nil 0 1) (by simp [results, Try.results13, go_sem, Tok.nil]) rfl ?_
    refine ⟨rfl, ?_⟩
    (repeat' (first | with_reducible assumption | with_reducible refine Chg.alloc ?_ _ | with_reducible refine Chg.drew ?_ | with_reducible refine Chg.drewN ?_ _ | with_reducible refine Chg.setCell ?_ (Or.inr ?_) _ | exact Nat.le_refl _ | exact Nat.le_add_right _ _ | (simp; done) | (simp; omega)))
    exact Chg.refl _ _
set_option maxRecDepth 100000 in
set_option maxHeartbeats 2000000 in
theorem rall8_any (s : ByteArray) (hs : s.size ≤ 1000000) (w : World) :
    Calls Try.prog 9 #[.string s] w (AllEnd w (allF s.toList)) := by
  obtain ⟨R, hR⟩ : ∃ R, allF s.toList = R := ⟨_, rfl⟩
  rw [hR]
  have hA : R = if 20000 < s.toList.length then (5, [], 0) else allW (s.toList.length + 1) s.toList 0 [] := hR.symm
  rw [size_lst] at hA
  clear hR
  obtain ⟨i0, hi, hz0, hz1, hz2⟩ := info_parts infoTok
  by_cases c : 20000 < s.size
  · have HR := hid' (hA.trans (if_pos c))
    have c' : 20000 < (s.size : Int) := by omega
    clear hA c
    go_enter Try.func9, Try.ntmps9
    go_wp2_with fail
    go_ret3
    unfold AllEnd
    rw [HR.out]
    exact ⟨_, rfl, Chg.refl _ _, World.ownsRow_nil _ _ _ _, fun _ => rfl⟩
  have HR := hid' (hA.trans (if_neg c))
  have c' : (s.size : Int) ≤ 20000 := by omega
  clear hA
  go_enter Try.func9, Try.ntmps9
  go_wp2_with fail
  go_loopw [5, 6] (fun lv av wr => ∃ (a f : Nat) (acc : List Tok), a ≤ s.size ∧ s.size - a < f ∧ av = .int .i64 a ∧ acc.length ≤ 4000 ∧ R = allW f (s.toList.drop a) a acc ∧ Chg NoB w wr ∧ wr.ownsRow w.heap.size 31 4 lv acc.length (toksV acc) ∧ (acc = [] → lv = .slice none 0 0)) (fun _ av _ => s.size - (intOf av).toNat)
  case atStart => exact ⟨0, s.size + 1, [], by omega, by omega, rfl, by simp, HR.out, Chg.refl _ _, World.ownsRow_nil _ _ _ _, fun _ => rfl⟩
  case round =>
    obtain ⟨a, f, acc, ha, hf, rfl, hal, hW, X, hown, hnil⟩ := hrel
    obtain ⟨f, rfl⟩ : ∃ f', f = f' + 1 := ⟨f - 1, by omega⟩
    have hNx := rnext_any s a hs ha wr
    have hpr := next_prog a (s.toList.drop a)
    rw [List.length_drop, size_lst] at hpr
    change Calls _ _ _ _ (fun r w' => r = .returned (wordV (tokAt a (s.toList.drop a)) ((a + (nextF (s.toList.drop a)).2.2.1 + (nextF (s.toList.drop a)).2.2.2 : Nat) : Int) (nextF (s.toList.drop a)).1) ∧ Chg NoB wr w') at hNx
    rw [allW, List.drop_drop] at hW
    generalize nextF (s.toList.drop a) = N at *
    generalize tokAt a (s.toList.drop a) = T at *
    obtain ⟨ne, nt, nk, nn⟩ := N
    obtain ⟨tk, tv, ts, tp⟩ := T
    simp only at hNx hpr hW
    have HN := hid' hNx
    have HP := hid' hpr
    have HO := hid' hown
    have HNL := hid' hnil
    obtain ⟨oa, oc, rfl, -⟩ := own_val hown
    clear hNx hpr hown hnil HR
    by_cases c1 : ne = 0
    rotate_left
    · have HF := hid' (hW.trans (if_pos c1))
      have c1' : (ne != 0) = true := by simpa using c1
      clear hW c1
      go_wp2_with fail
      refine HN.out.mono ?_
      rintro r w1 ⟨rfl, X1⟩
      go_wp2_with fail
      go_ret3
      unfold AllEnd
      rw [HF.out]
      exact ⟨_, rfl, (X.trans X1).alloc _, World.ownsRow_nil _ _ _ _, fun _ => rfl⟩
    have c1' : (ne != 0) = false := by rw [c1]; rfl
    have hW1 := hW.trans (if_neg (by simpa using c1))
    subst c1
    clear hW
    by_cases c2 : tk = 0
    · have HF := hid' (hW1.trans (if_pos c2))
      have c2' : (tk == 0) = true := by simpa using c2
      clear hW1 c2
      go_wp2_with fail
      refine HN.out.mono ?_
      rintro r w1 ⟨rfl, X1⟩
      go_wp2_with fail
      go_ret3
      unfold AllEnd
      rw [HF.out]
      have X2 := X1.alloc (.cells #[.int .i64 tk, .int .i64 tv, .string ts, .int .i64 tp] 31)
      exact ⟨_, rfl, X.trans X2, ownB HO.out X2 (fun _ _ e => e), HNL.out⟩
    have c2' : (tk == 0) = false := by simpa using c2
    have hW2 := hW1.trans (if_neg c2)
    obtain ⟨p1, p2, p3⟩ := HP.out c2
    clear hW1 HP c2
    by_cases c3 : acc.length = 4000
    · have HF := hid' (hW2.trans (if_pos c3))
      have c3' : ((acc.length : Int) == 4000) = true := by rw [c3]; rfl
      have HTP := hid' p3
      clear hW2 c3 p3
      go_wp2_with fail
      refine HN.out.mono ?_
      rintro r w1 ⟨rfl, X1⟩
      go_wp2_with fail
      have hb := blk_new w1 (.cells #[.int .i64 tk, .int .i64 tv, .string ts, .int .i64 tp] 31)
      have X2 := (X.trans X1).alloc (.cells #[.int .i64 tk, .int .i64 tv, .string ts, .int .i64 tp] 31)
      have R5 := cells_of hb
      have l5 := blk_lt hb
      generalize w1.alloc (.cells #[.int .i64 tk, .int .i64 tv, .string ts, .int .i64 tp] 31) = w2 at *
      clear hb X1
      go_quiet (fail)
      go_wp2_with fail
      go_ret3
      unfold AllEnd
      rw [HF.out]
      exact ⟨_, by rw [HTP.out]; rfl, X2.drewN _, World.ownsRow_nil _ _ _ _, fun _ => rfl⟩
    have c3' : ((acc.length : Int) == 4000) = false := by simp; omega
    have hW3 := hW2.trans (if_neg c3)
    have HF := hid' hW3
    have c4 : acc.length < 4000 := by omega
    clear hW2 hW3 c3 p3
    go_wp2_with fail
    refine HN.out.mono ?_
    rintro r w1 ⟨rfl, X1⟩
    have HO2 := hid' (fun o o' => ownB HO.out ((X1.alloc o).alloc o') (fun _ _ e => e))
    have HX := hid' (fun o o' => (X.trans X1).alloc o |>.alloc o')
    go_wp2_with (at_builtin; refine wpList_append_own_at _ rfl (.tmp 33) (.tmp 35) 23 rfl w.heap.size 31 i0 (.agg #[.int .i64 0, .int .i64 0, .string ⟨#[]⟩, .int .i64 0]) 4 40 underToks hi hz0 hz1 hz2 rfl (by decide) (.slice oa acc.length oc) acc.length (toksV acc) rfl (HO2.out _ _) _ 1 1 (Tok.cells ⟨tk, tv, ts, tp⟩) rfl rfl (fun j' u hj' => cells_newT _ _ _ _ j' u hj') (fun u hu => by simp only [Tok.cells, List.mem_cons, List.not_mem_nil, or_false] at hu; rcases hu with rfl | rfl | rfl | rfl <;> rfl) ?_ ?_ ?_ ?_; (unfold maxLen; omega); omega; (have := X.size; have := X1.size; simp; omega))
    intro v' w2 hown' hgr' hn' hat'
    have HO' := hid' (show w2.ownsRow w.heap.size 31 4 v' (acc ++ [(⟨tk, tv, ts, tp⟩ : Tok)]).length (toksV (acc ++ [(⟨tk, tv, ts, tp⟩ : Tok)])) by
      have e : toksV (acc ++ [(⟨tk, tv, ts, tp⟩ : Tok)]) = toksV acc ++ Tok.cells ⟨tk, tv, ts, tp⟩ := by simp [toksV]
      rw [e, List.length_append, List.length_singleton]; exact hown')
    have HX' := hid' (Chg.grown (HX.out _ _) hgr' (fun k hk => .inr (own_ge HO.out k (by simpa using hk)).1))
    clear hown' hgr' hn' hat'
    go_wp2_with fail
    go_roundw
    case rel => exact ⟨a + nk + nn, f, acc ++ [⟨tk, tv, ts, tp⟩], by omega, by omega, by first | rfl | go_num, by simp; omega, by rw [HF.out]; simp only [Nat.add_assoc], HX'.out, HO'.out, fun e => by simp at e⟩
    case measure => simp [intOf]; omega
end Go.Proofs.Ytgahapnjlngebaa
