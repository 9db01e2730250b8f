/- Walk: quote.Take. -/
import Derived.Test.YtgahapnjlngebaaZTq8
import Derived.Test.YtgahapnjlngebaaZChar
namespace Go.Proofs.Ytgahapnjlngebaa
open Go.RowKit

theorem tk_underStr : Try.prog.underlying 9 = some .string := by kernel_rfl
theorem tk_underByte : Try.prog.underlying 5 = some (.int .u8) := by kernel_rfl
/-- The bytes of a row of the call's own, as a string. -/
theorem own_str {w : World} {B : Nat} {v : Value} {b : List UInt8} (h : w.ownsRow B 5 1 v b.length (u8L b)) (W : World) (hW : Chg NoB w W) : (convert 35 9 v).run Try.prog W = .ok (.string ⟨b.toArray⟩) W := by
  have hc : (convert 35 9 v).run Try.prog W = (Conv.bytesToString v).run Try.prog W := by
    obtain ⟨a, c, rfl, -⟩ := own_val h
    cases a <;> simp only [convert, Sem.run_bind, run_underlying tk_underStr, run_underlying tq_under, run_underlying tk_underByte, Result.andThen_ok]
  rw [hc]
  rcases h.2 with ⟨rfl, h0⟩ | ⟨g, cap, cur, rfl, h1, h2, h3, h4, h5, h6⟩
  · obtain rfl : b = [] := List.eq_nil_of_length_eq_zero h0
    simp [Conv.bytesToString]; rfl
  · exact bytesToString_T Try.prog W ⟨g, 0, none⟩ b cap (fun i hi => by
      rw [add_z, cells_of (hW.blk h2 id) i, ← Array.getElem?_toList]
      have : cur.toList[i]? = (cur.toList.take (b.length * 1))[i]? := by rw [List.getElem?_take, if_pos (by omega)]
      rw [this, h6]
      simp [u8L, hi])

/-- A string's bytes at the head of a text: the error, the bytes, how many bytes tell them. -/
def takeW (l : List UInt8) : Int × List UInt8 × Nat :=
  if l.head? = some 40 then parenW (l.drop 1) 1 1 []
  else if l.head? = some 60 ∧ (l.drop 1).head? = some 126 then eightyW (l.drop 2) 2 [] []
  else if l.head? = some 60 then hexW (l.drop 1) 1 (-1) []
  else (3, [], 0)
def takeF (l : List UInt8) : Int × List UInt8 × Nat := if (takeW l).1 = 0 then takeW l else ((takeW l).1, [], 0)
abbrev takeV (R : Int × List UInt8 × Nat) : Value := .tuple #[.string ⟨R.2.1.toArray⟩, .int .i64 (R.2.2 : Nat), .int .i64 R.1]

set_option maxRecDepth 100000 in
set_option maxHeartbeats 2000000 in
theorem take_any (s : ByteArray) (hs : s.size ≤ 1000000) (w : World) :
    Calls Try.prog 31 #[.string s] w fun r w' => r = .returned (takeV (takeF s.toList)) ∧ Chg NoB w w' := by
  have hW : takeW s.toList = if s.toList.head? = some 40 then parenW (s.toList.drop 1) 1 1 [] else if s.toList.head? = some 60 ∧ (s.toList.drop 1).head? = some 126 then eightyW (s.toList.drop 2) 2 [] [] else if s.toList.head? = some 60 then hexW (s.toList.drop 1) 1 (-1) [] else (3, [], 0) := rfl
  have hF : takeF s.toList = if (takeW s.toList).1 = 0 then takeW s.toList else ((takeW s.toList).1, [], 0) := rfl
  have A : Tk w (w.alloc (tkBox (.slice none 0 0) 0)) w.heap.size (.slice none 0 0) [] 0 := ⟨(Chg.refl NoB w).alloc _, Nat.le_refl _, blk_new w _, World.ownsRow_nil _ _ _ _⟩
  have HA := hid' A
  clear A
  generalize takeF s.toList = F at *
  by_cases h0 : s.size = 0
  · have he : s.toList = [] := List.eq_nil_of_length_eq_zero (by rw [size_lst]; exact h0)
    have h3 : takeW s.toList = (3, [], 0) := by rw [hW, he]; rfl
    have HF := hid' (hF.trans (by rw [h3]))
    have hx : s.toList.isEmpty = true := by rw [he]; rfl
    have hx' : (!s.toList.isEmpty) = false := by rw [hx]; rfl
    have hz : (s.size : Int) ≤ 1 := by omega
    clear hW hF h3 he h0
    go_enter Try.func31, Try.ntmps31
    go_wp2_with fail
    go_ret3
    exact ⟨by rw [HF.out]; rfl, (Chg.refl NoB w).alloc _⟩
  have h1 : 1 ≤ s.size := by omega
  have h1' : 0 < (s.size : Int) := by omega
  have h1'' : 0 < s.size := h1
  have hh : s.toList.head? = some s[0] := by rw [← List.drop_zero (l := s.toList), drop_at s 0 h1]; rfl
  have hx : s.toList.isEmpty = false := by
    cases hl : s.toList with
    | nil => rw [hl] at hh; simp at hh
    | cons => rfl
  have hx' : (!s.toList.isEmpty) = true := by rw [hx]; rfl
  rw [hh] at hW
  clear h0 hh
  by_cases e40 : s[0] = 40
  · have u40 := u8T 40 e40 (40 : Int)
    have hW1 := hW.trans (if_pos (by rw [e40]))
    rw [hW1] at hF
    have HP := hid' (qparen_any HA.out s hs h1)
    generalize parenW (s.toList.drop 1) 1 1 [] = R at *
    clear hW hW1 e40
    go_enter Try.func31, Try.ntmps31
    go_wp2_with fail
    refine HP.out.mono ?_
    rintro r w1 ⟨v, b, rfl, A1, hb⟩
    have R0 := cells_of A1.box
    have l0 := blk_lt A1.box
    by_cases er : R.1 = 0
    · have er' : (R.1 != 0) = false := by rw [er]; rfl
      have HS := own_str A1.own _ (Chg.refl _ _)
      have HB := hid' (hb er)
      have X := A1.chg
      have HF := hid' (hF.trans (if_pos er))
      have HER := hid' er
      clear HP HA A1 hF er hb
      go_wp2_with fail
      go_ret3
      refine ⟨?_, X⟩
      rw [HF.out]
      exact congrArg Ending.returned (by rw [HB.out, show takeV R = .tuple #[.string ⟨R.2.1.toArray⟩, .int .i64 (R.2.2 : Nat), .int .i64 R.1] from rfl, HER.out]; rfl)
    · have er' : (R.1 != 0) = true := by simpa using er
      have X := A1.chg
      have HF := hid' (hF.trans (if_neg er))
      have HER := hid' er
      clear HP HA A1 hF er hb
      go_wp2_with fail
      go_quiet (fail)
      go_wp2_with fail
      go_ret3
      exact ⟨by rw [HF.out]; rfl, X.trans ((Chg.refl NoB _).drewN _)⟩
  have u40 := u8F 40 e40 (40 : Int)
  have hW1 := hW.trans (if_neg (by simpa using e40))
  clear hW e40
  by_cases e60 : s[0] = 60
  rotate_left
  · have u60 := u8F 60 e60 (60 : Int)
    have h3 := hW1.trans ((if_neg (fun h => e60 (by simpa using h.1))).trans (if_neg (by simpa using e60)))
    rw [h3] at hF
    have HF := hid' (hF.trans (if_neg (by decide)))
    clear hF h3 hW1 e60 HA
    by_cases hz : s.size ≤ 1
    · have hz' : (s.size : Int) ≤ 1 := by omega
      go_enter Try.func31, Try.ntmps31
      go_wp2_with fail
      go_ret3
      exact ⟨by rw [HF.out]; rfl, (Chg.refl NoB w).alloc _⟩
    · have hz' : 1 < (s.size : Int) := by omega
      go_enter Try.func31, Try.ntmps31
      go_wp2_with fail
      go_ret3
      exact ⟨by rw [HF.out]; rfl, (Chg.refl NoB w).alloc _⟩
  have u60 := u8T 60 e60 (60 : Int)
  by_cases hz : s.size ≤ 1
  · have hz' : (s.size : Int) ≤ 1 := by omega
    have hW2 := hW1.trans ((if_neg (fun h => by have := h.2; rw [drop_end s 1 hz] at this; simp at this)).trans (if_pos (by rw [e60])))
    rw [hW2] at hF
    have HP := hid' (qhex_any HA.out s hs h1)
    generalize hexW (s.toList.drop 1) 1 (-1) [] = R at *
    clear hW1 hW2 e60
    go_enter Try.func31, Try.ntmps31
    go_wp2_with fail
    refine HP.out.mono ?_
    rintro r w1 ⟨v, b, rfl, A1, hb⟩
    have R0 := cells_of A1.box
    have l0 := blk_lt A1.box
    by_cases er : R.1 = 0
    · have er' : (R.1 != 0) = false := by rw [er]; rfl
      have HS := own_str A1.own _ (Chg.refl _ _)
      have HB := hid' (hb er)
      have X := A1.chg
      have HF := hid' (hF.trans (if_pos er))
      have HER := hid' er
      clear HP HA A1 hF er hb
      go_wp2_with fail
      go_ret3
      refine ⟨?_, X⟩
      rw [HF.out]
      exact congrArg Ending.returned (by rw [HB.out, show takeV R = .tuple #[.string ⟨R.2.1.toArray⟩, .int .i64 (R.2.2 : Nat), .int .i64 R.1] from rfl, HER.out]; rfl)
    · have er' : (R.1 != 0) = true := by simpa using er
      have X := A1.chg
      have HF := hid' (hF.trans (if_neg er))
      have HER := hid' er
      clear HP HA A1 hF er hb
      go_wp2_with fail
      go_quiet (fail)
      go_wp2_with fail
      go_ret3
      exact ⟨by rw [HF.out]; rfl, X.trans ((Chg.refl NoB _).drewN _)⟩
  have hz' : 1 < (s.size : Int) := by omega
  have hz'' : 1 < s.size := by omega
  have hh : (s.toList.drop 1).head? = some s[1] := by rw [drop_at s 1 hz'']; rfl
  rw [hh] at hW1
  by_cases e126 : s[1] = 126
  · have u126 := u8T 126 e126 (126 : Int)
    have hW2 := hW1.trans (if_pos ⟨by rw [e60], by rw [e126]⟩)
    rw [hW2] at hF
    have HP := hid' (qeighty_any HA.out s hs hz'')
    generalize eightyW (s.toList.drop 2) 2 [] [] = R at *
    clear hW1 hW2 e60 e126 hh
    go_enter Try.func31, Try.ntmps31
    go_wp2_with fail
    refine HP.out.mono ?_
    rintro r w1 ⟨v, b, rfl, A1, hb⟩
    have R0 := cells_of A1.box
    have l0 := blk_lt A1.box
    by_cases er : R.1 = 0
    · have er' : (R.1 != 0) = false := by rw [er]; rfl
      have HS := own_str A1.own _ (Chg.refl _ _)
      have HB := hid' (hb er)
      have X := A1.chg
      have HF := hid' (hF.trans (if_pos er))
      have HER := hid' er
      clear HP HA A1 hF er hb
      go_wp2_with fail
      go_ret3
      refine ⟨?_, X⟩
      rw [HF.out]
      exact congrArg Ending.returned (by rw [HB.out, show takeV R = .tuple #[.string ⟨R.2.1.toArray⟩, .int .i64 (R.2.2 : Nat), .int .i64 R.1] from rfl, HER.out]; rfl)
    · have er' : (R.1 != 0) = true := by simpa using er
      have X := A1.chg
      have HF := hid' (hF.trans (if_neg er))
      have HER := hid' er
      clear HP HA A1 hF er hb
      go_wp2_with fail
      go_quiet (fail)
      go_wp2_with fail
      go_ret3
      exact ⟨by rw [HF.out]; rfl, X.trans ((Chg.refl NoB _).drewN _)⟩
  have u126 := u8F 126 e126 (126 : Int)
  have hW2 := hW1.trans ((if_neg (fun h => e126 (by simpa using h.2))).trans (if_pos (by rw [e60])))
  rw [hW2] at hF
  have HP := hid' (qhex_any HA.out s hs h1)
  generalize hexW (s.toList.drop 1) 1 (-1) [] = R at *
  clear hW1 hW2 e60 e126 hh
  go_enter Try.func31, Try.ntmps31
  go_wp2_with fail
  refine HP.out.mono ?_
  rintro r w1 ⟨v, b, rfl, A1, hb⟩
  have R0 := cells_of A1.box
  have l0 := blk_lt A1.box
  by_cases er : R.1 = 0
  · have er' : (R.1 != 0) = false := by rw [er]; rfl
    have HS := own_str A1.own _ (Chg.refl _ _)
    have HB := hid' (hb er)
    have X := A1.chg
    have HF := hid' (hF.trans (if_pos er))
    have HER := hid' er
    clear HP HA A1 hF er hb
    go_wp2_with fail
    go_ret3
    refine ⟨?_, X⟩
    rw [HF.out]
    exact congrArg Ending.returned (by rw [HB.out, show takeV R = .tuple #[.string ⟨R.2.1.toArray⟩, .int .i64 (R.2.2 : Nat), .int .i64 R.1] from rfl, HER.out]; rfl)
  · have er' : (R.1 != 0) = true := by simpa using er
    have X := A1.chg
    have HF := hid' (hF.trans (if_neg er))
    have HER := hid' er
    clear HP HA A1 hF er hb
    go_wp2_with fail
    go_quiet (fail)
    go_wp2_with fail
    go_ret3
    exact ⟨by rw [HF.out]; rfl, X.trans ((Chg.refl NoB _).drewN _)⟩
end Go.Proofs.Ytgahapnjlngebaa
