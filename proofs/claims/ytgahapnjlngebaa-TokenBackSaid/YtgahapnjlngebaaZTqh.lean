/- Walk: quote's (*taken).hex. -/
import Derived.Test.YtgahapnjlngebaaZTqp
namespace Go.Proofs.Ytgahapnjlngebaa
open Go.RowKit

/-- A string within <..>: half: what a first digit stands for, or below 0. -/
def hexW (l : List UInt8) (i : Nat) (half : Int) (b : List UInt8) : Int × List UInt8 × Nat :=
  match l with
  | [] => (4, [], 0)
  | c :: t =>
    if kindI c.toNat = 1 then hexW t (i + 1) half b
    else if c = 62 then if 0 ≤ half then if 4000 ≤ b.length then (5, [], 0) else (0, b ++ [u8of (half * 16)], i + 1) else (0, b, i + 1)
    else if valueI c.toNat < 0 ∨ 15 < valueI c.toNat then (3, [], 0)
    else if half < 0 then hexW t (i + 1) (valueI c.toNat) b
    else if 4000 ≤ b.length then (5, [], 0) else hexW t (i + 1) (-1) (b ++ [u8of (half * 16 + valueI c.toNat)])
theorem hexW_at (s : ByteArray) (j : Nat) (h : j < s.size) (half : Int) (b : List UInt8) : hexW (s.toList.drop j) j half b =
    if kindI s[j].toNat = 1 then hexW (s.toList.drop (j + 1)) (j + 1) half b
    else if s[j] = 62 then if 0 ≤ half then if 4000 ≤ b.length then (5, [], 0) else (0, b ++ [u8of (half * 16)], j + 1) else (0, b, j + 1)
    else if valueI s[j].toNat < 0 ∨ 15 < valueI s[j].toNat then (3, [], 0)
    else if half < 0 then hexW (s.toList.drop (j + 1)) (j + 1) (valueI s[j].toNat) b
    else if 4000 ≤ b.length then (5, [], 0) else hexW (s.toList.drop (j + 1)) (j + 1) (-1) (b ++ [u8of (half * 16 + valueI s[j].toNat)]) := by
  rw [drop_at s j h, hexW]
theorem hexW_end (s : ByteArray) (j i : Nat) (h : s.size ≤ j) (half : Int) (b : List UInt8) : hexW (s.toList.drop j) i half b = (4, [], 0) := by rw [drop_end s j h, hexW]

theorem valueI_le' (c : Int) : valueI c ≤ 35 ∧ -1 ≤ valueI c := by
  unfold valueI
  split
  · omega
  · split
    · omega
    · split <;> omega
set_option maxRecDepth 100000 in
set_option maxHeartbeats 2000000 in
theorem qhex_any {w0 w : World} {bt : Nat} {v0 : Value} (A : Tk w0 w bt v0 [] 0) (s : ByteArray) (hs : s.size ≤ 1000000) (h1 : 1 ≤ s.size) :
    Calls Try.prog 57 #[.pointer (some ⟨bt, 0, none⟩), .string s] w (TkEnd w0 bt (hexW (s.toList.drop 1) 1 (-1) [])) := by
  obtain ⟨R, hR⟩ : ∃ R, hexW (s.toList.drop 1) 1 (-1) [] = R := ⟨_, rfl⟩
  rw [hR]
  have HRR := hid' hR
  clear hR
  go_enter Try.func57, Try.ntmps57
  go_wp2_with fail
  go_loopw [5, 6] (fun hv iv wr => ∃ (j : Nat) (half : Int) (b : List UInt8) (v : Value), 1 ≤ j ∧ j ≤ s.size ∧ -1 ≤ half ∧ half ≤ 15 ∧ iv = .int .i64 j ∧ hv = .int .i64 half ∧ b.length ≤ 4000 ∧ Tk w0 wr bt v b 0 ∧ R = hexW (s.toList.drop j) j half b) (fun _ i _ => s.size - (intOf i).toNat)
  case atStart => exact ⟨1, -1, [], v0, Nat.le_refl _, h1, Int.le_refl _, by decide, rfl, rfl, Nat.zero_le _, A, HRR.out.symm⟩
  case round =>
    obtain ⟨j, half, b, v, hj1, hj2, hd1, hd2, rfl, rfl, hbl, A1, hW⟩ := hrel
    clear A
    have HA := hid' A1
    clear A1
    by_cases hlt : j < s.size
    rotate_left
    · obtain rfl : j = s.size := by omega
      have HW := hid' (hW.trans (hexW_end s s.size _ (Nat.le_refl _) half b))
      clear hW
      go_wp2_with fail
      refine (qbad_any HA.out 4).mono ?_
      rintro r w1 ⟨rfl, A2⟩
      have HB := hid' A2
      clear A2
      go_wp2_with fail
      go_ret
      unfold TkEnd
      rw [HW.out]
      exact ⟨v, b, rfl, HB.out, fun h => absurd h (by decide)⟩
    have hlt' : (j : Int) < s.size := by omega
    have hE := hW.trans (hexW_at s j hlt half b)
    clear hW
    have u0 : (s[j].toNat : Int) < 256 := by have := s[j].toNat_lt; omega
    obtain ⟨vl, vm⟩ := valueI_le' s[j].toNat
    by_cases ek : kindI s[j].toNat = 1
    · have uk : (kindI s[j].toNat == 1) = true := by simpa using ek
      have HC := hid' (hE.trans (if_pos ek))
      clear hE ek
      go_wp2_with fail
      refine (value_any _ (by omega) u0 _).mono ?_
      rintro r w1 ⟨rfl, rfl⟩
      go_wp2_with fail
      refine (ckind_any _ _).mono ?_
      rintro r w1 ⟨rfl, rfl⟩
      go_wp2_with fail
      go_roundw
      case rel => exact ⟨j + 1, half, b, v, by omega, by omega, hd1, hd2, by go_num, rfl, hbl, HA.out, HC.out⟩
      case measure => simp [intOf]; omega
    have uk : (kindI s[j].toNat == 1) = false := by simpa using ek
    have hE1 := hE.trans (if_neg ek)
    clear hE ek
    by_cases e62 : s[j] = 62
    · have u62 := u8T 62 e62 (62 : Int)
      have hE2 := hE1.trans (if_pos e62)
      clear hE1
      by_cases hh : 0 ≤ half
      · by_cases hf : 4000 ≤ b.length
        · have HC := hid' (hE2.trans ((if_pos hh).trans (if_pos hf)))
          clear hE2 e62
          go_wp2_with fail
          refine (value_any _ (by omega) u0 _).mono ?_
          rintro r w1 ⟨rfl, rfl⟩
          go_wp2_with fail
          refine (ckind_any _ _).mono ?_
          rintro r w1 ⟨rfl, rfl⟩
          go_wp2_with fail
          refine (qadd_full (HA.out.pure (Chg.alloc (Chg.refl NoB _) _)) _ [u8of (half * 16)] _ hbl (by simp) (by simp; omega)).mono ?_
          rintro r w1 ⟨rfl, A2⟩
          have HB := hid' A2
          clear A2
          go_wp2_with fail
          go_ret
          unfold TkEnd
          rw [HC.out]
          exact ⟨v, b, rfl, HB.out, fun h => absurd h (by decide)⟩
        · have HC := hid' (hE2.trans ((if_pos hh).trans (if_neg hf)))
          clear hE2 e62
          go_wp2_with fail
          refine (value_any _ (by omega) u0 _).mono ?_
          rintro r w1 ⟨rfl, rfl⟩
          go_wp2_with fail
          refine (ckind_any _ _).mono ?_
          rintro r w1 ⟨rfl, rfl⟩
          go_wp2_with fail
          refine (qadd_any (HA.out.pure (Chg.alloc (Chg.refl NoB _) _)) _ [u8of (half * 16)] _ (at8_int _ _ (by omega) (by omega)) (by simp) (by simp; omega)).mono ?_
          rintro r w1 ⟨rfl, v', A2⟩
          have HB := hid' A2
          clear A2
          go_wp2_with fail
          go_ret
          unfold TkEnd
          rw [HC.out]
          exact ⟨v', _, rfl, HB.out, fun _ => rfl⟩
      · have hh' : half < 0 := by omega
        have HC := hid' (hE2.trans (if_neg hh))
        clear hE2 e62
        go_wp2_with fail
        refine (value_any _ (by omega) u0 _).mono ?_
        rintro r w1 ⟨rfl, rfl⟩
        go_wp2_with fail
        refine (ckind_any _ _).mono ?_
        rintro r w1 ⟨rfl, rfl⟩
        go_wp2_with fail
        go_ret
        unfold TkEnd
        rw [HC.out]
        exact ⟨v, b, rfl, HA.out, fun _ => rfl⟩
    have u62 := u8F 62 e62 (62 : Int)
    have hE2 := hE1.trans (if_neg e62)
    clear hE1 e62
    by_cases c1 : valueI s[j].toNat < 0
    · have HC := hid' (hE2.trans (if_pos (.inl c1)))
      clear hE2
      go_wp2_with fail
      refine (value_any _ (by omega) u0 _).mono ?_
      rintro r w1 ⟨rfl, rfl⟩
      go_wp2_with fail
      refine (ckind_any _ _).mono ?_
      rintro r w1 ⟨rfl, rfl⟩
      go_wp2_with fail
      refine (qbad_any HA.out 3).mono ?_
      rintro r w1 ⟨rfl, A2⟩
      have HB := hid' A2
      clear A2
      go_wp2_with fail
      go_ret
      unfold TkEnd
      rw [HC.out]
      exact ⟨v, b, rfl, HB.out, fun h => absurd h (by decide)⟩
    have c1' : 0 ≤ valueI s[j].toNat := by omega
    by_cases c2 : 15 < valueI s[j].toNat
    · have HC := hid' (hE2.trans (if_pos (.inr c2)))
      clear hE2
      go_wp2_with fail
      refine (value_any _ (by omega) u0 _).mono ?_
      rintro r w1 ⟨rfl, rfl⟩
      go_wp2_with fail
      refine (ckind_any _ _).mono ?_
      rintro r w1 ⟨rfl, rfl⟩
      go_wp2_with fail
      refine (qbad_any HA.out 3).mono ?_
      rintro r w1 ⟨rfl, A2⟩
      have HB := hid' A2
      clear A2
      go_wp2_with fail
      go_ret
      unfold TkEnd
      rw [HC.out]
      exact ⟨v, b, rfl, HB.out, fun h => absurd h (by decide)⟩
    have c2' : valueI s[j].toNat ≤ 15 := by omega
    have hE3 := hE2.trans (if_neg (by rintro (h | h); exact c1 h; exact c2 h))
    clear hE2
    by_cases hh : half < 0
    · have HC := hid' (hE3.trans (if_pos hh))
      clear hE3
      go_wp2_with fail
      refine (value_any _ (by omega) u0 _).mono ?_
      rintro r w1 ⟨rfl, rfl⟩
      go_wp2_with fail
      refine (ckind_any _ _).mono ?_
      rintro r w1 ⟨rfl, rfl⟩
      go_wp2_with fail
      go_roundw
      case rel => exact ⟨j + 1, _, b, v, by omega, by omega, by omega, by omega, by go_num, rfl, hbl, HA.out, HC.out⟩
      case measure => simp [intOf]; omega
    have hh' : 0 ≤ half := by omega
    by_cases hf : 4000 ≤ b.length
    · have HC := hid' (hE3.trans ((if_neg hh).trans (if_pos hf)))
      clear hE3
      go_wp2_with fail
      refine (value_any _ (by omega) u0 _).mono ?_
      rintro r w1 ⟨rfl, rfl⟩
      go_wp2_with fail
      refine (ckind_any _ _).mono ?_
      rintro r w1 ⟨rfl, rfl⟩
      go_wp2_with fail
      refine (qadd_full (HA.out.pure (Chg.alloc (Chg.refl NoB _) _)) _ [u8of (half * 16 + valueI s[j].toNat)] _ hbl (by simp) (by simp; omega)).mono ?_
      rintro r w1 ⟨rfl, A2⟩
      have HB := hid' A2
      clear A2
      go_wp2_with fail
      go_ret
      unfold TkEnd
      rw [HC.out]
      exact ⟨v, b, rfl, HB.out, fun h => absurd h (by decide)⟩
    · have HC := hid' (hE3.trans ((if_neg hh).trans (if_neg hf)))
      clear hE3
      go_wp2_with fail
      refine (value_any _ (by omega) u0 _).mono ?_
      rintro r w1 ⟨rfl, rfl⟩
      go_wp2_with fail
      refine (ckind_any _ _).mono ?_
      rintro r w1 ⟨rfl, rfl⟩
      go_wp2_with fail
      refine (qadd_any (HA.out.pure (Chg.alloc (Chg.refl NoB _) _)) _ [u8of (half * 16 + valueI s[j].toNat)] _ (at8_int _ _ (by omega) (by omega)) (by simp) (by simp; omega)).mono ?_
      rintro r w1 ⟨rfl, v', A2⟩
      have HB := hid' A2
      clear A2
      go_wp2_with fail
      go_roundw
      case rel => exact ⟨j + 1, -1, _, v', by omega, by omega, by omega, by omega, by go_num, rfl, by simp; omega, HB.out, HC.out⟩
      case measure => simp [intOf]; omega
end Go.Proofs.Ytgahapnjlngebaa
