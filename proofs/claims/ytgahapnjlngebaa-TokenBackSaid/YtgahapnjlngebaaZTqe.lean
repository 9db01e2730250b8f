/- Walk: quote.escape. -/
import Derived.Test.YtgahapnjlngebaaZChar
namespace Go.Proofs.Ytgahapnjlngebaa
open Go.RowKit

def isOct (c : UInt8) : Bool := decide (48 ≤ (c.toNat : Int)) && decide ((c.toNat : Int) ≤ 55)
def octL (l : List UInt8) : List UInt8 := (l.take 3).takeWhile isOct
def octV (v : Int) (l : List UInt8) : Int := l.foldl (fun v c => v * 8 + ((c.toNat : Int) - 48)) v
/-- The byte that is told behind a backslash, how many bytes tell it; false: none is told. -/
def escF : List UInt8 → Int × Nat × Bool
  | [] => (0, 0, false)
  | c :: t =>
    if c = 98 then (8, 1, true) else if c = 116 then (9, 1, true) else if c = 110 then (10, 1, true) else if c = 102 then (12, 1, true) else if c = 114 then (13, 1, true)
    else if c = 13 ∧ t.head? = some 10 then (0, 2, false)
    else if c = 10 ∨ c = 13 then (0, 1, false)
    else if (c.toNat : Int) < 48 ∨ 55 < (c.toNat : Int) then (c.toNat, 1, true)
    else (octV 0 (octL (c :: t)) % 256, (octL (c :: t)).length, true)
theorem escF_at (s : ByteArray) (k : Nat) (h : k < s.size) : escF (s.toList.drop k) =
    if s[k] = 98 then ((8 : Int), 1, true) else if s[k] = 116 then (9, 1, true) else if s[k] = 110 then (10, 1, true) else if s[k] = 102 then (12, 1, true) else if s[k] = 114 then (13, 1, true)
    else if s[k] = 13 ∧ (s.toList.drop (k + 1)).head? = some 10 then (0, 2, false)
    else if s[k] = 10 ∨ s[k] = 13 then (0, 1, false)
    else if (s[k].toNat : Int) < 48 ∨ 55 < (s[k].toNat : Int) then (s[k].toNat, 1, true)
    else (octV 0 (octL (s.toList.drop k)) % 256, (octL (s.toList.drop k)).length, true) := by
  rw [drop_at s k h]; rfl

theorem tup3 (a : Int) {b b' : Int} (h : b = b') : Ending.returned (.tuple #[.int .u8 a, .int .i64 b, .bool true]) = .returned (.tuple #[.int .u8 a, .int .i64 b', .bool true]) := by rw [h]
theorem octV_at (v : Int) (c : UInt8) (l : List UInt8) : octV v (c :: l) = octV (v * 8 + ((c.toNat : Int) - 48)) l := rfl
/-- The octal digits from k on, three at most: what is left of them at j. -/
def octR (s : ByteArray) (k j : Nat) : List UInt8 := ((s.toList.drop j).take (k + 3 - j)).takeWhile isOct
theorem octR_yes (s : ByteArray) (k j : Nat) (h : j < s.size) (h3 : j < k + 3) (h1 : 48 ≤ (s[j].toNat : Int)) (h2 : (s[j].toNat : Int) ≤ 55) : octR s k j = s[j] :: octR s k (j + 1) := by
  unfold octR
  rw [drop_at s j h, show k + 3 - j = (k + 3 - (j + 1)) + 1 by omega, List.take_succ_cons, List.takeWhile_cons, if_pos (by simp [isOct, h1, h2])]
theorem octR_no (s : ByteArray) (k j : Nat) (h : s.size ≤ j ∨ k + 3 ≤ j ∨ ∃ hj : j < s.size, (s[j].toNat : Int) < 48 ∨ 55 < (s[j].toNat : Int)) : octR s k j = [] := by
  unfold octR
  rcases h with h | h | ⟨h, hc⟩
  · rw [drop_end s j h]; simp
  · rw [show k + 3 - j = 0 by omega]; simp
  · rw [drop_at s j h]
    cases hm : k + 3 - j with
    | zero => simp
    | succ m => rw [List.take_succ_cons, List.takeWhile_cons, if_neg]; simp [isOct]; omega
theorem octR_start (s : ByteArray) (k : Nat) : octR s k k = octL (s.toList.drop k) := by unfold octR octL; rw [show k + 3 - k = 3 by omega]

set_option maxRecDepth 100000 in
set_option maxHeartbeats 1000000 in
theorem escape_any (s : ByteArray) (k : Nat) (hs : s.size ≤ 1000000) (h : k < s.size) (w : World) :
    Calls Try.prog 74 #[.string s, .int .i64 k] w fun e w' => e = .returned (.tuple #[.int .u8 (escF (s.toList.drop k)).1, .int .i64 ((k + (escF (s.toList.drop k)).2.1 : Nat) : Int), .bool (escF (s.toList.drop k)).2.2]) ∧ Chg NoB w w' := by
  have hE := escF_at s k h
  have h' : (k : Int) < s.size := by omega
  have h0 : (0 : Int) ≤ k := by omega
  by_cases e98 : s[k] = 98
  · have HR := hid' (hE.trans (if_pos e98))
    have u98 := u8Tr 98 e98 (98 : Int)
    clear hE
    clear e98
    go_enter Try.func74, Try.ntmps74
    go_wp2_with fail
    refine wp_loop_rounds 6 ?_
    rw [rounds_succ]
    go_wp2_with fail
    refine (qn8 _).mono ?_
    rintro e w' ⟨rfl, rfl⟩
    go_wp2_with fail
    go_ret3
    exact ⟨by rw [HR.out]; rfl, (Chg.refl NoB w).alloc _⟩
  have n98 : ¬ s[k] = 98 := e98
  by_cases e116 : s[k] = 116
  · have HR := hid' (hE.trans ((if_neg n98).trans (if_pos e116)))
    have u98 := u8Fr 98 n98 (98 : Int)
    have u116 := u8Tr 116 e116 (116 : Int)
    clear hE
    clear e116 n98
    go_enter Try.func74, Try.ntmps74
    go_wp2_with fail
    refine wp_loop_rounds 6 ?_
    rw [rounds_succ]
    go_wp2_with fail
    refine (qn8 _).mono ?_
    rintro e w' ⟨rfl, rfl⟩
    go_wp2_with fail
    rw [rounds_succ]
    go_wp2_with fail
    refine (qn9 _).mono ?_
    rintro e w' ⟨rfl, rfl⟩
    go_wp2_with fail
    go_ret3
    exact ⟨by rw [HR.out]; rfl, (Chg.refl NoB w).alloc _⟩
  have n116 : ¬ s[k] = 116 := e116
  by_cases e110 : s[k] = 110
  · have HR := hid' (hE.trans ((if_neg n98).trans ((if_neg n116).trans (if_pos e110))))
    have u98 := u8Fr 98 n98 (98 : Int)
    have u116 := u8Fr 116 n116 (116 : Int)
    have u110 := u8Tr 110 e110 (110 : Int)
    clear hE
    clear e110 n98 n116
    go_enter Try.func74, Try.ntmps74
    go_wp2_with fail
    refine wp_loop_rounds 6 ?_
    rw [rounds_succ]
    go_wp2_with fail
    refine (qn8 _).mono ?_
    rintro e w' ⟨rfl, rfl⟩
    go_wp2_with fail
    rw [rounds_succ]
    go_wp2_with fail
    refine (qn9 _).mono ?_
    rintro e w' ⟨rfl, rfl⟩
    go_wp2_with fail
    rw [rounds_succ]
    go_wp2_with fail
    refine (qn10 _).mono ?_
    rintro e w' ⟨rfl, rfl⟩
    go_wp2_with fail
    go_ret3
    exact ⟨by rw [HR.out]; rfl, (Chg.refl NoB w).alloc _⟩
  have n110 : ¬ s[k] = 110 := e110
  by_cases e102 : s[k] = 102
  · have HR := hid' (hE.trans ((if_neg n98).trans ((if_neg n116).trans ((if_neg n110).trans (if_pos e102)))))
    have u98 := u8Fr 98 n98 (98 : Int)
    have u116 := u8Fr 116 n116 (116 : Int)
    have u110 := u8Fr 110 n110 (110 : Int)
    have u102 := u8Tr 102 e102 (102 : Int)
    clear hE
    clear e102 n98 n116 n110
    go_enter Try.func74, Try.ntmps74
    go_wp2_with fail
    refine wp_loop_rounds 6 ?_
    rw [rounds_succ]
    go_wp2_with fail
    refine (qn8 _).mono ?_
    rintro e w' ⟨rfl, rfl⟩
    go_wp2_with fail
    rw [rounds_succ]
    go_wp2_with fail
    refine (qn9 _).mono ?_
    rintro e w' ⟨rfl, rfl⟩
    go_wp2_with fail
    rw [rounds_succ]
    go_wp2_with fail
    refine (qn10 _).mono ?_
    rintro e w' ⟨rfl, rfl⟩
    go_wp2_with fail
    rw [rounds_succ]
    go_wp2_with fail
    refine (qn12 _).mono ?_
    rintro e w' ⟨rfl, rfl⟩
    go_wp2_with fail
    go_ret3
    exact ⟨by rw [HR.out]; rfl, (Chg.refl NoB w).alloc _⟩
  have n102 : ¬ s[k] = 102 := e102
  by_cases e114 : s[k] = 114
  · have HR := hid' (hE.trans ((if_neg n98).trans ((if_neg n116).trans ((if_neg n110).trans ((if_neg n102).trans (if_pos e114))))))
    have u98 := u8Fr 98 n98 (98 : Int)
    have u116 := u8Fr 116 n116 (116 : Int)
    have u110 := u8Fr 110 n110 (110 : Int)
    have u102 := u8Fr 102 n102 (102 : Int)
    have u114 := u8Tr 114 e114 (114 : Int)
    clear hE
    clear e114 n98 n116 n110 n102
    go_enter Try.func74, Try.ntmps74
    go_wp2_with fail
    refine wp_loop_rounds 6 ?_
    rw [rounds_succ]
    go_wp2_with fail
    refine (qn8 _).mono ?_
    rintro e w' ⟨rfl, rfl⟩
    go_wp2_with fail
    rw [rounds_succ]
    go_wp2_with fail
    refine (qn9 _).mono ?_
    rintro e w' ⟨rfl, rfl⟩
    go_wp2_with fail
    rw [rounds_succ]
    go_wp2_with fail
    refine (qn10 _).mono ?_
    rintro e w' ⟨rfl, rfl⟩
    go_wp2_with fail
    rw [rounds_succ]
    go_wp2_with fail
    refine (qn12 _).mono ?_
    rintro e w' ⟨rfl, rfl⟩
    go_wp2_with fail
    rw [rounds_succ]
    go_wp2_with fail
    refine (qn13 _).mono ?_
    rintro e w' ⟨rfl, rfl⟩
    go_wp2_with fail
    go_ret3
    exact ⟨by rw [HR.out]; rfl, (Chg.refl NoB w).alloc _⟩
  have n114 : ¬ s[k] = 114 := e114
  have u98 := u8Fr 98 n98 (98 : Int)
  have u116 := u8Fr 116 n116 (116 : Int)
  have u110 := u8Fr 110 n110 (110 : Int)
  have u102 := u8Fr 102 n102 (102 : Int)
  have u114 := u8Fr 114 n114 (114 : Int)
  have hE2 := hE.trans ((if_neg n98).trans ((if_neg n116).trans ((if_neg n110).trans ((if_neg n102).trans ((if_neg n114).trans (rfl))))))
  clear hE
  clear n98 n116 n110 n102 n114
  clear e98 e116 e110 e102 e114
  by_cases e13 : s[k] = 13
  · have u13 := u8T 13 e13 (13 : Int)
    have u10 : ((s[k].toNat : Int) == 10) = false := by rw [e13]; rfl
    by_cases hk : k + 1 < s.size
    · have hk' : (k : Int) + 1 < s.size := by omega
      have hh : (s.toList.drop (k + 1)).head? = some s[k + 1] := by rw [drop_at s (k + 1) hk]; rfl
      by_cases en : s[k + 1] = 10
      · have v10 := u8T 10 en (10 : Int)
        have HR := hid' (hE2.trans (if_pos ⟨e13, by rw [hh, en]⟩))
        clear hE2 e13 hh en
        go_enter Try.func74, Try.ntmps74
        go_wp2_with fail
        refine wp_loop_rounds 6 ?_
        rw [rounds_succ]
        go_wp2_with fail
        refine (qn8 _).mono ?_
        rintro e w' ⟨rfl, rfl⟩
        go_wp2_with fail
        rw [rounds_succ]
        go_wp2_with fail
        refine (qn9 _).mono ?_
        rintro e w' ⟨rfl, rfl⟩
        go_wp2_with fail
        rw [rounds_succ]
        go_wp2_with fail
        refine (qn10 _).mono ?_
        rintro e w' ⟨rfl, rfl⟩
        go_wp2_with fail
        rw [rounds_succ]
        go_wp2_with fail
        refine (qn12 _).mono ?_
        rintro e w' ⟨rfl, rfl⟩
        go_wp2_with fail
        rw [rounds_succ]
        go_wp2_with fail
        refine (qn13 _).mono ?_
        rintro e w' ⟨rfl, rfl⟩
        go_wp2_with fail
        rw [rounds_succ]
        go_wp2_with fail
        go_ret3
        exact ⟨by rw [HR.out]; rfl, (Chg.refl NoB w).alloc _⟩
      · have v10 := u8F 10 en (10 : Int)
        have HR := hid' (hE2.trans ((if_neg (fun h => en (by have := h.2; rw [hh] at this; exact Option.some.inj this))).trans (if_pos (.inr e13))))
        clear hE2 e13 hh en
        go_enter Try.func74, Try.ntmps74
        go_wp2_with fail
        refine wp_loop_rounds 6 ?_
        rw [rounds_succ]
        go_wp2_with fail
        refine (qn8 _).mono ?_
        rintro e w' ⟨rfl, rfl⟩
        go_wp2_with fail
        rw [rounds_succ]
        go_wp2_with fail
        refine (qn9 _).mono ?_
        rintro e w' ⟨rfl, rfl⟩
        go_wp2_with fail
        rw [rounds_succ]
        go_wp2_with fail
        refine (qn10 _).mono ?_
        rintro e w' ⟨rfl, rfl⟩
        go_wp2_with fail
        rw [rounds_succ]
        go_wp2_with fail
        refine (qn12 _).mono ?_
        rintro e w' ⟨rfl, rfl⟩
        go_wp2_with fail
        rw [rounds_succ]
        go_wp2_with fail
        refine (qn13 _).mono ?_
        rintro e w' ⟨rfl, rfl⟩
        go_wp2_with fail
        rw [rounds_succ]
        go_wp2_with fail
        go_ret3
        exact ⟨by rw [HR.out]; rfl, (Chg.refl NoB w).alloc _⟩
    · have hk' : (s.size : Int) ≤ (k : Int) + 1 := by omega
      have hh : (s.toList.drop (k + 1)).head? = none := by rw [drop_end s (k + 1) (by omega)]; rfl
      have HR := hid' (hE2.trans ((if_neg (fun h => by have := h.2; rw [hh] at this; simp at this)).trans (if_pos (.inr e13))))
      clear hE2 e13 hh
      go_enter Try.func74, Try.ntmps74
      go_wp2_with fail
      refine wp_loop_rounds 6 ?_
      rw [rounds_succ]
      go_wp2_with fail
      refine (qn8 _).mono ?_
      rintro e w' ⟨rfl, rfl⟩
      go_wp2_with fail
      rw [rounds_succ]
      go_wp2_with fail
      refine (qn9 _).mono ?_
      rintro e w' ⟨rfl, rfl⟩
      go_wp2_with fail
      rw [rounds_succ]
      go_wp2_with fail
      refine (qn10 _).mono ?_
      rintro e w' ⟨rfl, rfl⟩
      go_wp2_with fail
      rw [rounds_succ]
      go_wp2_with fail
      refine (qn12 _).mono ?_
      rintro e w' ⟨rfl, rfl⟩
      go_wp2_with fail
      rw [rounds_succ]
      go_wp2_with fail
      refine (qn13 _).mono ?_
      rintro e w' ⟨rfl, rfl⟩
      go_wp2_with fail
      rw [rounds_succ]
      go_wp2_with fail
      go_ret3
      exact ⟨by rw [HR.out]; rfl, (Chg.refl NoB w).alloc _⟩
  have u13 := u8F 13 e13 (13 : Int)
  have hE3 := hE2.trans (if_neg (fun h => e13 h.1))
  clear hE2
  by_cases e10 : s[k] = 10
  · have u10 := u8T 10 e10 (10 : Int)
    have HR := hid' (hE3.trans (if_pos (.inl e10)))
    clear hE3 e10 e13
    go_enter Try.func74, Try.ntmps74
    go_wp2_with fail
    refine wp_loop_rounds 6 ?_
    rw [rounds_succ]
    go_wp2_with fail
    refine (qn8 _).mono ?_
    rintro e w' ⟨rfl, rfl⟩
    go_wp2_with fail
    rw [rounds_succ]
    go_wp2_with fail
    refine (qn9 _).mono ?_
    rintro e w' ⟨rfl, rfl⟩
    go_wp2_with fail
    rw [rounds_succ]
    go_wp2_with fail
    refine (qn10 _).mono ?_
    rintro e w' ⟨rfl, rfl⟩
    go_wp2_with fail
    rw [rounds_succ]
    go_wp2_with fail
    refine (qn12 _).mono ?_
    rintro e w' ⟨rfl, rfl⟩
    go_wp2_with fail
    rw [rounds_succ]
    go_wp2_with fail
    refine (qn13 _).mono ?_
    rintro e w' ⟨rfl, rfl⟩
    go_wp2_with fail
    rw [rounds_succ]
    go_wp2_with fail
    go_ret3
    exact ⟨by rw [HR.out]; rfl, (Chg.refl NoB w).alloc _⟩
  have u10 := u8F 10 e10 (10 : Int)
  have hE4 := hE3.trans (if_neg (by rintro (h | h); exact e10 h; exact e13 h))
  clear hE3 e10 e13
  by_cases l0 : (s[k].toNat : Int) < 48
  · have HR := hid' (hE4.trans (if_pos (.inl l0)))
    clear hE4
    go_enter Try.func74, Try.ntmps74
    go_wp2_with fail
    refine wp_loop_rounds 6 ?_
    rw [rounds_succ]
    go_wp2_with fail
    refine (qn8 _).mono ?_
    rintro e w' ⟨rfl, rfl⟩
    go_wp2_with fail
    rw [rounds_succ]
    go_wp2_with fail
    refine (qn9 _).mono ?_
    rintro e w' ⟨rfl, rfl⟩
    go_wp2_with fail
    rw [rounds_succ]
    go_wp2_with fail
    refine (qn10 _).mono ?_
    rintro e w' ⟨rfl, rfl⟩
    go_wp2_with fail
    rw [rounds_succ]
    go_wp2_with fail
    refine (qn12 _).mono ?_
    rintro e w' ⟨rfl, rfl⟩
    go_wp2_with fail
    rw [rounds_succ]
    go_wp2_with fail
    refine (qn13 _).mono ?_
    rintro e w' ⟨rfl, rfl⟩
    go_wp2_with fail
    rw [rounds_succ]
    go_wp2_with fail
    go_ret3
    exact ⟨by rw [HR.out]; rfl, (Chg.refl NoB w).alloc _⟩
  by_cases l1 : 55 < (s[k].toNat : Int)
  · have HR := hid' (hE4.trans (if_pos (.inr l1)))
    have l0' : 48 ≤ (s[k].toNat : Int) := by omega
    clear hE4
    go_enter Try.func74, Try.ntmps74
    go_wp2_with fail
    refine wp_loop_rounds 6 ?_
    rw [rounds_succ]
    go_wp2_with fail
    refine (qn8 _).mono ?_
    rintro e w' ⟨rfl, rfl⟩
    go_wp2_with fail
    rw [rounds_succ]
    go_wp2_with fail
    refine (qn9 _).mono ?_
    rintro e w' ⟨rfl, rfl⟩
    go_wp2_with fail
    rw [rounds_succ]
    go_wp2_with fail
    refine (qn10 _).mono ?_
    rintro e w' ⟨rfl, rfl⟩
    go_wp2_with fail
    rw [rounds_succ]
    go_wp2_with fail
    refine (qn12 _).mono ?_
    rintro e w' ⟨rfl, rfl⟩
    go_wp2_with fail
    rw [rounds_succ]
    go_wp2_with fail
    refine (qn13 _).mono ?_
    rintro e w' ⟨rfl, rfl⟩
    go_wp2_with fail
    rw [rounds_succ]
    go_wp2_with fail
    go_ret3
    exact ⟨by rw [HR.out]; rfl, (Chg.refl NoB w).alloc _⟩
  have HR := hid' (hE4.trans (if_neg (by rintro (h | h); exact l0 h; exact l1 h)))
  have l0' : 48 ≤ (s[k].toNat : Int) := by omega
  have l1' : (s[k].toNat : Int) ≤ 55 := by omega
  clear hE4
  go_enter Try.func74, Try.ntmps74
  go_wp2_with fail
  refine wp_loop_rounds 6 ?_
  rw [rounds_succ]
  go_wp2_with fail
  refine (qn8 _).mono ?_
  rintro e w' ⟨rfl, rfl⟩
  go_wp2_with fail
  rw [rounds_succ]
  go_wp2_with fail
  refine (qn9 _).mono ?_
  rintro e w' ⟨rfl, rfl⟩
  go_wp2_with fail
  rw [rounds_succ]
  go_wp2_with fail
  refine (qn10 _).mono ?_
  rintro e w' ⟨rfl, rfl⟩
  go_wp2_with fail
  rw [rounds_succ]
  go_wp2_with fail
  refine (qn12 _).mono ?_
  rintro e w' ⟨rfl, rfl⟩
  go_wp2_with fail
  rw [rounds_succ]
  go_wp2_with fail
  refine (qn13 _).mono ?_
  rintro e w' ⟨rfl, rfl⟩
  go_wp2_with fail
  rw [rounds_succ]
  go_wp2_with fail
  go_loop [1, 12] (fun i v => ∃ (j : Nat) (x : Int), k ≤ j ∧ j ≤ s.size ∧ i = .int .i64 j ∧ v = .int .i64 x ∧ 0 ≤ x ∧ ((j = k ∧ x = 0) ∨ (j = k + 1 ∧ x ≤ 7) ∨ (j = k + 2 ∧ x ≤ 63) ∨ (j = k + 3 ∧ x ≤ 511)) ∧
    octV 0 (octL (s.toList.drop k)) = octV x (octR s k j) ∧ (octL (s.toList.drop k)).length = (j - k) + (octR s k j).length) (fun i _ => s.size - (intOf i).toNat)
  case atStart => exact ⟨k, 0, Nat.le_refl _, by omega, rfl, rfl, by omega, .inl ⟨rfl, rfl⟩, by rw [octR_start], by rw [octR_start]; omega⟩
  case round =>
    obtain ⟨j, x, hj0, hj1, rfl, rfl, x0, hx, h1, h2⟩ := hrel
    have x1 : x ≤ 511 := by omega
    have j3 : j ≤ k + 3 := by omega
    have HX := hid' hx
    have H1 := hid' h1
    have H2 := hid' h2
    clear hx h1 h2
    by_cases c1 : j < s.size
    rotate_left
    · obtain rfl : j = s.size := by omega
      have HY := hid' (octR_no s k s.size (.inl (Nat.le_refl _)))
      go_wp2_with fail
      go_ret3
      exact ⟨by rw [HR.out, H1.out, H2.out, HY.out]; exact tup3 _ (by simp only [List.length_nil]; omega), (Chg.refl NoB w).alloc _⟩
    have c1' : (j : Int) < s.size := by omega
    by_cases c2 : j < k + 3
    rotate_left
    · have c2' : (k : Int) + 3 ≤ j := by omega
      have HY := hid' (octR_no s k j (.inr (.inl (by omega))))
      go_wp2_with fail
      go_ret3
      exact ⟨by rw [HR.out, H1.out, H2.out, HY.out]; exact tup3 _ (by simp only [List.length_nil]; omega), (Chg.refl NoB w).alloc _⟩
    have c2' : (j : Int) < (k : Int) + 3 := by omega
    by_cases c3 : (s[j].toNat : Int) < 48
    · have HY := hid' (octR_no s k j (.inr (.inr ⟨c1, .inl c3⟩)))
      go_wp2_with fail
      go_ret3
      exact ⟨by rw [HR.out, H1.out, H2.out, HY.out]; exact tup3 _ (by simp only [List.length_nil]; omega), (Chg.refl NoB w).alloc _⟩
    have c3' : 48 ≤ (s[j].toNat : Int) := by omega
    by_cases c4 : 55 < (s[j].toNat : Int)
    · have HY := hid' (octR_no s k j (.inr (.inr ⟨c1, .inr c4⟩)))
      go_wp2_with fail
      go_ret3
      exact ⟨by rw [HR.out, H1.out, H2.out, HY.out]; exact tup3 _ (by simp only [List.length_nil]; omega), (Chg.refl NoB w).alloc _⟩
    have c4' : (s[j].toNat : Int) ≤ 55 := by omega
    have HY := hid' (octR_yes s k j c1 c2 c3' c4')
    have HZ := hid' (octV_at x s[j] (octR s k (j + 1)))
    have hlt : x * 8 + ((s[j].toNat : Int) - 48) ≤ 5000 := by omega
    go_wp2_with fail
    go_round
    case rel => exact ⟨j + 1, _, by omega, by omega, by go_num, rfl, by omega, by have := HX.out; omega, by rw [H1.out, HY.out, HZ.out], by rw [H2.out, HY.out, List.length_cons]; omega⟩
    case measure => simp [intOf]; omega
end Go.Proofs.Ytgahapnjlngebaa
