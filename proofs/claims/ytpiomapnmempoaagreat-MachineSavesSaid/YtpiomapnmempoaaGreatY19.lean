/- Parts of the proof: Tqe, Tqp, Tqh. -/
import Derived.Test.YtpiomapnmempoaaGreatY09
namespace Go.Proofs.YtpiomapnmempoaaGreat
open Go.RowKit
def isOct (c : UInt8) : Bool := decide (48 ≤ (c.toNat : Int)) && decide ((c.toNat : Int) ≤ 55)
def octL (l : List UInt8) : List UInt8 := (l.take 3).takeWhile isOct
def octV (v : Int) (l : List UInt8) : Int := l.foldl (fun v c => v * 8 + ((c.toNat : Int) - 48)) v
def escF : List UInt8 → Int × Nat × Bool
 | [] => (0, 0, false)
 | c :: t =>
  if c = 98 then (8, 1, true) else if c = 116 then (9, 1, true) else if c = 110 then (10, 1, true) else if c = 102 then (12, 1, true) else if c = 114 then (13, 1, true)
  else if c = 13 ∧ t.head? = some 10 then (0, 2, false)
  else if c = 10 ∨ c = 13 then (0, 1, false)
  else if (c.toNat : Int) < 48 ∨ 55 < (c.toNat : Int) then (c.toNat, 1, true)
  else (octV 0 (octL (c :: t)) % 256, (octL (c :: t)).length, true)
theorem escF_at (s : ByteArray) (k : Nat) (h : k < s.size) : escF (s.toList.drop k) =
 if s[k] = 98 then ((8 : Int), 1, true) else if s[k] = 116 then (9, 1, true) else if s[k] = 110 then (10, 1, true) else if s[k] = 102 then (12, 1, true) else if s[k] = 114 then (13, 1, true)
 else if s[k] = 13 ∧ (s.toList.drop (k + 1)).head? = some 10 then (0, 2, false)
 else if s[k] = 10 ∨ s[k] = 13 then (0, 1, false)
 else if (s[k].toNat : Int) < 48 ∨ 55 < (s[k].toNat : Int) then (s[k].toNat, 1, true)
 else (octV 0 (octL (s.toList.drop k)) % 256, (octL (s.toList.drop k)).length, true) := by
 rw [drop_at s k h]; rfl
theorem tup3 (a : Int) {b b' : Int} (h : b = b') : Ending.returned (.tuple #[.int .u8 a, .int .i64 b, .bool true]) = .returned (.tuple #[.int .u8 a, .int .i64 b', .bool true]) := by rw [h]
theorem octV_at (v : Int) (c : UInt8) (l : List UInt8) : octV v (c :: l) = octV (v * 8 + ((c.toNat : Int) - 48)) l := rfl
def octR (s : ByteArray) (k j : Nat) : List UInt8 := ((s.toList.drop j).take (k + 3 - j)).takeWhile isOct
theorem octR_yes (s : ByteArray) (k j : Nat) (h : j < s.size) (h3 : j < k + 3) (h1 : 48 ≤ (s[j].toNat : Int)) (h2 : (s[j].toNat : Int) ≤ 55) : octR s k j = s[j] :: octR s k (j + 1) := by
 unfold octR; rw [drop_at s j h, show k + 3 - j = (k + 3 - (j + 1)) + 1 by omega, List.take_succ_cons, List.takeWhile_cons, if_pos (by simp [isOct, h1, h2])]
theorem octR_no (s : ByteArray) (k j : Nat) (h : s.size ≤ j ∨ k + 3 ≤ j ∨ ∃ hj : j < s.size, (s[j].toNat : Int) < 48 ∨ 55 < (s[j].toNat : Int)) : octR s k j = [] := by
 unfold octR
 rcases h with h | h | ⟨h, hc⟩
 · rw [drop_end s j h]; simp
 · rw [show k + 3 - j = 0 by omega]; simp
 · rw [drop_at s j h]
   cases hm : k + 3 - j with
   | zero => simp
   | succ m => rw [List.take_succ_cons, List.takeWhile_cons, if_neg]; simp [isOct]; omega
theorem octR_start (s : ByteArray) (k : Nat) : octR s k k = octL (s.toList.drop k) := by unfold octR octL; rw [show k + 3 - k = 3 by omega]
set_option maxRecDepth 100000 in
set_option maxHeartbeats 1000000 in
theorem escape_any (s : ByteArray) (k : Nat) (hs : s.size ≤ 1000000) (h : k < s.size) (w : World) :
 Calls Tryz.prog 125 #[.string s, .int .i64 k] w fun e w' => e = .returned (.tuple #[.int .u8 (escF (s.toList.drop k)).1, .int .i64 ((k + (escF (s.toList.drop k)).2.1 : Nat) : Int), .bool (escF (s.toList.drop k)).2.2]) ∧ Chg NoB w w' := by
 have hE := escF_at s k h
 have h' : (k : Int) < s.size := by omega
 have h0 : (0 : Int) ≤ k := by omega
 by_cases e98 : s[k] = 98
 · have HR := hid' (hE.trans (if_pos e98)); have u98 := u8Tr 98 e98 (98 : Int); clear hE; clear e98; go_enter Tryz.func125, Tryz.ntmps125
   go_wp2_with fail
   refine wp_loop_rounds 6 ?_; rw [rounds_succ]; go_wp2_with fail
   refine (qn8 _).mono ?_; rintro e w' ⟨rfl, rfl⟩; go_wp2_with fail
   go_ret3; exact ⟨by rw [HR.out]; rfl, (Chg.refl NoB w).alloc _⟩
 have n98 : ¬ s[k] = 98 := e98
 by_cases e116 : s[k] = 116
 · have HR := hid' (hE.trans ((if_neg n98).trans (if_pos e116))); have u98 := u8Fr 98 n98 (98 : Int); have u116 := u8Tr 116 e116 (116 : Int); clear hE; clear e116 n98; go_enter Tryz.func125, Tryz.ntmps125
   go_wp2_with fail
   refine wp_loop_rounds 6 ?_; rw [rounds_succ]; go_wp2_with fail
   refine (qn8 _).mono ?_; rintro e w' ⟨rfl, rfl⟩; go_wp2_with fail
   rw [rounds_succ]; go_wp2_with fail
   refine (qn9 _).mono ?_; rintro e w' ⟨rfl, rfl⟩; go_wp2_with fail
   go_ret3; exact ⟨by rw [HR.out]; rfl, (Chg.refl NoB w).alloc _⟩
 have n116 : ¬ s[k] = 116 := e116
 by_cases e110 : s[k] = 110
 · have HR := hid' (hE.trans ((if_neg n98).trans ((if_neg n116).trans (if_pos e110)))); have u98 := u8Fr 98 n98 (98 : Int); have u116 := u8Fr 116 n116 (116 : Int); have u110 := u8Tr 110 e110 (110 : Int); clear hE; clear e110 n98 n116; go_enter Tryz.func125, Tryz.ntmps125
   go_wp2_with fail
   refine wp_loop_rounds 6 ?_; rw [rounds_succ]; go_wp2_with fail
   refine (qn8 _).mono ?_; rintro e w' ⟨rfl, rfl⟩; go_wp2_with fail
   rw [rounds_succ]; go_wp2_with fail
   refine (qn9 _).mono ?_; rintro e w' ⟨rfl, rfl⟩; go_wp2_with fail
   rw [rounds_succ]; go_wp2_with fail
   refine (qn10 _).mono ?_; rintro e w' ⟨rfl, rfl⟩; go_wp2_with fail
   go_ret3; exact ⟨by rw [HR.out]; rfl, (Chg.refl NoB w).alloc _⟩
 have n110 : ¬ s[k] = 110 := e110
 by_cases e102 : s[k] = 102
 · have HR := hid' (hE.trans ((if_neg n98).trans ((if_neg n116).trans ((if_neg n110).trans (if_pos e102))))); have u98 := u8Fr 98 n98 (98 : Int); have u116 := u8Fr 116 n116 (116 : Int); have u110 := u8Fr 110 n110 (110 : Int); have u102 := u8Tr 102 e102 (102 : Int); clear hE; clear e102 n98 n116 n110; go_enter Tryz.func125, Tryz.ntmps125
   go_wp2_with fail
   refine wp_loop_rounds 6 ?_; rw [rounds_succ]; go_wp2_with fail
   refine (qn8 _).mono ?_; rintro e w' ⟨rfl, rfl⟩; go_wp2_with fail
   rw [rounds_succ]; go_wp2_with fail
   refine (qn9 _).mono ?_; rintro e w' ⟨rfl, rfl⟩; go_wp2_with fail
   rw [rounds_succ]; go_wp2_with fail
   refine (qn10 _).mono ?_; rintro e w' ⟨rfl, rfl⟩; go_wp2_with fail
   rw [rounds_succ]; go_wp2_with fail
   refine (qn12 _).mono ?_; rintro e w' ⟨rfl, rfl⟩; go_wp2_with fail
   go_ret3; exact ⟨by rw [HR.out]; rfl, (Chg.refl NoB w).alloc _⟩
 have n102 : ¬ s[k] = 102 := e102
 by_cases e114 : s[k] = 114
 · have HR := hid' (hE.trans ((if_neg n98).trans ((if_neg n116).trans ((if_neg n110).trans ((if_neg n102).trans (if_pos e114)))))); have u98 := u8Fr 98 n98 (98 : Int); have u116 := u8Fr 116 n116 (116 : Int); have u110 := u8Fr 110 n110 (110 : Int); have u102 := u8Fr 102 n102 (102 : Int); have u114 := u8Tr 114 e114 (114 : Int); clear hE; clear e114 n98 n116 n110 n102; go_enter Tryz.func125, Tryz.ntmps125
   go_wp2_with fail
   refine wp_loop_rounds 6 ?_; rw [rounds_succ]; go_wp2_with fail
   refine (qn8 _).mono ?_; rintro e w' ⟨rfl, rfl⟩; go_wp2_with fail
   rw [rounds_succ]; go_wp2_with fail
   refine (qn9 _).mono ?_; rintro e w' ⟨rfl, rfl⟩; go_wp2_with fail
   rw [rounds_succ]; go_wp2_with fail
   refine (qn10 _).mono ?_; rintro e w' ⟨rfl, rfl⟩; go_wp2_with fail
   rw [rounds_succ]; go_wp2_with fail
   refine (qn12 _).mono ?_; rintro e w' ⟨rfl, rfl⟩; go_wp2_with fail
   rw [rounds_succ]; go_wp2_with fail
   refine (qn13 _).mono ?_; rintro e w' ⟨rfl, rfl⟩; go_wp2_with fail
   go_ret3; exact ⟨by rw [HR.out]; rfl, (Chg.refl NoB w).alloc _⟩
 have n114 : ¬ s[k] = 114 := e114; have u98 := u8Fr 98 n98 (98 : Int); have u116 := u8Fr 116 n116 (116 : Int); have u110 := u8Fr 110 n110 (110 : Int); have u102 := u8Fr 102 n102 (102 : Int); have u114 := u8Fr 114 n114 (114 : Int); have hE2 := hE.trans ((if_neg n98).trans ((if_neg n116).trans ((if_neg n110).trans ((if_neg n102).trans ((if_neg n114).trans (rfl)))))); clear hE; clear n98 n116 n110 n102 n114; clear e98 e116 e110 e102 e114
 by_cases e13 : s[k] = 13
 · have u13 := u8T 13 e13 (13 : Int)
   have u10 : ((s[k].toNat : Int) == 10) = false := by rw [e13]; rfl
   by_cases hk : k + 1 < s.size
   · have hk' : (k : Int) + 1 < s.size := by omega
     have hh : (s.toList.drop (k + 1)).head? = some s[k + 1] := by rw [drop_at s (k + 1) hk]; rfl
     by_cases en : s[k + 1] = 10
     · have v10 := u8T 10 en (10 : Int); have HR := hid' (hE2.trans (if_pos ⟨e13, by rw [hh, en]⟩)); clear hE2 e13 hh en; go_enter Tryz.func125, Tryz.ntmps125
       go_wp2_with fail
       refine wp_loop_rounds 6 ?_; rw [rounds_succ]; go_wp2_with fail
       refine (qn8 _).mono ?_; rintro e w' ⟨rfl, rfl⟩; go_wp2_with fail
       rw [rounds_succ]; go_wp2_with fail
       refine (qn9 _).mono ?_; rintro e w' ⟨rfl, rfl⟩; go_wp2_with fail
       rw [rounds_succ]; go_wp2_with fail
       refine (qn10 _).mono ?_; rintro e w' ⟨rfl, rfl⟩; go_wp2_with fail
       rw [rounds_succ]; go_wp2_with fail
       refine (qn12 _).mono ?_; rintro e w' ⟨rfl, rfl⟩; go_wp2_with fail
       rw [rounds_succ]; go_wp2_with fail
       refine (qn13 _).mono ?_; rintro e w' ⟨rfl, rfl⟩; go_wp2_with fail
       rw [rounds_succ]; go_wp2_with fail
       go_ret3; exact ⟨by rw [HR.out]; rfl, (Chg.refl NoB w).alloc _⟩
     · have v10 := u8F 10 en (10 : Int); have HR := hid' (hE2.trans ((if_neg (fun h => en (by have := h.2; rw [hh] at this; exact Option.some.inj this))).trans (if_pos (.inr e13)))); clear hE2 e13 hh en; go_enter Tryz.func125, Tryz.ntmps125
       go_wp2_with fail
       refine wp_loop_rounds 6 ?_; rw [rounds_succ]; go_wp2_with fail
       refine (qn8 _).mono ?_; rintro e w' ⟨rfl, rfl⟩; go_wp2_with fail
       rw [rounds_succ]; go_wp2_with fail
       refine (qn9 _).mono ?_; rintro e w' ⟨rfl, rfl⟩; go_wp2_with fail
       rw [rounds_succ]; go_wp2_with fail
       refine (qn10 _).mono ?_; rintro e w' ⟨rfl, rfl⟩; go_wp2_with fail
       rw [rounds_succ]; go_wp2_with fail
       refine (qn12 _).mono ?_; rintro e w' ⟨rfl, rfl⟩; go_wp2_with fail
       rw [rounds_succ]; go_wp2_with fail
       refine (qn13 _).mono ?_; rintro e w' ⟨rfl, rfl⟩; go_wp2_with fail
       rw [rounds_succ]; go_wp2_with fail
       go_ret3; exact ⟨by rw [HR.out]; rfl, (Chg.refl NoB w).alloc _⟩
   · have hk' : (s.size : Int) ≤ (k : Int) + 1 := by omega
     have hh : (s.toList.drop (k + 1)).head? = none := by rw [drop_end s (k + 1) (by omega)]; rfl
     have HR := hid' (hE2.trans ((if_neg (fun h => by have := h.2; rw [hh] at this; simp at this)).trans (if_pos (.inr e13)))); clear hE2 e13 hh; go_enter Tryz.func125, Tryz.ntmps125
     go_wp2_with fail
     refine wp_loop_rounds 6 ?_; rw [rounds_succ]; go_wp2_with fail
     refine (qn8 _).mono ?_; rintro e w' ⟨rfl, rfl⟩; go_wp2_with fail
     rw [rounds_succ]; go_wp2_with fail
     refine (qn9 _).mono ?_; rintro e w' ⟨rfl, rfl⟩; go_wp2_with fail
     rw [rounds_succ]; go_wp2_with fail
     refine (qn10 _).mono ?_; rintro e w' ⟨rfl, rfl⟩; go_wp2_with fail
     rw [rounds_succ]; go_wp2_with fail
     refine (qn12 _).mono ?_; rintro e w' ⟨rfl, rfl⟩; go_wp2_with fail
     rw [rounds_succ]; go_wp2_with fail
     refine (qn13 _).mono ?_; rintro e w' ⟨rfl, rfl⟩; go_wp2_with fail
     rw [rounds_succ]; go_wp2_with fail
     go_ret3; exact ⟨by rw [HR.out]; rfl, (Chg.refl NoB w).alloc _⟩
 have u13 := u8F 13 e13 (13 : Int); have hE3 := hE2.trans (if_neg (fun h => e13 h.1)); clear hE2
 by_cases e10 : s[k] = 10
 · have u10 := u8T 10 e10 (10 : Int); have HR := hid' (hE3.trans (if_pos (.inl e10))); clear hE3 e10 e13; go_enter Tryz.func125, Tryz.ntmps125
   go_wp2_with fail
   refine wp_loop_rounds 6 ?_; rw [rounds_succ]; go_wp2_with fail
   refine (qn8 _).mono ?_; rintro e w' ⟨rfl, rfl⟩; go_wp2_with fail
   rw [rounds_succ]; go_wp2_with fail
   refine (qn9 _).mono ?_; rintro e w' ⟨rfl, rfl⟩; go_wp2_with fail
   rw [rounds_succ]; go_wp2_with fail
   refine (qn10 _).mono ?_; rintro e w' ⟨rfl, rfl⟩; go_wp2_with fail
   rw [rounds_succ]; go_wp2_with fail
   refine (qn12 _).mono ?_; rintro e w' ⟨rfl, rfl⟩; go_wp2_with fail
   rw [rounds_succ]; go_wp2_with fail
   refine (qn13 _).mono ?_; rintro e w' ⟨rfl, rfl⟩; go_wp2_with fail
   rw [rounds_succ]; go_wp2_with fail
   go_ret3; exact ⟨by rw [HR.out]; rfl, (Chg.refl NoB w).alloc _⟩
 have u10 := u8F 10 e10 (10 : Int); have hE4 := hE3.trans (if_neg (by rintro (h | h); exact e10 h; exact e13 h)); clear hE3 e10 e13
 by_cases l0 : (s[k].toNat : Int) < 48
 · have HR := hid' (hE4.trans (if_pos (.inl l0))); clear hE4; go_enter Tryz.func125, Tryz.ntmps125
   go_wp2_with fail
   refine wp_loop_rounds 6 ?_; rw [rounds_succ]; go_wp2_with fail
   refine (qn8 _).mono ?_; rintro e w' ⟨rfl, rfl⟩; go_wp2_with fail
   rw [rounds_succ]; go_wp2_with fail
   refine (qn9 _).mono ?_; rintro e w' ⟨rfl, rfl⟩; go_wp2_with fail
   rw [rounds_succ]; go_wp2_with fail
   refine (qn10 _).mono ?_; rintro e w' ⟨rfl, rfl⟩; go_wp2_with fail
   rw [rounds_succ]; go_wp2_with fail
   refine (qn12 _).mono ?_; rintro e w' ⟨rfl, rfl⟩; go_wp2_with fail
   rw [rounds_succ]; go_wp2_with fail
   refine (qn13 _).mono ?_; rintro e w' ⟨rfl, rfl⟩; go_wp2_with fail
   rw [rounds_succ]; go_wp2_with fail
   go_ret3; exact ⟨by rw [HR.out]; rfl, (Chg.refl NoB w).alloc _⟩
 by_cases l1 : 55 < (s[k].toNat : Int)
 · have HR := hid' (hE4.trans (if_pos (.inr l1)))
   have l0' : 48 ≤ (s[k].toNat : Int) := by omega
   clear hE4; go_enter Tryz.func125, Tryz.ntmps125
   go_wp2_with fail
   refine wp_loop_rounds 6 ?_; rw [rounds_succ]; go_wp2_with fail
   refine (qn8 _).mono ?_; rintro e w' ⟨rfl, rfl⟩; go_wp2_with fail
   rw [rounds_succ]; go_wp2_with fail
   refine (qn9 _).mono ?_; rintro e w' ⟨rfl, rfl⟩; go_wp2_with fail
   rw [rounds_succ]; go_wp2_with fail
   refine (qn10 _).mono ?_; rintro e w' ⟨rfl, rfl⟩; go_wp2_with fail
   rw [rounds_succ]; go_wp2_with fail
   refine (qn12 _).mono ?_; rintro e w' ⟨rfl, rfl⟩; go_wp2_with fail
   rw [rounds_succ]; go_wp2_with fail
   refine (qn13 _).mono ?_; rintro e w' ⟨rfl, rfl⟩; go_wp2_with fail
   rw [rounds_succ]; go_wp2_with fail
   go_ret3; exact ⟨by rw [HR.out]; rfl, (Chg.refl NoB w).alloc _⟩
 have HR := hid' (hE4.trans (if_neg (by rintro (h | h); exact l0 h; exact l1 h)))
 have l0' : 48 ≤ (s[k].toNat : Int) := by omega
 have l1' : (s[k].toNat : Int) ≤ 55 := by omega
 clear hE4; go_enter Tryz.func125, Tryz.ntmps125
 go_wp2_with fail
 refine wp_loop_rounds 6 ?_; rw [rounds_succ]; go_wp2_with fail
 refine (qn8 _).mono ?_; rintro e w' ⟨rfl, rfl⟩; go_wp2_with fail
 rw [rounds_succ]; go_wp2_with fail
 refine (qn9 _).mono ?_; rintro e w' ⟨rfl, rfl⟩; go_wp2_with fail
 rw [rounds_succ]; go_wp2_with fail
 refine (qn10 _).mono ?_; rintro e w' ⟨rfl, rfl⟩; go_wp2_with fail
 rw [rounds_succ]; go_wp2_with fail
 refine (qn12 _).mono ?_; rintro e w' ⟨rfl, rfl⟩; go_wp2_with fail
 rw [rounds_succ]; go_wp2_with fail
 refine (qn13 _).mono ?_; rintro e w' ⟨rfl, rfl⟩; go_wp2_with fail
 rw [rounds_succ]; go_wp2_with fail
 go_loop [1, 12] (fun i v => ∃ (j : Nat) (x : Int), k ≤ j ∧ j ≤ s.size ∧ i = .int .i64 j ∧ v = .int .i64 x ∧ 0 ≤ x ∧ ((j = k ∧ x = 0) ∨ (j = k + 1 ∧ x ≤ 7) ∨ (j = k + 2 ∧ x ≤ 63) ∨ (j = k + 3 ∧ x ≤ 511)) ∧
  octV 0 (octL (s.toList.drop k)) = octV x (octR s k j) ∧ (octL (s.toList.drop k)).length = (j - k) + (octR s k j).length) (fun i _ => s.size - (intOf i).toNat)
 case atStart => exact ⟨k, 0, Nat.le_refl _, by omega, rfl, rfl, by omega, .inl ⟨rfl, rfl⟩, by rw [octR_start], by rw [octR_start]; omega⟩
 case round =>
  obtain ⟨j, x, hj0, hj1, rfl, rfl, x0, hx, h1, h2⟩ := hrel
  have x1 : x ≤ 511 := by omega
  have j3 : j ≤ k + 3 := by omega
  have HX := hid' hx; have H1 := hid' h1; have H2 := hid' h2; clear hx h1 h2
  by_cases c1 : j < s.size
  rotate_left
  · obtain rfl : j = s.size := by omega
    have HY := hid' (octR_no s k s.size (.inl (Nat.le_refl _))); go_wp2_with fail
    go_ret3; exact ⟨by rw [HR.out, H1.out, H2.out, HY.out]; exact tup3 _ (by simp only [List.length_nil]; omega), (Chg.refl NoB w).alloc _⟩
  have c1' : (j : Int) < s.size := by omega
  by_cases c2 : j < k + 3
  rotate_left
  · have c2' : (k : Int) + 3 ≤ j := by omega
    have HY := hid' (octR_no s k j (.inr (.inl (by omega)))); go_wp2_with fail
    go_ret3; exact ⟨by rw [HR.out, H1.out, H2.out, HY.out]; exact tup3 _ (by simp only [List.length_nil]; omega), (Chg.refl NoB w).alloc _⟩
  have c2' : (j : Int) < (k : Int) + 3 := by omega
  by_cases c3 : (s[j].toNat : Int) < 48
  · have HY := hid' (octR_no s k j (.inr (.inr ⟨c1, .inl c3⟩))); go_wp2_with fail
    go_ret3; exact ⟨by rw [HR.out, H1.out, H2.out, HY.out]; exact tup3 _ (by simp only [List.length_nil]; omega), (Chg.refl NoB w).alloc _⟩
  have c3' : 48 ≤ (s[j].toNat : Int) := by omega
  by_cases c4 : 55 < (s[j].toNat : Int)
  · have HY := hid' (octR_no s k j (.inr (.inr ⟨c1, .inr c4⟩))); go_wp2_with fail
    go_ret3; exact ⟨by rw [HR.out, H1.out, H2.out, HY.out]; exact tup3 _ (by simp only [List.length_nil]; omega), (Chg.refl NoB w).alloc _⟩
  have c4' : (s[j].toNat : Int) ≤ 55 := by omega
  have HY := hid' (octR_yes s k j c1 c2 c3' c4'); have HZ := hid' (octV_at x s[j] (octR s k (j + 1)))
  have hlt : x * 8 + ((s[j].toNat : Int) - 48) ≤ 5000 := by omega
  go_wp2_with fail
  go_round
  case rel => exact ⟨j + 1, _, by omega, by omega, by go_num, rfl, by omega, by have := HX.out; omega, by rw [H1.out, HY.out, HZ.out], by rw [H2.out, HY.out, List.length_cons]; omega⟩
  case measure => simp [intOf]; omega
abbrev u8of (x : Int) : UInt8 := UInt8.ofNat x.toNat
theorem u8of_val (x : Int) (h0 : 0 ≤ x) (h1 : x < 256) : u8V (u8of x) = .int .u8 x := by
 simp [u8V, u8of, UInt8.toNat_ofNat']; omega
def parenW (l : List UInt8) (i : Nat) (deep : Nat) (b : List UInt8) : Int × List UInt8 × Nat :=
 match l with
 | [] => (4, [], 0)
 | c :: t =>
  if c = 40 then if 4000 ≤ b.length then (5, [], 0) else parenW t (i + 1) (deep + 1) (b ++ [c])
  else if c = 41 then if deep = 1 then (0, b, i + 1) else if 4000 ≤ b.length then (5, [], 0) else parenW t (i + 1) (deep - 1) (b ++ [c])
  else if c = 13 then if 4000 ≤ b.length then (5, [], 0) else if t.head? = some 10 then parenW (t.drop 1) (i + 2) deep (b ++ [10]) else parenW t (i + 1) deep (b ++ [10])
  else if c = 92 then
   if t = [] then (4, [], 0)
   else if (escF t).2.2 = true then if 4000 ≤ b.length then (5, [], 0) else parenW (t.drop (escF t).2.1) (i + 1 + (escF t).2.1) deep (b ++ [u8of (escF t).1])
   else parenW (t.drop (escF t).2.1) (i + 1 + (escF t).2.1) deep b
  else if 4000 ≤ b.length then (5, [], 0) else parenW t (i + 1) deep (b ++ [c])
termination_by l.length
decreasing_by all_goals (simp only [List.length_cons, List.length_drop]; omega)
theorem parenW_at (s : ByteArray) (j : Nat) (h : j < s.size) (deep : Nat) (b : List UInt8) : parenW (s.toList.drop j) j deep b =
 if s[j] = 40 then if 4000 ≤ b.length then (5, [], 0) else parenW (s.toList.drop (j + 1)) (j + 1) (deep + 1) (b ++ [s[j]])
 else if s[j] = 41 then if deep = 1 then (0, b, j + 1) else if 4000 ≤ b.length then (5, [], 0) else parenW (s.toList.drop (j + 1)) (j + 1) (deep - 1) (b ++ [s[j]])
 else if s[j] = 13 then if 4000 ≤ b.length then (5, [], 0) else if (s.toList.drop (j + 1)).head? = some 10 then parenW (s.toList.drop (j + 2)) (j + 2) deep (b ++ [10]) else parenW (s.toList.drop (j + 1)) (j + 1) deep (b ++ [10])
 else if s[j] = 92 then
  if s.toList.drop (j + 1) = [] then (4, [], 0)
  else if (escF (s.toList.drop (j + 1))).2.2 = true then if 4000 ≤ b.length then (5, [], 0) else parenW (s.toList.drop (j + 1 + (escF (s.toList.drop (j + 1))).2.1)) (j + 1 + (escF (s.toList.drop (j + 1))).2.1) deep (b ++ [u8of (escF (s.toList.drop (j + 1))).1])
  else parenW (s.toList.drop (j + 1 + (escF (s.toList.drop (j + 1))).2.1)) (j + 1 + (escF (s.toList.drop (j + 1))).2.1) deep b
 else if 4000 ≤ b.length then (5, [], 0) else parenW (s.toList.drop (j + 1)) (j + 1) deep (b ++ [s[j]]) := by
 rw [drop_at s j h, parenW]; simp only [List.drop_drop]
theorem parenW_end (s : ByteArray) (j i : Nat) (h : s.size ≤ j) (deep : Nat) (b : List UInt8) : parenW (s.toList.drop j) i deep b = (4, [], 0) := by rw [drop_end s j h, parenW]
theorem escF_cons (c : UInt8) (t : List UInt8) : escF (c :: t) =
 if c = 98 then ((8 : Int), 1, true) else if c = 116 then (9, 1, true) else if c = 110 then (10, 1, true) else if c = 102 then (12, 1, true) else if c = 114 then (13, 1, true)
 else if c = 13 ∧ t.head? = some 10 then (0, 2, false)
 else if c = 10 ∨ c = 13 then (0, 1, false)
 else if (c.toNat : Int) < 48 ∨ 55 < (c.toNat : Int) then (c.toNat, 1, true)
 else (octV 0 (octL (c :: t)) % 256, (octL (c :: t)).length, true) := rfl
theorem escF_le (l : List UInt8) : 0 ≤ (escF l).1 ∧ (escF l).1 < 256 ∧ (escF l).2.1 ≤ l.length := by
 cases l with
 | nil => simp [escF]
 | cons c t =>
  rw [escF_cons]
  have hc : (c.toNat : Int) < 256 := by have := c.toNat_lt; omega
  have h0 : 0 ≤ octV 0 (octL (c :: t)) % 256 := Int.emod_nonneg _ (by decide); have h1 : octV 0 (octL (c :: t)) % 256 < 256 := Int.emod_lt_of_pos _ (by decide)
  have h2 : (octL (c :: t)).length ≤ (c :: t).length := by
   unfold octL; exact Nat.le_trans (List.takeWhile_sublist _).length_le (by rw [List.length_take]; omega)
  split; · exact ⟨by simp, by simp, by simp⟩
  split; · exact ⟨by simp, by simp, by simp⟩
  split; · exact ⟨by simp, by simp, by simp⟩
  split; · exact ⟨by simp, by simp, by simp⟩
  split; · exact ⟨by simp, by simp, by simp⟩
  split
  · rename_i hx
    refine ⟨by simp, by simp, ?_⟩
    cases t with
    | nil => simp at hx
    | cons => simp
  split; · exact ⟨by simp, by simp, by simp⟩
  split; · exact ⟨by simp, by simp; omega, by simp⟩
  exact ⟨h0, h1, h2⟩
theorem at8_one (w : World) (x : UInt8) : At8 (w.alloc (.cells #[.int .u8 x.toNat] 5)) w.heap.size [x] := fun j hj => by
 obtain rfl : j = 0 := by simpa using hj
 have := cells_of (blk_new w (.cells #[.int .u8 x.toNat] 5)) 0; simp only [List.getD_cons_zero]; exact this
theorem at8_int (w : World) (x : Int) (h0 : 0 ≤ x) (h1 : x < 256) : At8 (w.alloc (.cells #[.int .u8 x] 5)) w.heap.size [u8of x] := fun j hj => by
 obtain rfl : j = 0 := by simpa using hj
 have := cells_of (blk_new w (.cells #[.int .u8 x] 5)) 0; have e := u8of_val x h0 h1; simp only [List.getD_cons_zero, e]; exact this
def TkEnd (w0 : World) (bt : Nat) (R : Int × List UInt8 × Nat) (r : Ending) (w' : World) : Prop :=
 ∃ v b, r = .returned (.int .i64 (R.2.2 : Nat)) ∧ Tk w0 w' bt v b R.1 ∧ (R.1 = 0 → b = R.2.1)
set_option maxRecDepth 100000 in
set_option maxHeartbeats 2000000 in
theorem qparen_any {w0 w : World} {bt : Nat} {v0 : Value} (A : Tk w0 w bt v0 [] 0) (s : ByteArray) (hs : s.size ≤ 1000000) (h1 : 1 ≤ s.size) :
 Calls Tryz.prog 107 #[.pointer (some ⟨bt, 0, none⟩), .string s] w (TkEnd w0 bt (parenW (s.toList.drop 1) 1 1 [])) := by
 go_enter Tryz.func107, Tryz.ntmps107
 go_wp2_with fail
 go_loopw [5, 6] (fun dv iv wr => ∃ (j d : Nat) (b : List UInt8) (v : Value), 1 ≤ j ∧ j ≤ s.size ∧ 1 ≤ d ∧ d ≤ j ∧ iv = .int .i64 j ∧ dv = .int .i64 d ∧ b.length ≤ 4000 ∧ Tk w0 wr bt v b 0 ∧ parenW (s.toList.drop 1) 1 1 [] = parenW (s.toList.drop j) j d b) (fun _ i _ => s.size - (intOf i).toNat)
 case atStart => exact ⟨1, 1, [], v0, Nat.le_refl _, h1, Nat.le_refl _, Nat.le_refl _, rfl, rfl, Nat.zero_le _, A, rfl⟩
 case round =>
  obtain ⟨j, d, b, v, hj1, hj2, hd1, hd2, rfl, rfl, hbl, A1, hW⟩ := hrel; clear A; have HA := hid' A1; clear A1
  by_cases hlt : j < s.size
  rotate_left
  · obtain rfl : j = s.size := by omega
    have HW := hid' (hW.trans (parenW_end s s.size _ (Nat.le_refl _) d b)); clear hW; go_wp2_with fail
    refine (qbad_any HA.out 4).mono ?_; rintro r w1 ⟨rfl, A2⟩; have HB := hid' A2; clear A2; go_wp2_with fail
    go_ret; unfold TkEnd; rw [HW.out]; exact ⟨v, b, rfl, HB.out, fun h => absurd h (by decide)⟩
  have hlt' : (j : Int) < s.size := by omega
  have hE := hW.trans (parenW_at s j hlt d b); clear hW
  by_cases e40 : s[j] = 40
  · have u40 := u8T 40 e40 (40 : Int)
    by_cases hf : 4000 ≤ b.length
    · have HC := hid' (hE.trans ((if_pos e40).trans (if_pos hf))); clear hE e40; go_wp2_with fail
      refine (qadd_full (HA.out.pure (Chg.alloc (Chg.refl NoB _) _)) _ [s[j]] _ hbl (by simp) (by simp; omega)).mono ?_; rintro r w1 ⟨rfl, A2⟩; have HB := hid' A2; clear A2; go_wp2_with fail
      go_ret; unfold TkEnd; rw [HC.out]; exact ⟨v, b, rfl, HB.out, fun h => absurd h (by decide)⟩
    · have HC := hid' (hE.trans ((if_pos e40).trans (if_neg hf))); clear hE e40; go_wp2_with fail
      refine (qadd_any (HA.out.pure (Chg.alloc (Chg.refl NoB _) _)) _ [s[j]] _ (at8_one _ _) (by simp) (by simp; omega)).mono ?_; rintro r w1 ⟨rfl, v', A2⟩; have HB := hid' A2; clear A2; go_wp2_with fail
      go_roundw
      case rel => exact ⟨j + 1, d + 1, _, v', by omega, by omega, by omega, by omega, by first | rfl | go_num, by first | rfl | go_num, by simp; omega, HB.out, HC.out⟩
      case measure => simp [intOf]; omega
  have u40 := u8F 40 e40 (40 : Int); have hE1 := hE.trans (if_neg e40); clear hE
  by_cases e41 : s[j] = 41
  · have u41 := u8T 41 e41 (41 : Int)
    by_cases hd : d = 1
    · have HC := hid' (hE1.trans ((if_pos e41).trans (if_pos hd))); subst hd; clear hE1 e41 e40; go_wp2_with fail
      go_ret; unfold TkEnd; rw [HC.out]; exact ⟨v, b, rfl, HA.out, fun _ => rfl⟩
    have hd' : ((d : Int) - 1 == 0) = false := by simp; omega
    have hE2 := hE1.trans ((if_pos e41).trans (if_neg hd))
    have hd2 : 2 ≤ d := by omega
    clear hE1 hd
    by_cases hf : 4000 ≤ b.length
    · have HC := hid' (hE2.trans (if_pos hf)); clear hE2 e40 e41; go_wp2_with fail
      refine (qadd_full (HA.out.pure (Chg.alloc (Chg.refl NoB _) _)) _ [s[j]] _ hbl (by simp) (by simp; omega)).mono ?_; rintro r w1 ⟨rfl, A2⟩; have HB := hid' A2; clear A2; go_wp2_with fail
      go_ret; unfold TkEnd; rw [HC.out]; exact ⟨v, b, rfl, HB.out, fun h => absurd h (by decide)⟩
    · have HC := hid' (hE2.trans (if_neg hf)); clear hE2 e40 e41; go_wp2_with fail
      refine (qadd_any (HA.out.pure (Chg.alloc (Chg.refl NoB _) _)) _ [s[j]] _ (at8_one _ _) (by simp) (by simp; omega)).mono ?_; rintro r w1 ⟨rfl, v', A2⟩; have HB := hid' A2; clear A2; go_wp2_with fail
      go_roundw
      case rel => exact ⟨j + 1, d - 1, _, v', by omega, by omega, by omega, by omega, by first | rfl | go_num, by first | rfl | go_num, by simp; omega, HB.out, HC.out⟩
      case measure => simp [intOf]; omega
  have u41 := u8F 41 e41 (41 : Int); have hE2 := hE1.trans (if_neg e41); clear hE1
  by_cases e13 : s[j] = 13
  · have u13 := u8T 13 e13 (13 : Int); have hE3 := hE2.trans (if_pos e13); clear hE2
    by_cases hk : j + 1 < s.size
    · have hk' : (j : Int) + 1 < s.size := by omega
      have hh : (s.toList.drop (j + 1)).head? = some s[j + 1] := by rw [drop_at s (j + 1) hk]; rfl
      by_cases en : s[j + 1] = 10
      · have v10 := u8T 10 en (10 : Int)
        have hn : (s.toList.drop (j + 1)).head? = some 10 := by rw [hh, en]
        by_cases hf : 4000 ≤ b.length
        · have HC := hid' (hE3.trans (if_pos hf)); clear hE3 e40 e41 e13 hh en hn; go_wp2_with fail
          refine (qadd_full (HA.out.pure (Chg.alloc (Chg.refl NoB _) _)) _ [10] _ hbl (by simp) (by simp; omega)).mono ?_; rintro r w1 ⟨rfl, A2⟩; have HB := hid' A2; clear A2; go_wp2_with fail
          go_ret; unfold TkEnd; rw [HC.out]; exact ⟨v, b, rfl, HB.out, fun h => absurd h (by decide)⟩
        · have HC := hid' (hE3.trans ((if_neg hf).trans (if_pos hn))); clear hE3 e40 e41 e13 hh en hn; go_wp2_with fail
          refine (qadd_any (HA.out.pure (Chg.alloc (Chg.refl NoB _) _)) _ [10] _ (at8_int _ 10 (by decide) (by decide)) (by simp) (by simp; omega)).mono ?_; rintro r w1 ⟨rfl, v', A2⟩; have HB := hid' A2; clear A2; go_wp2_with fail
          go_roundw
          case rel => exact ⟨j + 2, d, _, v', by omega, by omega, by omega, by omega, by first | rfl | go_num, by first | rfl | go_num, by simp; omega, HB.out, HC.out⟩
          case measure => simp [intOf]; omega
      · have v10 := u8F 10 en (10 : Int)
        have hn : ¬ (s.toList.drop (j + 1)).head? = some 10 := by rw [hh]; simpa using en
        by_cases hf : 4000 ≤ b.length
        · have HC := hid' (hE3.trans (if_pos hf)); clear hE3 e40 e41 e13 hh en hn; go_wp2_with fail
          refine (qadd_full (HA.out.pure (Chg.alloc (Chg.refl NoB _) _)) _ [10] _ hbl (by simp) (by simp; omega)).mono ?_; rintro r w1 ⟨rfl, A2⟩; have HB := hid' A2; clear A2; go_wp2_with fail
          go_ret; unfold TkEnd; rw [HC.out]; exact ⟨v, b, rfl, HB.out, fun h => absurd h (by decide)⟩
        · have HC := hid' (hE3.trans ((if_neg hf).trans (if_neg hn))); clear hE3 e40 e41 e13 hh en hn; go_wp2_with fail
          refine (qadd_any (HA.out.pure (Chg.alloc (Chg.refl NoB _) _)) _ [10] _ (at8_int _ 10 (by decide) (by decide)) (by simp) (by simp; omega)).mono ?_; rintro r w1 ⟨rfl, v', A2⟩; have HB := hid' A2; clear A2; go_wp2_with fail
          go_roundw
          case rel => exact ⟨j + 1, d, _, v', by omega, by omega, by omega, by omega, by first | rfl | go_num, by first | rfl | go_num, by simp; omega, HB.out, HC.out⟩
          case measure => simp [intOf]; omega
    · have hk' : (s.size : Int) ≤ (j : Int) + 1 := by omega
      have hn : ¬ (s.toList.drop (j + 1)).head? = some 10 := by rw [drop_end s (j + 1) (by omega)]; simp
      by_cases hf : 4000 ≤ b.length
      · have HC := hid' (hE3.trans (if_pos hf)); clear hE3 e40 e41 e13 hn; go_wp2_with fail
        refine (qadd_full (HA.out.pure (Chg.alloc (Chg.refl NoB _) _)) _ [10] _ hbl (by simp) (by simp; omega)).mono ?_; rintro r w1 ⟨rfl, A2⟩; have HB := hid' A2; clear A2; go_wp2_with fail
        go_ret; unfold TkEnd; rw [HC.out]; exact ⟨v, b, rfl, HB.out, fun h => absurd h (by decide)⟩
      · have HC := hid' (hE3.trans ((if_neg hf).trans (if_neg hn))); clear hE3 e40 e41 e13 hn; go_wp2_with fail
        refine (qadd_any (HA.out.pure (Chg.alloc (Chg.refl NoB _) _)) _ [10] _ (at8_int _ 10 (by decide) (by decide)) (by simp) (by simp; omega)).mono ?_; rintro r w1 ⟨rfl, v', A2⟩; have HB := hid' A2; clear A2; go_wp2_with fail
        go_roundw
        case rel => exact ⟨j + 1, d, _, v', by omega, by omega, by omega, by omega, by first | rfl | go_num, by first | rfl | go_num, by simp; omega, HB.out, HC.out⟩
        case measure => simp [intOf]; omega
  have u13 := u8F 13 e13 (13 : Int); have hE3 := hE2.trans (if_neg e13); clear hE2
  by_cases e92 : s[j] = 92
  · have u92 := u8T 92 e92 (92 : Int); have hE4 := hE3.trans (if_pos e92); clear hE3
    by_cases hk : j + 1 < s.size
    rotate_left
    · have hk' : (j : Int) + 1 = s.size := by omega
      have hk2 : ((j : Int) + 1 == (s.size : Int)) = true := by simpa using hk'
      have hk3 : (j + 1 == s.size) = true := by simp; omega
      have HC := hid' (hE4.trans (if_pos (drop_end s (j + 1) (by omega)))); clear hE4 e40 e41 e13 e92 hk'; go_wp2_with fail
      refine (qbad_any HA.out 4).mono ?_; rintro r w1 ⟨rfl, A2⟩; have HB := hid' A2; clear A2; go_wp2_with fail
      go_ret; unfold TkEnd; rw [HC.out]; exact ⟨v, b, rfl, HB.out, fun h => absurd h (by decide)⟩
    have hk' : (j : Int) + 1 < s.size := by omega
    have hk2 : ((j : Int) + 1 == (s.size : Int)) = false := by simp; omega
    have hk3 : (j + 1 == s.size) = false := by simp; omega
    have hE5 := hE4.trans (if_neg (by rw [drop_at s (j + 1) hk]; simp)); clear hE4; obtain ⟨x0, x1, x2⟩ := escF_le (s.toList.drop (j + 1)); rw [List.length_drop, size_lst] at x2; have hX := fun w => escape_any s (j + 1) hs hk w; generalize escF (s.toList.drop (j + 1)) = X at *; obtain ⟨xc, xn, xb⟩ := X; simp only at x0 x1 x2 hX hE5; have HX := hid' hX; clear hX
    cases xb with
    | false =>
     have HC := hid' (hE5.trans (if_neg (by simp))); clear hE5 e40 e41 e13 e92; go_wp2_with fail
     refine (HX.out _).mono ?_; rintro r w1 ⟨rfl, X1⟩; have HB := hid' (HA.out.pure X1); clear X1; go_wp2_with fail
     go_roundw
     case rel => exact ⟨j + 1 + xn, d, b, v, by omega, by omega, by omega, by omega, by first | rfl | go_num, rfl, hbl, HB.out, HC.out⟩
     case measure => simp [intOf]; omega
    | true =>
     by_cases hf : 4000 ≤ b.length
     · have HC := hid' (hE5.trans ((if_pos rfl).trans (if_pos hf))); clear hE5 e40 e41 e13 e92; go_wp2_with fail
       refine (HX.out _).mono ?_; rintro r w1 ⟨rfl, X1⟩; have HA := hid' (HA.out.pure X1); clear X1; go_wp2_with fail
       refine (qadd_full (HA.out.pure (Chg.alloc (Chg.refl NoB _) _)) _ [u8of xc] _ hbl (by simp) (by simp; omega)).mono ?_; rintro r w1 ⟨rfl, A2⟩; have HB := hid' A2; clear A2; go_wp2_with fail
       go_ret; unfold TkEnd; rw [HC.out]; exact ⟨v, b, rfl, HB.out, fun h => absurd h (by decide)⟩
     · have HC := hid' (hE5.trans ((if_pos rfl).trans (if_neg hf))); clear hE5 e40 e41 e13 e92; go_wp2_with fail
       refine (HX.out _).mono ?_; rintro r w1 ⟨rfl, X1⟩; have HA := hid' (HA.out.pure X1); clear X1; go_wp2_with fail
       refine (qadd_any (HA.out.pure (Chg.alloc (Chg.refl NoB _) _)) _ [u8of xc] _ (at8_int _ _ x0 x1) (by simp) (by simp; omega)).mono ?_; rintro r w1 ⟨rfl, v', A2⟩; have HB := hid' A2; clear A2; go_wp2_with fail
       go_roundw
       case rel => exact ⟨j + 1 + xn, d, _, v', by omega, by omega, by omega, by omega, by first | rfl | go_num, by first | rfl | go_num, by simp; omega, HB.out, HC.out⟩
       case measure => simp [intOf]; omega
  have u92 := u8F 92 e92 (92 : Int); have hE4 := hE3.trans (if_neg e92); clear hE3
  by_cases hf : 4000 ≤ b.length
  · have HC := hid' (hE4.trans (if_pos hf)); clear hE4 e40 e41 e13 e92; go_wp2_with fail
    refine (qadd_full (HA.out.pure (Chg.alloc (Chg.refl NoB _) _)) _ [s[j]] _ hbl (by simp) (by simp; omega)).mono ?_; rintro r w1 ⟨rfl, A2⟩; have HB := hid' A2; clear A2; go_wp2_with fail
    go_ret; unfold TkEnd; rw [HC.out]; exact ⟨v, b, rfl, HB.out, fun h => absurd h (by decide)⟩
  · have HC := hid' (hE4.trans (if_neg hf)); clear hE4 e40 e41 e13 e92; go_wp2_with fail
    refine (qadd_any (HA.out.pure (Chg.alloc (Chg.refl NoB _) _)) _ [s[j]] _ (at8_one _ _) (by simp) (by simp; omega)).mono ?_; rintro r w1 ⟨rfl, v', A2⟩; have HB := hid' A2; clear A2; go_wp2_with fail
    go_roundw
    case rel => exact ⟨j + 1, d, _, v', by omega, by omega, by omega, by omega, by first | rfl | go_num, by first | rfl | go_num, by simp; omega, HB.out, HC.out⟩
    case measure => simp [intOf]; omega
def hexW (l : List UInt8) (i : Nat) (half : Int) (b : List UInt8) : Int × List UInt8 × Nat :=
 match l with
 | [] => (4, [], 0)
 | c :: t =>
  if kindI c.toNat = 1 then hexW t (i + 1) half b
  else if c = 62 then if 0 ≤ half then if 4000 ≤ b.length then (5, [], 0) else (0, b ++ [u8of (half * 16)], i + 1) else (0, b, i + 1)
  else if valueI c.toNat < 0 ∨ 15 < valueI c.toNat then (3, [], 0)
  else if half < 0 then hexW t (i + 1) (valueI c.toNat) b
  else if 4000 ≤ b.length then (5, [], 0) else hexW t (i + 1) (-1) (b ++ [u8of (half * 16 + valueI c.toNat)])
theorem hexW_at (s : ByteArray) (j : Nat) (h : j < s.size) (half : Int) (b : List UInt8) : hexW (s.toList.drop j) j half b =
 if kindI s[j].toNat = 1 then hexW (s.toList.drop (j + 1)) (j + 1) half b
 else if s[j] = 62 then if 0 ≤ half then if 4000 ≤ b.length then (5, [], 0) else (0, b ++ [u8of (half * 16)], j + 1) else (0, b, j + 1)
 else if valueI s[j].toNat < 0 ∨ 15 < valueI s[j].toNat then (3, [], 0)
 else if half < 0 then hexW (s.toList.drop (j + 1)) (j + 1) (valueI s[j].toNat) b
 else if 4000 ≤ b.length then (5, [], 0) else hexW (s.toList.drop (j + 1)) (j + 1) (-1) (b ++ [u8of (half * 16 + valueI s[j].toNat)]) := by
 rw [drop_at s j h, hexW]
theorem hexW_end (s : ByteArray) (j i : Nat) (h : s.size ≤ j) (half : Int) (b : List UInt8) : hexW (s.toList.drop j) i half b = (4, [], 0) := by rw [drop_end s j h, hexW]
theorem valueI_le' (c : Int) : valueI c ≤ 35 ∧ -1 ≤ valueI c := by
 unfold valueI; split
 · omega
 · split
   · omega
   · split <;> omega
set_option maxRecDepth 100000 in
set_option maxHeartbeats 2000000 in
theorem qhex_any {w0 w : World} {bt : Nat} {v0 : Value} (A : Tk w0 w bt v0 [] 0) (s : ByteArray) (hs : s.size ≤ 1000000) (h1 : 1 ≤ s.size) :
 Calls Tryz.prog 109 #[.pointer (some ⟨bt, 0, none⟩), .string s] w (TkEnd w0 bt (hexW (s.toList.drop 1) 1 (-1) [])) := by
 obtain ⟨R, hR⟩ : ∃ R, hexW (s.toList.drop 1) 1 (-1) [] = R := ⟨_, rfl⟩
 rw [hR]; have HRR := hid' hR; clear hR; go_enter Tryz.func109, Tryz.ntmps109
 go_wp2_with fail
 go_loopw [5, 6] (fun hv iv wr => ∃ (j : Nat) (half : Int) (b : List UInt8) (v : Value), 1 ≤ j ∧ j ≤ s.size ∧ -1 ≤ half ∧ half ≤ 15 ∧ iv = .int .i64 j ∧ hv = .int .i64 half ∧ b.length ≤ 4000 ∧ Tk w0 wr bt v b 0 ∧ R = hexW (s.toList.drop j) j half b) (fun _ i _ => s.size - (intOf i).toNat)
 case atStart => exact ⟨1, -1, [], v0, Nat.le_refl _, h1, Int.le_refl _, by decide, rfl, rfl, Nat.zero_le _, A, HRR.out.symm⟩
 case round =>
  obtain ⟨j, half, b, v, hj1, hj2, hd1, hd2, rfl, rfl, hbl, A1, hW⟩ := hrel; clear A; have HA := hid' A1; clear A1
  by_cases hlt : j < s.size
  rotate_left
  · obtain rfl : j = s.size := by omega
    have HW := hid' (hW.trans (hexW_end s s.size _ (Nat.le_refl _) half b)); clear hW; go_wp2_with fail
    refine (qbad_any HA.out 4).mono ?_; rintro r w1 ⟨rfl, A2⟩; have HB := hid' A2; clear A2; go_wp2_with fail
    go_ret; unfold TkEnd; rw [HW.out]; exact ⟨v, b, rfl, HB.out, fun h => absurd h (by decide)⟩
  have hlt' : (j : Int) < s.size := by omega
  have hE := hW.trans (hexW_at s j hlt half b); clear hW
  have u0 : (s[j].toNat : Int) < 256 := by have := s[j].toNat_lt; omega
  obtain ⟨vl, vm⟩ := valueI_le' s[j].toNat
  by_cases ek : kindI s[j].toNat = 1
  · have uk : (kindI s[j].toNat == 1) = true := by simpa using ek
    have HC := hid' (hE.trans (if_pos ek)); clear hE ek; go_wp2_with fail
    refine (value_any _ (by omega) u0 _).mono ?_; rintro r w1 ⟨rfl, rfl⟩; go_wp2_with fail
    refine (ckind_any _ _).mono ?_; rintro r w1 ⟨rfl, rfl⟩; go_wp2_with fail
    go_roundw
    case rel => exact ⟨j + 1, half, b, v, by omega, by omega, hd1, hd2, by go_num, rfl, hbl, HA.out, HC.out⟩
    case measure => simp [intOf]; omega
  have uk : (kindI s[j].toNat == 1) = false := by simpa using ek
  have hE1 := hE.trans (if_neg ek); clear hE ek
  by_cases e62 : s[j] = 62
  · have u62 := u8T 62 e62 (62 : Int); have hE2 := hE1.trans (if_pos e62); clear hE1
    by_cases hh : 0 ≤ half
    · by_cases hf : 4000 ≤ b.length
      · have HC := hid' (hE2.trans ((if_pos hh).trans (if_pos hf))); clear hE2 e62; go_wp2_with fail
        refine (value_any _ (by omega) u0 _).mono ?_; rintro r w1 ⟨rfl, rfl⟩; go_wp2_with fail
        refine (ckind_any _ _).mono ?_; rintro r w1 ⟨rfl, rfl⟩; go_wp2_with fail
        refine (qadd_full (HA.out.pure (Chg.alloc (Chg.refl NoB _) _)) _ [u8of (half * 16)] _ hbl (by simp) (by simp; omega)).mono ?_; rintro r w1 ⟨rfl, A2⟩; have HB := hid' A2; clear A2; go_wp2_with fail
        go_ret; unfold TkEnd; rw [HC.out]; exact ⟨v, b, rfl, HB.out, fun h => absurd h (by decide)⟩
      · have HC := hid' (hE2.trans ((if_pos hh).trans (if_neg hf))); clear hE2 e62; go_wp2_with fail
        refine (value_any _ (by omega) u0 _).mono ?_; rintro r w1 ⟨rfl, rfl⟩; go_wp2_with fail
        refine (ckind_any _ _).mono ?_; rintro r w1 ⟨rfl, rfl⟩; go_wp2_with fail
        refine (qadd_any (HA.out.pure (Chg.alloc (Chg.refl NoB _) _)) _ [u8of (half * 16)] _ (at8_int _ _ (by omega) (by omega)) (by simp) (by simp; omega)).mono ?_; rintro r w1 ⟨rfl, v', A2⟩; have HB := hid' A2; clear A2; go_wp2_with fail
        go_ret; unfold TkEnd; rw [HC.out]; exact ⟨v', _, rfl, HB.out, fun _ => rfl⟩
    · have hh' : half < 0 := by omega
      have HC := hid' (hE2.trans (if_neg hh)); clear hE2 e62; go_wp2_with fail
      refine (value_any _ (by omega) u0 _).mono ?_; rintro r w1 ⟨rfl, rfl⟩; go_wp2_with fail
      refine (ckind_any _ _).mono ?_; rintro r w1 ⟨rfl, rfl⟩; go_wp2_with fail
      go_ret; unfold TkEnd; rw [HC.out]; exact ⟨v, b, rfl, HA.out, fun _ => rfl⟩
  have u62 := u8F 62 e62 (62 : Int); have hE2 := hE1.trans (if_neg e62); clear hE1 e62
  by_cases c1 : valueI s[j].toNat < 0
  · have HC := hid' (hE2.trans (if_pos (.inl c1))); clear hE2; go_wp2_with fail
    refine (value_any _ (by omega) u0 _).mono ?_; rintro r w1 ⟨rfl, rfl⟩; go_wp2_with fail
    refine (ckind_any _ _).mono ?_; rintro r w1 ⟨rfl, rfl⟩; go_wp2_with fail
    refine (qbad_any HA.out 3).mono ?_; rintro r w1 ⟨rfl, A2⟩; have HB := hid' A2; clear A2; go_wp2_with fail
    go_ret; unfold TkEnd; rw [HC.out]; exact ⟨v, b, rfl, HB.out, fun h => absurd h (by decide)⟩
  have c1' : 0 ≤ valueI s[j].toNat := by omega
  by_cases c2 : 15 < valueI s[j].toNat
  · have HC := hid' (hE2.trans (if_pos (.inr c2))); clear hE2; go_wp2_with fail
    refine (value_any _ (by omega) u0 _).mono ?_; rintro r w1 ⟨rfl, rfl⟩; go_wp2_with fail
    refine (ckind_any _ _).mono ?_; rintro r w1 ⟨rfl, rfl⟩; go_wp2_with fail
    refine (qbad_any HA.out 3).mono ?_; rintro r w1 ⟨rfl, A2⟩; have HB := hid' A2; clear A2; go_wp2_with fail
    go_ret; unfold TkEnd; rw [HC.out]; exact ⟨v, b, rfl, HB.out, fun h => absurd h (by decide)⟩
  have c2' : valueI s[j].toNat ≤ 15 := by omega
  have hE3 := hE2.trans (if_neg (by rintro (h | h); exact c1 h; exact c2 h)); clear hE2
  by_cases hh : half < 0
  · have HC := hid' (hE3.trans (if_pos hh)); clear hE3; go_wp2_with fail
    refine (value_any _ (by omega) u0 _).mono ?_; rintro r w1 ⟨rfl, rfl⟩; go_wp2_with fail
    refine (ckind_any _ _).mono ?_; rintro r w1 ⟨rfl, rfl⟩; go_wp2_with fail
    go_roundw
    case rel => exact ⟨j + 1, _, b, v, by omega, by omega, by omega, by omega, by go_num, rfl, hbl, HA.out, HC.out⟩
    case measure => simp [intOf]; omega
  have hh' : 0 ≤ half := by omega
  by_cases hf : 4000 ≤ b.length
  · have HC := hid' (hE3.trans ((if_neg hh).trans (if_pos hf))); clear hE3; go_wp2_with fail
    refine (value_any _ (by omega) u0 _).mono ?_; rintro r w1 ⟨rfl, rfl⟩; go_wp2_with fail
    refine (ckind_any _ _).mono ?_; rintro r w1 ⟨rfl, rfl⟩; go_wp2_with fail
    refine (qadd_full (HA.out.pure (Chg.alloc (Chg.refl NoB _) _)) _ [u8of (half * 16 + valueI s[j].toNat)] _ hbl (by simp) (by simp; omega)).mono ?_; rintro r w1 ⟨rfl, A2⟩; have HB := hid' A2; clear A2; go_wp2_with fail
    go_ret; unfold TkEnd; rw [HC.out]; exact ⟨v, b, rfl, HB.out, fun h => absurd h (by decide)⟩
  · have HC := hid' (hE3.trans ((if_neg hh).trans (if_neg hf))); clear hE3; go_wp2_with fail
    refine (value_any _ (by omega) u0 _).mono ?_; rintro r w1 ⟨rfl, rfl⟩; go_wp2_with fail
    refine (ckind_any _ _).mono ?_; rintro r w1 ⟨rfl, rfl⟩; go_wp2_with fail
    refine (qadd_any (HA.out.pure (Chg.alloc (Chg.refl NoB _) _)) _ [u8of (half * 16 + valueI s[j].toNat)] _ (at8_int _ _ (by omega) (by omega)) (by simp) (by simp; omega)).mono ?_; rintro r w1 ⟨rfl, v', A2⟩; have HB := hid' A2; clear A2; go_wp2_with fail
    go_roundw
    case rel => exact ⟨j + 1, -1, _, v', by omega, by omega, by omega, by omega, by go_num, rfl, by simp; omega, HB.out, HC.out⟩
    case measure => simp [intOf]; omega
end Go.Proofs.YtpiomapnmempoaaGreat
