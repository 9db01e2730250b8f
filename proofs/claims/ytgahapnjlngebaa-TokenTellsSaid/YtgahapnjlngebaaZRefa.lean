/- Ra5, Ra6, Ra1, Rb6, Rc6, Rd6 -/
import Derived.Test.YtgahapnjlngebaaZToka
import Derived.Shelf.Bits.Mul64
/- Walk: layer 5's reference: Kind, Value, Regular. -/
namespace Go.Proofs.Ytgahapnjlngebaa
open Go.RowKit

set_option maxRecDepth 100000 in
set_option maxHeartbeats 2000000 in
theorem rkind_any (c : Int) (w : World) : Calls Try.prog 33 #[.int .u8 c] w fun e w' => e = .returned (.int .i64 (kindI c)) ∧ w = w' := by
  have hr : kindI c = if c = 0 ∨ c = 9 ∨ c = 10 ∨ c = 12 ∨ c = 13 ∨ c = 32 then 1
    else if c = 40 ∨ c = 41 ∨ c = 60 ∨ c = 62 ∨ c = 91 ∨ c = 93 ∨ c = 123 ∨ c = 125 ∨ c = 47 ∨ c = 37 then 2 else 3 := rfl
  have HR := hid' hr
  clear hr
  go_enter Try.func33, Try.ntmps33
  go_wp2
  all_goals
    go_ret
    rw [HR.out]
    refine ⟨?_, rfl⟩
    simp_all
set_option maxRecDepth 100000 in
set_option maxHeartbeats 2000000 in
theorem rvalue_any (c : Int) (h0 : 0 ≤ c) (h1 : c < 256) (w : World) : Calls Try.prog 71 #[.int .u8 c] w fun e w' => e = .returned (.int .i64 (valueI c)) ∧ w = w' := by
  have hr : valueI c = if 48 ≤ c ∧ c ≤ 57 then c - 48 else if 97 ≤ c ∧ c ≤ 122 then c - 87 else if 65 ≤ c ∧ c ≤ 90 then c - 55 else -1 := rfl
  have HR := hid' hr
  clear hr
  by_cases a1 : 48 ≤ c
  all_goals by_cases a2 : c ≤ 57
  all_goals by_cases a3 : 97 ≤ c
  all_goals by_cases a4 : c ≤ 122
  all_goals by_cases a5 : 65 ≤ c
  all_goals by_cases a6 : c ≤ 90
  all_goals first | (exfalso; omega) | skip
  all_goals
    go_enter Try.func71, Try.ntmps71
    go_wp2
    go_ret
    rw [HR.out]
    refine ⟨congrArg (fun z => Ending.returned (Value.int .i64 z)) ?_, rfl⟩
    split <;> (try split) <;> (try split) <;> omega

set_option maxRecDepth 100000 in
set_option maxHeartbeats 2000000 in
theorem rregular_any (s : ByteArray) (a : Nat) (hs : s.size ≤ 9223372036854775807) (ha : a ≤ 9223372036854775807) (w : World) :
    Calls Try.prog 29 #[.string s, .int .i64 a] w fun e w' => e = .returned (.int .i64 (regL (s.toList.drop a) : Nat)) ∧ w = w' := by
  have ha0 : (0 : Int) ≤ a := by omega
  by_cases h : s.size ≤ a
  · have h' : (s.size : Int) ≤ a := by omega
    have HE := hid' (regL_end s a h)
    go_enter Try.func29, Try.ntmps29
    go_wp2_with fail
    go_ret
    rw [HE.out]
    exact ⟨rfl, rfl⟩
  · have h' : (a : Int) < s.size := by omega
    go_enter Try.func29, Try.ntmps29
    go_wp2_with fail
    go_loop [5] (fun n => ∃ j : Nat, a + j ≤ s.size ∧ n = .int .i64 j ∧ regL (s.toList.drop a) = j + regL (s.toList.drop (a + j))) (fun n => s.size - (intOf n).toNat)
    case atStart => exact ⟨0, by omega, rfl, by simp⟩
    case round =>
      obtain ⟨j, hj2, rfl, hj3⟩ := hrel
      have HJ := hid' hj3
      clear hj3
      have e0 : ((a : Int) + (j : Int)).toNat = a + j := by omega
      by_cases hlt : a + j < s.size
      · have hlt' : (a : Int) + (j : Int) < s.size := by omega
        have hg0 : (0 : Int) ≤ (a : Int) + (j : Int) := by omega
        have HS := hid' (regL_at s (a + j) hlt)
        by_cases hk : kindI s[a + j].toNat = 3
        · have hk' : (kindI s[a + j].toNat == 3) = true := by simpa using hk
          have HK := hid' hk
          clear hk
          go_wp2_with (go_at_call 33; refine (rkind_any _ _).mono ?_; rintro e w' ⟨rfl, rfl⟩)
          go_round
          case rel => exact ⟨j + 1, by omega, by go_num, by rw [HJ.out, HS.out, if_pos HK.out, Nat.add_assoc]; omega⟩
          case measure => simp [intOf]; omega
        · have hk' : (kindI s[a + j].toNat == 3) = false := by simpa using hk
          have HK := hid' hk
          clear hk
          go_wp2_with (go_at_call 33; refine (rkind_any _ _).mono ?_; rintro e w' ⟨rfl, rfl⟩)
          go_ret
          exact ⟨by rw [HJ.out, HS.out, if_neg HK.out]; go_num, rfl⟩
      · have hlt' : ¬ (a : Int) + (j : Int) < s.size := by omega
        have HS := hid' (regL_end s (a + j) (by omega))
        go_wp2_with fail
        go_ret
        exact ⟨by rw [HJ.out, HS.out]; go_num, rfl⟩
end Go.Proofs.Ytgahapnjlngebaa
/- Walk: layer 6's reference: Digit, all, find, add, Ten. -/
namespace Go.Proofs.Ytgahapnjlngebaa
open Go.RowKit

/-- Where a byte stands first (the length: nowhere). -/
def posL (c : UInt8) (l : List UInt8) : Nat := (l.takeWhile (fun x => x != c)).length
def findI (c : UInt8) (l : List UInt8) : Int := if posL c l < l.length then ((posL c l : Nat) : Int) else -1
/-- The number of digits to a base, held at 2^40. -/
def accR (base : Int) (v : Int) (l : List UInt8) : Int := l.foldl (fun v c => if 1099511627776 < v * base + valueI c.toNat then 1099511627776 else v * base + valueI c.toNat) v
theorem accR_cons (base v : Int) (c : UInt8) (l : List UInt8) : accR base v (c :: l) = accR base (if 1099511627776 < v * base + valueI c.toNat then 1099511627776 else v * base + valueI c.toNat) l := rfl

set_option maxRecDepth 100000 in
set_option maxHeartbeats 2000000 in
theorem rdigit_any (c : Int) (w : World) : Calls Try.prog 72 #[.int .u8 c] w fun e w' => e = .returned (.bool (decide (48 ≤ c) && decide (c ≤ 57))) ∧ w = w' := by
  by_cases a1 : 48 ≤ c
  all_goals by_cases a2 : c ≤ 57
  all_goals
    go_enter Try.func72, Try.ntmps72
    go_wp2
    go_ret
    simp [a1, a2]

set_option maxRecDepth 100000 in
set_option maxHeartbeats 2000000 in
theorem rall_any (s : ByteArray) (hs : s.size ≤ 9223372036854775807) (w : World) :
    Calls Try.prog 52 #[.string s] w fun e w' => e = .returned (.bool (s.toList.all isDig)) ∧ w = w' := by
  go_enter Try.func52, Try.ntmps52
  go_wp2_with fail
  go_loop [3] (fun n => ∃ j : Nat, j ≤ s.size ∧ n = .int .i64 j ∧ s.toList.all isDig = (s.toList.drop j).all isDig) (fun n => s.size - (intOf n).toNat)
  case atStart => exact ⟨0, Nat.zero_le _, rfl, rfl⟩
  case round =>
    obtain ⟨j, hj, rfl, hj3⟩ := hrel
    have HJ := hid' hj3
    clear hj3
    by_cases hlt : j < s.size
    · have hlt' : (j : Int) < s.size := by omega
      have h0j : (0 : Int) ≤ j := by omega
      have HS := hid' (drop_at s j hlt)
      obtain ⟨v, hv⟩ : ∃ v, isDig s[j] = v := ⟨_, rfl⟩
      have hd : (decide (48 ≤ (s[j].toNat : Int)) && decide ((s[j].toNat : Int) ≤ 57)) = v := hv
      have HV := hid' hv
      clear hv
      have HC := hid' (fun w => by have := rdigit_any s[j].toNat w; rwa [hd] at this : ∀ w, Calls Try.prog 72 #[.int .u8 s[j].toNat] w fun e w' => e = .returned (.bool v) ∧ w = w')
      clear hd
      cases v with
      | true =>
        go_wp2_with (go_at_call 72; refine (HC.out _).mono ?_; rintro e w' ⟨rfl, rfl⟩)
        go_round
        case rel => exact ⟨j + 1, by omega, by go_num, by rw [HJ.out, HS.out, List.all_cons, HV.out]; rfl⟩
        case measure => simp [intOf]; omega
      | false =>
        go_wp2_with (go_at_call 72; refine (HC.out _).mono ?_; rintro e w' ⟨rfl, rfl⟩)
        go_ret
        exact ⟨by rw [HJ.out, HS.out, List.all_cons, HV.out]; rfl, rfl⟩
    · have HS := hid' (drop_end s j (by omega))
      have hlt' : ¬ (j : Int) < s.size := by omega
      go_wp2_with fail
      go_ret
      exact ⟨by rw [HJ.out, HS.out]; rfl, rfl⟩

theorem posL_cons (c x : UInt8) (l : List UInt8) : posL c (x :: l) = if x = c then 0 else posL c l + 1 := by
  unfold posL
  rw [List.takeWhile_cons]
  by_cases h : x = c <;> simp [h]
theorem posL_le (c : UInt8) (l : List UInt8) : posL c l ≤ l.length := (List.takeWhile_sublist _).length_le
set_option maxRecDepth 100000 in
set_option maxHeartbeats 2000000 in
theorem rfind_any (s : ByteArray) (c : UInt8) (hs : s.size ≤ 9223372036854775807) (w : World) :
    Calls Try.prog 50 #[.string s, .int .u8 c.toNat] w fun e w' => e = .returned (.int .i64 (findI c s.toList)) ∧ w = w' := by
  have HF := hid' (show findI c s.toList = if posL c s.toList < s.size then ((posL c s.toList : Nat) : Int) else -1 by unfold findI; rw [size_lst])
  go_enter Try.func50, Try.ntmps50
  go_wp2_with fail
  go_loop [5] (fun n => ∃ j : Nat, j ≤ s.size ∧ n = .int .i64 j ∧ posL c s.toList = j + posL c (s.toList.drop j)) (fun n => s.size - (intOf n).toNat)
  case atStart => exact ⟨0, Nat.zero_le _, rfl, by simp⟩
  case round =>
    obtain ⟨j, hj, rfl, hj3⟩ := hrel
    have HJ := hid' hj3
    clear hj3
    by_cases hlt : j < s.size
    · have hlt' : (j : Int) < s.size := by omega
      have h0j : (0 : Int) ≤ j := by omega
      have HS := hid' (drop_at s j hlt)
      by_cases hk : s[j] = c
      · have hk' : ((s[j].toNat : Int) == (c.toNat : Int)) = true := by rw [hk]; simp
        have HK := hid' hk
        clear hk
        go_wp2_with fail
        go_ret
        have e : posL c s.toList = j := by rw [HJ.out, HS.out, posL_cons, if_pos HK.out]; rfl
        exact ⟨by rw [HF.out, e, if_pos hlt]; rfl, rfl⟩
      · have hk' : ((s[j].toNat : Int) == (c.toNat : Int)) = false := by
          simp only [beq_eq_false_iff_ne, ne_eq]
          intro e
          exact hk (UInt8.toNat_inj.1 (by omega))
        have HK := hid' hk
        clear hk
        go_wp2_with fail
        go_round
        case rel => exact ⟨j + 1, by omega, by go_num, by rw [HJ.out, HS.out, posL_cons, if_neg HK.out]; omega⟩
        case measure => simp [intOf]; omega
    · have HS := hid' (drop_end s j (by omega))
      have hlt' : ¬ (j : Int) < s.size := by omega
      go_wp2_with fail
      go_ret
      have e : posL c s.toList = j := by rw [HJ.out, HS.out]; rfl
      exact ⟨by rw [HF.out, e, if_neg hlt]; rfl, rfl⟩

set_option maxRecDepth 100000 in
set_option maxHeartbeats 2000000 in
theorem radd_any (s : ByteArray) (base : Int) (h0 : 0 ≤ base) (h1 : base ≤ 36) (hv : ∀ c ∈ s.toList, 0 ≤ valueI c.toNat) (hs : s.size ≤ 9223372036854775807) (w : World) :
    Calls Try.prog 53 #[.string s, .int .i64 base] w fun e w' => e = .returned (.int .i64 (accR base 0 s.toList)) ∧ w = w' := by
  go_enter Try.func53, Try.ntmps53
  go_wp2_with fail
  go_loop [5, 6] (fun v n => ∃ (j : Nat) (x : Int), j ≤ s.size ∧ n = .int .i64 j ∧ v = .int .i64 x ∧ 0 ≤ x ∧ x ≤ 1099511627776 ∧ accR base 0 s.toList = accR base x (s.toList.drop j)) (fun _ n => s.size - (intOf n).toNat)
  case atStart => exact ⟨0, 0, Nat.zero_le _, rfl, rfl, by omega, by omega, rfl⟩
  case round =>
    obtain ⟨j, x, hj, rfl, rfl, x0, x1, hj3⟩ := hrel
    have HJ := hid' hj3
    clear hj3
    by_cases hlt : j < s.size
    · have hlt' : (j : Int) < s.size := by omega
      have h0j : (0 : Int) ≤ j := by omega
      have HS := hid' (drop_at s j hlt)
      have hv0 := hv s[j] (List.mem_of_getElem? (lst_get s j hlt))
      have hv1 := (valueI_le s[j].toNat).1
      have hm0 : 0 ≤ x * base := Int.mul_nonneg x0 h0
      have hm1 : x * base ≤ 1099511627776 * 36 := Int.mul_le_mul x1 h1 h0 (by omega)
      have HC := hid' (fun w => rvalue_any s[j].toNat (by omega) (by have := s[j].toNat_lt; omega) w)
      generalize hq : valueI (s[j].toNat : Int) = q at *
      have HQ := hid' hq
      clear hq hv
      go_wp2_with (go_at_call 71; refine (HC.out _).mono ?_; rintro e w' ⟨rfl, rfl⟩)
      go_round
      case rel => exact ⟨j + 1, _, by omega, by go_num, rfl, by split <;> omega, by split <;> omega, by rw [HJ.out, HS.out, accR_cons, HQ.out]⟩
      case measure => simp [intOf]; omega
    · have HS := hid' (drop_end s j (by omega))
      have hlt' : ¬ (j : Int) < s.size := by omega
      clear hv
      go_wp2_with fail
      go_ret
      exact ⟨by rw [HJ.out, HS.out]; rfl, rfl⟩
set_option maxRecDepth 100000 in
set_option maxHeartbeats 1000000 in
theorem rten_any (n : Nat) (h : n ≤ 18) (w : World) : Calls Try.prog 64 #[.int .i64 n] w fun e w' => e = .returned (.int .i64 (10 ^ n)) ∧ w = w' := by
  have h' : (n : Int) ≤ 18 := by omega
  go_enter Try.func64, Try.ntmps64
  go_wp2_with fail
  go_loop [0, 3] (fun i p => ∃ j : Nat, j ≤ n ∧ i = .int .i64 j ∧ p = .int .i64 (10 ^ (n - j))) (fun i _ => (intOf i).toNat)
  case atStart => exact ⟨n, Nat.le_refl _, rfl, by simp⟩
  case round =>
    obtain ⟨j, hj, rfl, rfl⟩ := hrel
    have hp := pow_18 (n - j) (by omega)
    by_cases hlt : 0 < j
    · have hlt' : 0 < (j : Int) := by omega
      have hp2 := (pow_18 (n - j + 1) (by omega)).2
      rw [Int.pow_succ] at hp2
      have HE := hid' (show (10 : Int) * 10 ^ (n - j) = 10 ^ (n - (j - 1)) by
        rw [show n - (j - 1) = n - j + 1 by omega, Int.pow_succ]; omega)
      generalize (10 : Int) ^ (n - j) = p at *
      obtain ⟨p0, p1⟩ := hp
      go_wp2_with fail
      go_round
      case rel => exact ⟨j - 1, by omega, by go_num, by rw [HE.out]⟩
      case measure => simp [intOf]; omega
    · obtain rfl : j = 0 := by omega
      go_wp2_with fail
      go_ret
      exact ⟨rfl, rfl⟩
end Go.Proofs.Ytgahapnjlngebaa
/- Walk: layer 1's reference where nothing is below 0 and the product fits: Mag, share, signed, MulDiv; Mul64, Div64. -/
namespace Go.Proofs.Ytgahapnjlngebaa
open Go.RowKit

set_option maxRecDepth 100000 in
set_option maxHeartbeats 1000000 in
theorem mul64_any (x y : Nat) (hx : x < 18446744073709551616) (hy : y < 18446744073709551616) (w : World) :
    Calls Try.prog 85 #[.int .u64 x, .int .u64 y] w fun e w' => e = .returned (.tuple #[.int .u64 ((x * y / 18446744073709551616 : Nat) : Int), .int .u64 ((x * y % 18446744073709551616 : Nat) : Int)]) ∧ w = w' := by
  obtain ⟨bd, bt, bw, hhi⟩ := Lib.mul64_hi x y hx hy
  have ba := Lib.half_mul_le (a := x / 4294967296) (b := y / 4294967296) (by omega) (by omega)
  have bb := Lib.half_mul_le (a := x / 4294967296) (b := y % 4294967296) (by omega) (by omega)
  have bc := Lib.half_mul_le (a := x % 4294967296) (b := y / 4294967296) (by omega) (by omega)
  have ba' : x / 4294967296 * (y / 4294967296) < 18446744073709551616 := by omega
  have bb' : x / 4294967296 * (y % 4294967296) < 18446744073709551616 := by omega
  have bc' : x % 4294967296 * (y / 4294967296) < 18446744073709551616 := by omega
  have bh1 : x / 4294967296 * (y / 4294967296) + (x / 4294967296 * (y % 4294967296) + x % 4294967296 * (y % 4294967296) / 4294967296) / 4294967296 < 18446744073709551616 := by omega
  have bh : x / 4294967296 * (y / 4294967296) + (x / 4294967296 * (y % 4294967296) + x % 4294967296 * (y % 4294967296) / 4294967296) / 4294967296 + ((x / 4294967296 * (y % 4294967296) + x % 4294967296 * (y % 4294967296) / 4294967296) % 4294967296 + x % 4294967296 * (y / 4294967296)) / 4294967296 < 18446744073709551616 := by omega
  go_enter Try.func85, Try.ntmps85
  go_wp2
  simp only [Mul64.maskN x hx, Mul64.maskN y hy, Mul64.divN, Mul64.mulN, Mul64.addN, Mul64.wrapN _ bd, Mul64.wrapN _ bb', Mul64.wrapN _ bt, Mul64.maskN _ bt, Mul64.wrapN _ bc', Mul64.wrapN _ bw, Mul64.wrapN _ ba', Mul64.wrapN _ bh1, Mul64.wrapN _ bh, Mul64.wrapM (x * y)]
  rw [hhi]
  go_ret2
  exact ⟨rfl, rfl⟩
set_option maxRecDepth 100000 in
set_option maxHeartbeats 1000000 in
theorem div64_any (x y : Nat) (hx : x < 18446744073709551616) (hy : y < 18446744073709551616) (h0 : 0 < y) (w : World) :
    Calls Try.prog 86 #[.int .u64 0, .int .u64 x, .int .u64 y] w fun e w' => e = .returned (.tuple #[.int .u64 ((x / y : Nat) : Int), .int .u64 ((x % y : Nat) : Int)]) ∧ Chg NoB w w' := by
  have h0' : (0 : Int) < y := by omega
  have hd : ((x / y : Nat) : Int) = (x : Int) / y := by simp
  have hm : ((x % y : Nat) : Int) = (x : Int) % y := by simp
  have q0 : (0 : Int) ≤ (x : Int) / y := Int.ediv_nonneg (by omega) (by omega)
  have q1 : (x : Int) / y ≤ x := Int.ediv_le_self y (by omega)
  have t1 : (x : Int).tdiv y = (x : Int) / y := Int.tdiv_eq_ediv_of_nonneg (by omega)
  have t2 : (x : Int).tmod y = (x : Int) % y := Int.tmod_eq_emod_of_nonneg (by omega)
  have nb : ¬ (y : Int) = 0 := by omega
  have nb' : ((y : Int) == 0) = false := by simpa using nb
  have t3 : IntKind.u64.wrap ((x : Int) / y) = (x : Int) / y := by rw [IntKind.wrap_u64]; omega
  rw [hd, hm]
  clear hd hm
  go_enter Try.func86, Try.ntmps86
  go_wp2_with fail
  go_quiet (fail)
  have X := (Chg.refl NoB w).drewN nq
  generalize w.drewN nq = w1 at *
  go_wp2_with fail
  go_ret2
  exact ⟨rfl, X⟩
set_option maxRecDepth 100000 in
set_option maxHeartbeats 1000000 in
theorem mag_any (a : Nat) (h : a ≤ 9223372036854775807) (w : World) : Calls Try.prog 62 #[.int .i64 a] w fun e w' => e = .returned (.int .u64 a) ∧ w = w' := by
  have h' : (a : Int) ≤ 9223372036854775807 := by omega
  have e : IntKind.u64.wrap (a : Int) = a := by rw [IntKind.wrap_u64]; omega
  go_enter Try.func62, Try.ntmps62
  go_wp2_with fail
  go_ret
  exact ⟨by rfl, rfl⟩
set_option maxRecDepth 100000 in
set_option maxHeartbeats 1000000 in
theorem signed1_any (q : Nat) (h : q < 9223372036854775808) (w : World) : Calls Try.prog 82 #[.int .u64 q, .bool false] w fun e w' => e = .returned (.tuple #[.int .i64 q, .bool true]) ∧ w = w' := by
  have h' : (q : Int) < 9223372036854775808 := by omega
  have e : IntKind.i64.wrap (q : Int) = q := IntWalk.i64_in _ (by omega)
  by_cases z : q = 0
  · subst z
    go_enter Try.func82, Try.ntmps82
    go_wp2_with fail
    go_ret2
    exact ⟨rfl, rfl⟩
  · have z' : ((q : Int) == 0) = false := by simp; omega
    go_enter Try.func82, Try.ntmps82
    go_wp2_with fail
    go_ret2
    exact ⟨rfl, rfl⟩
set_option maxRecDepth 100000 in
set_option maxHeartbeats 1000000 in
theorem share_any (a b d : Nat) (ha : a ≤ 9223372036854775807) (hb : b ≤ 9223372036854775807) (hd : d ≤ 9223372036854775807) (d0 : 0 < d) (hp : a * b < 18446744073709551616) (w : World) :
    Calls Try.prog 81 #[.int .i64 a, .int .i64 b, .int .i64 d] w fun e w' => e = .returned (.tuple #[.int .u64 (((a * b : Nat) : Int) / (d : Int)), .int .u64 (((a * b : Nat) : Int) % (d : Int)), .bool false, .bool true]) ∧ Chg NoB w w' := by
  have HA := hid' (fun w => mag_any a ha w)
  have HB := hid' (fun w => mag_any b hb w)
  have HD := hid' (fun w => mag_any d hd w)
  have hM := fun w => mul64_any a b (by omega) (by omega) w
  rw [Nat.div_eq_of_lt hp, Nat.mod_eq_of_lt hp] at hM
  have HM := hid' hM
  have HV := hid' (fun w => div64_any (a * b) d hp (by omega) d0 w)
  have d0' : ¬ (d : Int) ≤ 0 := by omega
  have e1 : decide ((a : Int) < 0) = false := by simp
  have e2 : decide ((b : Int) < 0) = false := by simp
  have e3 : decide ((d : Int) < 0) = false := by simp
  clear hM
  generalize a * b = p at *
  go_enter Try.func81, Try.ntmps81
  go_wp2_with fail
  refine (HA.out _).mono ?_
  rintro e w1 ⟨rfl, rfl⟩
  go_wp2_with fail
  refine (HB.out _).mono ?_
  rintro e w1 ⟨rfl, rfl⟩
  go_wp2_with fail
  refine (HM.out _).mono ?_
  rintro e w1 ⟨rfl, rfl⟩
  go_wp2_with fail
  refine (HD.out _).mono ?_
  rintro e w1 ⟨rfl, rfl⟩
  go_wp2_with fail
  refine (HV.out _).mono ?_
  rintro e w1 ⟨rfl, X⟩
  go_wp2_with fail
  exact bodyPost_ret (v := .tuple #[.int .u64 ((p : Int) / d), .int .u64 ((p : Int) % d), .bool false, .bool true]) (by simp [results, Try.results81, go_sem]) rfl ⟨rfl, X⟩
set_option maxRecDepth 100000 in
set_option maxHeartbeats 1000000 in
/-- To the nearest, of two as near the even one. -/
theorem muldiv_any (a b d : Nat) (ha : a ≤ 9223372036854775807) (hb : b ≤ 9223372036854775807) (hd : d ≤ 9223372036854775807) (d0 : 0 < d) (hp : a * b < 9223372036854775807) (w : World) :
    Calls Try.prog 63 #[.int .i64 a, .int .i64 b, .int .i64 d] w fun e w' => e = .returned (.tuple #[.int .i64 (nearI ((a * b : Nat) : Int) d), .bool true]) ∧ Chg NoB w w' := by
  have HS := hid' (fun w => share_any a b d ha hb hd d0 (by omega) w)
  have HD := hid' (fun w => mag_any d hd w)
  have hr : nearI ((a * b : Nat) : Int) d = if (d : Int) - ((a * b : Nat) : Int) % (d : Int) < ((a * b : Nat) : Int) % (d : Int) ∨ (((a * b : Nat) : Int) % (d : Int) = (d : Int) - ((a * b : Nat) : Int) % (d : Int) ∧ ((a * b : Nat) : Int) / (d : Int) % 2 = 1) then ((a * b : Nat) : Int) / (d : Int) + 1 else ((a * b : Nat) : Int) / (d : Int) := rfl
  have HR := hid' hr
  have r0 : 0 ≤ ((a * b : Nat) : Int) % (d : Int) := Int.emod_nonneg _ (by omega)
  have r1 : ((a * b : Nat) : Int) % (d : Int) < d := Int.emod_lt_of_pos _ (by omega)
  have q0 : 0 ≤ ((a * b : Nat) : Int) / (d : Int) := Int.ediv_nonneg (by omega) (by omega)
  have q1 : ((a * b : Nat) : Int) / (d : Int) ≤ ((a * b : Nat) : Int) := Int.ediv_le_self _ (by omega)
  clear hr
  generalize ((a * b : Nat) : Int) / (d : Int) = q at *
  generalize ((a * b : Nat) : Int) % (d : Int) = r at *
  have w1 : IntKind.u64.wrap ((d : Int) - r) = (d : Int) - r := by rw [IntKind.wrap_u64]; omega
  have w2 : IntKind.u64.wrap (q + 1) = q + 1 := by rw [IntKind.wrap_u64]; omega
  have w3 : (q == 18446744073709551615) = false := by simp; omega
  have w4 : q.tmod 2 = q % 2 := Int.tmod_eq_emod_of_nonneg (by omega)
  have HQ0 : ∀ z : Int, 0 ≤ z → z < 9223372036854775808 → ∀ w, Calls Try.prog 82 #[.int .u64 z, .bool false] w fun e w' => e = .returned (.tuple #[.int .i64 z, .bool true]) ∧ w = w' := fun z z0 z1 w => by
    have := signed1_any z.toNat (by omega) w
    rwa [show ((z.toNat : Nat) : Int) = z by omega] at this
  by_cases c1 : (d : Int) - r < r
  · have HQ := hid' (HQ0 (q + 1) (by omega) (by omega))
    clear HQ0
    go_enter Try.func63, Try.ntmps63
    go_wp2_with fail
    refine (HS.out _).mono ?_
    rintro e w1 ⟨rfl, X⟩
    go_wp2_with fail
    refine (HD.out _).mono ?_
    rintro e w1 ⟨rfl, rfl⟩
    go_wp2_with fail
    refine (HQ.out _).mono ?_
    rintro e w1 ⟨rfl, rfl⟩
    go_wp2_with fail
    go_ret2
    exact ⟨by rw [HR.out, if_pos (.inl c1)]; rfl, X⟩
  · have c1' : r ≤ (d : Int) - r := by omega
    by_cases c2 : r = (d : Int) - r
    · have c2' : (r == (d : Int) - r) = true := by simpa using c2
      have C2 := hid' c2
      clear c2
      by_cases c3 : q % 2 = 1
      · have c3' : (q % 2 == 1) = true := by simpa using c3
        have C3 := hid' c3
        clear c3
        have HQ := hid' (HQ0 (q + 1) (by omega) (by omega))
        clear HQ0
        go_enter Try.func63, Try.ntmps63
        go_wp2_with fail
        refine (HS.out _).mono ?_
        rintro e w1 ⟨rfl, X⟩
        go_wp2_with fail
        refine (HD.out _).mono ?_
        rintro e w1 ⟨rfl, rfl⟩
        go_wp2_with fail
        refine (HQ.out _).mono ?_
        rintro e w1 ⟨rfl, rfl⟩
        go_wp2_with fail
        go_ret2
        exact ⟨by rw [HR.out, if_pos (.inr ⟨C2.out, C3.out⟩)]; rfl, X⟩
      · have c3' : (q % 2 == 1) = false := by simpa using c3
        have C3 := hid' c3
        clear c3
        have HQ := hid' (HQ0 q (by omega) (by omega))
        clear HQ0
        go_enter Try.func63, Try.ntmps63
        go_wp2_with fail
        refine (HS.out _).mono ?_
        rintro e w1 ⟨rfl, X⟩
        go_wp2_with fail
        refine (HD.out _).mono ?_
        rintro e w1 ⟨rfl, rfl⟩
        go_wp2_with fail
        refine (HQ.out _).mono ?_
        rintro e w1 ⟨rfl, rfl⟩
        go_wp2_with fail
        go_ret2
        exact ⟨by rw [HR.out, if_neg (by rintro (h | ⟨-, h⟩); omega; exact C3.out h)]; rfl, X⟩
    · have c2' : (r == (d : Int) - r) = false := by simpa using c2
      have C2 := hid' c2
      clear c2
      have HQ := hid' (HQ0 q (by omega) (by omega))
      clear HQ0
      go_enter Try.func63, Try.ntmps63
      go_wp2_with fail
      refine (HS.out _).mono ?_
      rintro e w1 ⟨rfl, X⟩
      go_wp2_with fail
      refine (HD.out _).mono ?_
      rintro e w1 ⟨rfl, rfl⟩
      go_wp2_with fail
      refine (HQ.out _).mono ?_
      rintro e w1 ⟨rfl, rfl⟩
      go_wp2_with fail
      go_ret2
      exact ⟨by rw [HR.out, if_neg (by rintro (h | ⟨h, -⟩); omega; exact C2.out h)]; rfl, X⟩
end Go.Proofs.Ytgahapnjlngebaa
/- Walk: layer 6's reference: based. -/
namespace Go.Proofs.Ytgahapnjlngebaa
open Go.RowKit

def digB (base : Int) (c : UInt8) : Bool := decide (0 ≤ valueI c.toNat) && decide (valueI c.toNat < base)
/-- A number to a base, as the reference reads it: the head, what is behind the sign. -/
def rbF (h d : List UInt8) : Int × Int × Int :=
  if h.length < 1 ∨ 2 < h.length ∨ h.all isDig = false ∨ h.head? = some 48 ∨ d = [] then (0, 0, 3)
  else if accR 10 0 h < 2 ∨ 36 < accR 10 0 h then (0, 0, 3)
  else if d.all (digB (accR 10 0 h)) = false then (0, 0, 3)
  else if 2147483647 < accR (accR 10 0 h) 0 d then (0, 0, 2) else (1, accR (accR 10 0 h) 0 d, 0)
theorem dig_value (c : UInt8) (h : isDig c = true) : valueI c.toNat = (c.toNat : Int) - 48 ∧ 0 ≤ valueI c.toNat := by
  simp only [isDig, Bool.and_eq_true, decide_eq_true_eq] at h
  unfold valueI
  rw [if_pos h]
  omega
theorem all_value (l : List UInt8) (h : l.all isDig = true) : ∀ c ∈ l, 0 ≤ valueI c.toNat := fun c hc => (dig_value c (List.all_eq_true.1 h c hc)).2
theorem accR_le (base : Int) (h0 : 0 ≤ base) : ∀ (l : List UInt8) (_ : ∀ c ∈ l, 0 ≤ valueI c.toNat) (v : Int), 0 ≤ v → v ≤ 1099511627776 → 0 ≤ accR base v l ∧ accR base v l ≤ 1099511627776
  | [], _, v, h1, h2 => ⟨h1, h2⟩
  | c :: l, h, v, h1, h2 => by
    rw [accR_cons]
    have := h c (by simp)
    have h3 : 0 ≤ v * base := Int.mul_nonneg h1 h0
    exact accR_le base h0 l (fun x hx => h x (by simp [hx])) _ (by split <;> omega) (by split <;> omega)
theorem isEmpty_size (s : ByteArray) : s.toList.isEmpty = decide (s.size = 0) := by
  rw [← size_lst]
  cases s.toList <;> simp
theorem ext0_lst (s : ByteArray) (a : Nat) : (s.extract 0 a).toList = s.toList.take a := by
  rw [ByteArray.toList_eq, ByteArray.toList_eq, ByteArray.data_extract]
  simp [List.extract_eq_take_drop]
theorem extE_lst (s : ByteArray) (a : Nat) : (s.extract a s.size).toList = s.toList.drop a := by
  rw [ByteArray.toList_eq, ByteArray.toList_eq, ByteArray.data_extract]
  have : s.size = s.data.toList.length := rfl
  simp only [Array.toList_extract, List.extract_eq_take_drop, this]
  rw [List.take_of_length_le]
  simp

set_option maxRecDepth 100000 in
set_option maxHeartbeats 1000000 in
theorem rbased_any (s : ByteArray) (a : Nat) (hs : s.size ≤ 9223372036854775807) (ha : a < s.size) (w : World) :
    Calls Try.prog 51 #[.string s, .int .i64 a] w fun e w' => e = .returned (readV (rbF (s.toList.take a) (s.toList.drop (a + 1)))) ∧ Chg NoB w w' := by
  obtain ⟨y1, hy1⟩ : ∃ y, s.extract 0 a = y := ⟨_, rfl⟩
  obtain ⟨y2, hy2⟩ : ∃ y, s.extract (a + 1) s.size = y := ⟨_, rfl⟩
  have hy1' : s.extract 0 (a : Int).toNat = y1 := hy1
  have hy2' : s.extract ((a : Int) + 1).toNat s.size = y2 := by rw [← hy2, show ((a : Int) + 1).toNat = a + 1 by omega]
  have l1 : y1.toList = s.toList.take a := by rw [← hy1, ext0_lst]
  have l2 : y2.toList = s.toList.drop (a + 1) := by rw [← hy2, extE_lst]
  have z1 : y1.size = a := by rw [← hy1, ByteArray.size_extract]; omega
  have z2 : y2.size = s.size - (a + 1) := by rw [← hy2, ByteArray.size_extract]; omega
  rw [← l1, ← l2]
  obtain ⟨R, hR⟩ : ∃ R, rbF y1.toList y2.toList = R := ⟨_, rfl⟩
  rw [hR]
  have hr : R = rbF y1.toList y2.toList := hR.symm
  unfold rbF at hr
  rw [size_lst, z1] at hr
  clear hR
  have ha' : (a : Int) < s.size := by omega
  have ha0 : (0 : Int) ≤ a := by omega
  have ha1 : (a : Int) + 1 ≤ s.size := by omega
  have z1' : (y1.size : Int) = a := by omega
  clear hy1' hy2' l1 l2
  by_cases c1 : a < 1
  · have c1' : (a : Int) < 1 := by omega
    have HR := hid' (hr.trans (if_pos (.inl c1)))
    clear hr
    go_enter Try.func51, Try.ntmps51
    go_wp2_with fail
    go_quiet (fail)
    have X := (Chg.refl NoB w).drewN nq
    generalize w.drewN nq = w1 at *
    go_wp2_with fail
    go_ret3
    exact ⟨by rw [HR.out]; rfl, X⟩
  by_cases c2 : 2 < a
  · have c1' : 1 ≤ (a : Int) := by omega
    have c2' : 2 < (a : Int) := by omega
    have HR := hid' (hr.trans (if_pos (.inr (.inl c2))))
    clear hr
    go_enter Try.func51, Try.ntmps51
    go_wp2_with fail
    go_quiet (fail)
    have X := (Chg.refl NoB w).drewN nq
    generalize w.drewN nq = w1 at *
    go_wp2_with fail
    go_ret3
    exact ⟨by rw [HR.out]; rfl, X⟩
  have c1' : 1 ≤ (a : Int) := by omega
  have c2' : (a : Int) ≤ 2 := by omega
  have HA0 := fun w => rall_any y1 (by omega) w
  obtain ⟨v1, hv1⟩ : ∃ v, y1.toList.all isDig = v := ⟨_, rfl⟩
  rw [hv1] at HA0 hr
  have HA := hid' HA0
  clear HA0
  cases v1 with
  | false =>
    have HR := hid' (hr.trans (if_pos (.inr (.inr (.inl rfl)))))
    clear hr hv1
    go_enter Try.func51, Try.ntmps51
    go_wp2_with fail
    go_quiet (fail)
    have X := (Chg.refl NoB w).drewN nq
    generalize w.drewN nq = w1 at *
    go_wp2_with fail
    refine (HA.out _).mono ?_
    rintro e w2 ⟨rfl, rfl⟩
    go_wp2_with fail
    go_ret3
    exact ⟨by rw [HR.out]; rfl, X⟩
  | true =>
  have hh : y1.toList.head? = some y1[0] := by rw [List.head?_eq_getElem?]; exact lst_get y1 0 (by omega)
  rw [hh] at hr
  have p0 : 0 < y1.size := by omega
  have p0' : 0 < (y1.size : Int) := by omega
  by_cases c3 : y1[0] = 48
  · have e3 : ((y1[0].toNat : Int) == 48) = true := by rw [c3]; rfl
    have HR := hid' (hr.trans (if_pos (.inr (.inr (.inr (.inl (by rw [c3])))))))
    clear hr hv1 hh c3
    go_enter Try.func51, Try.ntmps51
    go_wp2_with fail
    go_quiet (fail)
    have X := (Chg.refl NoB w).drewN nq
    generalize w.drewN nq = w1 at *
    go_wp2_with fail
    refine (HA.out _).mono ?_
    rintro e w2 ⟨rfl, rfl⟩
    go_wp2_with fail
    go_ret3
    exact ⟨by rw [HR.out]; rfl, X⟩
  have e3 : ((y1[0].toNat : Int) == 48) = false := by
    simp only [beq_eq_false_iff_ne, ne_eq]
    intro e
    exact c3 (UInt8.toNat_inj.1 (by have : (48 : UInt8).toNat = 48 := rfl; omega))
  by_cases c4 : y2.toList = []
  · have e4 : y2.toList.isEmpty = true := by rw [c4]; rfl
    have HR := hid' (hr.trans (if_pos (.inr (.inr (.inr (.inr c4))))))
    clear hr hv1 hh c3 c4
    go_enter Try.func51, Try.ntmps51
    go_wp2_with fail
    go_quiet (fail)
    have X := (Chg.refl NoB w).drewN nq
    generalize w.drewN nq = w1 at *
    go_wp2_with fail
    refine (HA.out _).mono ?_
    rintro e w2 ⟨rfl, rfl⟩
    go_wp2_with fail
    go_ret3
    exact ⟨by rw [HR.out]; rfl, X⟩
  have e4 : y2.toList.isEmpty = false := by cases h : y2.toList with
    | nil => exact absurd h c4
    | cons => rfl
  have hr := hr.trans (if_neg (fun h => by rcases h with h | h | h | h | h; omega; omega; exact absurd h (by decide); exact c3 (Option.some.inj h); exact c4 h))
  have HD0 := fun w => radd_any y1 10 (by omega) (by omega) (all_value _ hv1) (by omega) w
  have hB0 := accR_le 10 (by omega) y1.toList (all_value _ hv1) 0 (by omega) (by omega)
  generalize accR 10 0 y1.toList = B at *
  have HD := hid' HD0
  clear HD0 hv1 hh c3 c4
  by_cases c5 : B < 2
  · have HR := hid' (hr.trans (if_pos (.inl c5)))
    clear hr
    go_enter Try.func51, Try.ntmps51
    go_wp2_with fail
    go_quiet (fail)
    have X := (Chg.refl NoB w).drewN nq
    generalize w.drewN nq = w1 at *
    go_wp2_with fail
    refine (HA.out _).mono ?_
    rintro e w2 ⟨rfl, rfl⟩
    go_wp2_with fail
    refine (HD.out _).mono ?_
    rintro e w2 ⟨rfl, rfl⟩
    go_wp2_with fail
    go_ret3
    exact ⟨by rw [HR.out]; rfl, X⟩
  by_cases c6 : 36 < B
  · have c5' : 2 ≤ B := by omega
    have HR := hid' (hr.trans (if_pos (.inr c6)))
    clear hr
    go_enter Try.func51, Try.ntmps51
    go_wp2_with fail
    go_quiet (fail)
    have X := (Chg.refl NoB w).drewN nq
    generalize w.drewN nq = w1 at *
    go_wp2_with fail
    refine (HA.out _).mono ?_
    rintro e w2 ⟨rfl, rfl⟩
    go_wp2_with fail
    refine (HD.out _).mono ?_
    rintro e w2 ⟨rfl, rfl⟩
    go_wp2_with fail
    go_ret3
    exact ⟨by rw [HR.out]; rfl, X⟩
  have c5' : 2 ≤ B := by omega
  have c6' : B ≤ 36 := by omega
  have hr := hr.trans (if_neg (fun h => by omega))
  have HR0 := hid' hr
  clear hr
  go_enter Try.func51, Try.ntmps51
  go_wp2_with fail
  go_quiet (fail)
  have X := (Chg.refl NoB w).drewN nq
  generalize w.drewN nq = w1 at *
  go_wp2_with fail
  refine (HA.out _).mono ?_
  rintro e w2 ⟨rfl, rfl⟩
  go_wp2_with fail
  refine (HD.out _).mono ?_
  rintro e w2 ⟨rfl, rfl⟩
  go_wp2_with fail
  go_loopw [10] (fun iv wr => ∃ i : Nat, i ≤ y2.size ∧ iv = .int .i64 i ∧ y2.toList.all (digB B) = (y2.toList.drop i).all (digB B) ∧ Chg NoB w wr) (fun iv _ => y2.size - (intOf iv).toNat)
  case atStart => exact ⟨0, Nat.zero_le _, rfl, rfl, X⟩
  case round =>
    obtain ⟨i, hi, rfl, hal, X2⟩ := hrel
    have HAL := hid' hal
    clear hal X
    by_cases hlt : i < y2.size
    · have hlt' : (i : Int) < y2.size := by omega
      have h0i : (0 : Int) ≤ i := by omega
      have HS := hid' (drop_at y2 i hlt)
      have HC := hid' (fun w => rvalue_any y2[i].toNat (by omega) (by have := y2[i].toNat_lt; omega) w)
      have HB := hid' (show digB B y2[i] = (decide (0 ≤ valueI y2[i].toNat) && decide (valueI y2[i].toNat < B)) from rfl)
      generalize valueI (y2[i].toNat : Int) = q at *
      by_cases d1 : q < 0
      · have hf : y2.toList.all (digB B) = false := by
          rw [HAL.out, HS.out, List.all_cons, HB.out, decide_eq_false (by omega)]; rfl
        have HR := hid' (HR0.out.trans (if_pos hf))
        clear hf HR0
        go_wp2_with fail
        refine (HC.out _).mono ?_
        rintro e w3 ⟨rfl, rfl⟩
        go_wp2_with fail
        go_ret3
        exact ⟨by rw [HR.out]; rfl, X2⟩
      · have d1' : 0 ≤ q := by omega
        by_cases d2 : B ≤ q
        · have hf : y2.toList.all (digB B) = false := by
            rw [HAL.out, HS.out, List.all_cons, HB.out, decide_eq_false (show ¬ q < B by omega), Bool.and_false]; rfl
          have HR := hid' (HR0.out.trans (if_pos hf))
          clear hf HR0
          go_wp2_with fail
          refine (HC.out _).mono ?_
          rintro e w3 ⟨rfl, rfl⟩
          go_wp2_with fail
          go_ret3
          exact ⟨by rw [HR.out]; rfl, X2⟩
        · have d2' : q < B := by omega
          have hb : digB B y2[i] = true := by rw [HB.out]; simp; omega
          have HB2 := hid' hb
          clear hb
          go_wp2_with fail
          refine (HC.out _).mono ?_
          rintro e w3 ⟨rfl, rfl⟩
          go_wp2_with fail
          go_roundw
          case rel => exact ⟨i + 1, by omega, by go_num, by rw [HAL.out, HS.out, List.all_cons, HB2.out]; rfl, X2⟩
          case measure => simp [intOf]; omega
    · have hlt' : ¬ (i : Int) < y2.size := by omega
      have hf : y2.toList.all (digB B) = true := by rw [HAL.out, drop_end y2 i (by omega)]; rfl
      have HR1 := hid' (HR0.out.trans (if_neg (by rw [hf]; decide)))
      have hdv : ∀ c ∈ y2.toList, 0 ≤ valueI c.toNat := fun c hc => by
        have := List.all_eq_true.1 hf c hc
        simp only [digB, Bool.and_eq_true, decide_eq_true_eq] at this
        exact this.1
      have HE0 := fun w => radd_any y2 B (by omega) (by omega) hdv (by omega) w
      have hV := accR_le B (by omega) y2.toList hdv 0 (by omega) (by omega)
      generalize accR B 0 y2.toList = V at *
      have HE := hid' HE0
      clear HE0 HR0 hf hdv HAL
      by_cases c7 : 2147483647 < V
      · have HR := hid' (HR1.out.trans (if_pos c7))
        go_wp2_with fail
        refine (HE.out _).mono ?_
        rintro e w3 ⟨rfl, rfl⟩
        go_wp2_with fail
        go_ret3
        exact ⟨by rw [HR.out]; rfl, X2⟩
      · have c7' : V ≤ 2147483647 := by omega
        have HR := hid' (HR1.out.trans (if_neg c7))
        go_wp2_with fail
        refine (HE.out _).mono ?_
        rintro e w3 ⟨rfl, rfl⟩
        go_wp2_with fail
        go_ret3
        exact ⟨by rw [HR.out]; rfl, X2⟩
end Go.Proofs.Ytgahapnjlngebaa
/- Walk: layer 6's reference: pointed, Read. -/
namespace Go.Proofs.Ytgahapnjlngebaa
open Go.RowKit

/-- A number with a point, as the reference reads it. -/
def rpF (wh pt : List UInt8) : Int × Int :=
  if 12 < pt.length then (0, 2)
  else if 1073741823 < accR 10 0 wh * 65536 + nearI (accR 10 0 pt * 65536) (10 ^ pt.length) then (0, 2)
  else (accR 10 0 wh * 65536 + nearI (accR 10 0 pt * 65536) (10 ^ pt.length), 0)
def rrS (d : List UInt8) (below : Bool) : Int × Int × Int :=
  if posL 46 d < d.length then
    if (d.take (posL 46 d)).all isDig = false ∨ (d.drop (posL 46 d + 1)).all isDig = false ∨ d.length < 2 then (0, 0, 3)
    else if (rpF (d.take (posL 46 d)) (d.drop (posL 46 d + 1))).2 ≠ 0 then (0, 0, (rpF (d.take (posL 46 d)) (d.drop (posL 46 d + 1))).2)
    else (2, sgnI below (rpF (d.take (posL 46 d)) (d.drop (posL 46 d + 1))).1, 0)
  else if d = [] ∨ d.all isDig = false then (0, 0, 3)
  else if 2147483647 < accR 10 0 d then (0, 0, 2) else (1, sgnI below (accR 10 0 d), 0)
/-- A number, as the reference reads it. -/
def rrF (l : List UInt8) : Int × Int × Int :=
  if posL 35 l < l.length then rbF (l.take (posL 35 l)) (l.drop (posL 35 l + 1))
  else if l.head? = some 43 then rrS (l.drop 1) false else if l.head? = some 45 then rrS (l.drop 1) true else rrS l false

set_option maxRecDepth 100000 in
set_option maxHeartbeats 1000000 in
theorem rpointed_any (wh pt : ByteArray) (h1 : wh.size ≤ 9223372036854775807) (h2 : pt.size ≤ 9223372036854775807) (d1 : wh.toList.all isDig = true) (d2 : pt.toList.all isDig = true) (w : World) :
    Calls Try.prog 54 #[.string wh, .string pt] w fun e w' => e = .returned (.tuple #[.int .i64 (rpF wh.toList pt.toList).1, .int .i64 (rpF wh.toList pt.toList).2]) ∧ Chg NoB w w' := by
  obtain ⟨R, hR⟩ : ∃ R, rpF wh.toList pt.toList = R := ⟨_, rfl⟩
  rw [hR]
  have hr : R = rpF wh.toList pt.toList := hR.symm
  unfold rpF at hr
  rw [size_lst] at hr
  clear hR
  by_cases c1 : 12 < pt.size
  · have c1' : 12 < (pt.size : Int) := by omega
    have HR := hid' (hr.trans (if_pos c1))
    clear hr
    go_enter Try.func54, Try.ntmps54
    go_wp2_with fail
    go_ret2
    exact ⟨by rw [HR.out]; rfl, Chg.refl _ _⟩
  have c1' : (pt.size : Int) ≤ 12 := by omega
  have hr := hr.trans (if_neg c1)
  have HP := hid' (fun w => radd_any pt 10 (by omega) (by omega) (all_value _ d2) h2 w)
  have HW := hid' (fun w => radd_any wh 10 (by omega) (by omega) (all_value _ d1) h1 w)
  have b1 := accR_le 10 (by omega) wh.toList (all_value _ d1) 0 (by omega) (by omega)
  have b2 := accR_le 10 (by omega) pt.toList (all_value _ d2) 0 (by omega) (by omega)
  generalize accR 10 0 wh.toList = A at *
  generalize accR 10 0 pt.toList = B at *
  have HT := hid' (fun w => rten_any pt.size (by omega) w)
  have hp := pow_18 pt.size (by omega)
  have e4 : ((10 ^ pt.size : Nat) : Int) = (10 : Int) ^ pt.size := by simp
  have hmd := fun w => muldiv_any B.toNat 65536 (10 ^ pt.size) (by omega) (by omega) (by have := hp.2; omega) (Nat.pow_pos (by decide)) (by omega) w
  have e1 : ((B.toNat * 65536 : Nat) : Int) = B * 65536 := by omega
  have e2 : ((B.toNat : Nat) : Int) = B := by omega
  have e3 : ((10 ^ pt.size : Nat) : Int) = (10 : Int) ^ pt.size := by simp
  rw [e1, e2, e3] at hmd
  have HM := hid' hmd
  have hn := nearI_le (B * 65536) (10 ^ pt.size) (by omega) hp.1
  generalize nearI (B * 65536) (10 ^ pt.size) = M at *
  generalize (10 : Int) ^ pt.size = T at *
  clear hmd e1 e2 e3 e4 hp d1 d2
  by_cases c2 : 1073741823 < A * 65536 + M
  · have HR := hid' (hr.trans (if_pos c2))
    clear hr
    go_enter Try.func54, Try.ntmps54
    go_wp2_with fail
    refine (HP.out _).mono ?_
    rintro e w9 ⟨rfl, rfl⟩
    go_wp2_with fail
    refine (HT.out _).mono ?_
    rintro e w9 ⟨rfl, rfl⟩
    go_wp2_with fail
    refine (HM.out _).mono ?_
    rintro e w9 ⟨rfl, X9⟩
    go_wp2_with fail
    refine (HW.out _).mono ?_
    rintro e w9 ⟨rfl, rfl⟩
    go_wp2_with fail
    go_ret2
    exact ⟨by rw [HR.out]; rfl, X9⟩
  · have c2' : A * 65536 + M ≤ 1073741823 := by omega
    have HR := hid' (hr.trans (if_neg c2))
    clear hr
    go_enter Try.func54, Try.ntmps54
    go_wp2_with fail
    refine (HP.out _).mono ?_
    rintro e w9 ⟨rfl, rfl⟩
    go_wp2_with fail
    refine (HT.out _).mono ?_
    rintro e w9 ⟨rfl, rfl⟩
    go_wp2_with fail
    refine (HM.out _).mono ?_
    rintro e w9 ⟨rfl, X9⟩
    go_wp2_with fail
    refine (HW.out _).mono ?_
    rintro e w9 ⟨rfl, rfl⟩
    go_wp2_with fail
    go_ret2
    exact ⟨by rw [HR.out]; rfl, X9⟩

theorem rpF_le (wh pt : List UInt8) (d1 : wh.all isDig = true) (d2 : pt.all isDig = true) : 0 ≤ (rpF wh pt).1 ∧ (rpF wh pt).1 ≤ 1073741823 := by
  unfold rpF
  by_cases c1 : 12 < pt.length
  · rw [if_pos c1]; decide
  rw [if_neg c1]
  by_cases c2 : 1073741823 < accR 10 0 wh * 65536 + nearI (accR 10 0 pt * 65536) (10 ^ pt.length)
  · rw [if_pos c2]; decide
  rw [if_neg c2]
  have b1 := accR_le 10 (by omega) wh (all_value _ d1) 0 (by omega) (by omega)
  have b2 := accR_le 10 (by omega) pt (all_value _ d2) 0 (by omega) (by omega)
  have hn := nearI_le (accR 10 0 pt * 65536) (10 ^ pt.length) (by omega) (pow_18 pt.length (by omega)).1
  simp only
  omega

set_option maxRecDepth 100000 in
set_option maxHeartbeats 4000000 in
theorem rread_any (s : ByteArray) (hs : s.size ≤ 9223372036854775807) (w : World) :
    Calls Try.prog 28 #[.string s] w fun e w' => e = .returned (readV (rrF s.toList)) ∧ Chg NoB w w' := by
  have HF0 := fun w => rfind_any s 35 hs w
  have e35 : (((35 : UInt8).toNat : Nat) : Int) = 35 := rfl
  have e46 : (((46 : UInt8).toNat : Nat) : Int) = 46 := rfl
  rw [e35] at HF0
  unfold findI at HF0
  obtain ⟨R, hR⟩ : ∃ R, rrF s.toList = R := ⟨_, rfl⟩
  rw [hR]
  have hr : R = rrF s.toList := hR.symm
  unfold rrF at hr
  clear hR
  by_cases c0 : posL 35 s.toList < s.toList.length
  · rw [if_pos c0] at HF0 hr
    have HB0 := fun w => rbased_any s (posL 35 s.toList) hs (by rw [size_lst] at c0; exact c0) w
    rw [← hr] at HB0
    have p0 : (0 : Int) ≤ (posL 35 s.toList : Nat) := by omega
    generalize posL 35 s.toList = at35 at *
    have HF := hid' HF0
    have HB := hid' HB0
    clear HF0 HB0 hr c0
    go_enter Try.func28, Try.ntmps28
    go_wp2_with fail
    refine (HF.out _).mono ?_
    rintro e w9 ⟨rfl, rfl⟩
    go_wp2_with fail
    refine (HB.out _).mono ?_
    rintro e w9 ⟨rfl, X9⟩
    go_wp2_with fail
    go_ret3
    exact ⟨rfl, X9⟩
  rw [if_neg c0] at HF0 hr
  have HF := hid' HF0
  clear HF0 c0
  by_cases s0 : s.size = 0
  · have he : s.toList = [] := List.eq_nil_of_length_eq_zero (by rw [size_lst]; exact s0)
    have hx : s.toList.isEmpty = true := by rw [he]; rfl
    have hh : s.toList.head? = none := by rw [he]; rfl
    rw [hh, he] at hr
    have HR := hid' (show R = (0, 0, 3) from hr)
    have HD0 := fun w => rfind_any s 46 hs w
    rw [e46, show findI 46 s.toList = -1 by rw [he]; rfl] at HD0
    have HD := hid' HD0
    clear hh he hr HD0 s0
    go_enter Try.func28, Try.ntmps28
    go_wp2_with fail
    refine (HF.out _).mono ?_
    rintro e w9 ⟨rfl, rfl⟩
    go_wp2_with fail
    refine (HD.out _).mono ?_
    rintro e w9 ⟨rfl, rfl⟩
    go_wp2_with fail
    go_ret3
    exact ⟨by rw [HR.out]; rfl, Chg.refl _ _⟩
  have s1 : 0 < s.size := by omega
  have s1' : 0 < (s.size : Int) := by omega
  have hh : s.toList.head? = some s[0] := by rw [List.head?_eq_getElem?]; exact lst_get s 0 s1
  have hx : s.toList.isEmpty = false := by
    cases hl : s.toList with
    | nil => rw [hl] at hh; simp at hh
    | cons => rfl
  rw [hh] at hr
  have hb48 : ∀ n : UInt8, ¬ s[0] = n → ((s[0].toNat : Int) == (n.toNat : Int)) = false := fun n h => by
    simp only [beq_eq_false_iff_ne, ne_eq]
    intro e
    exact h (UInt8.toNat_inj.1 (by omega))
  by_cases g43 : s[0] = 43
  · have e43 : ((s[0].toNat : Int) == 43) = true := by rw [g43]; rfl
    have e45 : ((s[0].toNat : Int) == 45) = false := by rw [g43]; rfl
    obtain ⟨y, hyx⟩ : ∃ y, s.extract 1 s.size = y := ⟨_, rfl⟩
    have hr := hr.trans (if_pos (by rw [g43]))
    rw [← extE_lst s 1, hyx] at hr
    have hy : y.size ≤ 9223372036854775807 := by rw [← hyx, ByteArray.size_extract]; omega
    clear hh g43 hb48
    unfold rrS at hr
    have HD0 := fun w => rfind_any y 46 hy w
    rw [e46] at HD0
    unfold findI at HD0
    rw [size_lst] at HD0 hr
    by_cases d0 : posL 46 y.toList < y.size
    · rw [if_pos d0] at HD0 hr
      have hpt : ∀ k : Nat, (k : Int).toNat = k := fun k => Int.toNat_natCast k
      obtain ⟨q, hq⟩ : ∃ q, posL 46 y.toList = q := ⟨_, rfl⟩
      rw [hq] at HD0 hr d0
      have q0 : (0 : Int) ≤ q := by omega
      have q1 : (q : Int) < y.size := by omega
      have q2 : (q : Int) + 1 ≤ y.size := by omega
      obtain ⟨y1, hy1⟩ : ∃ x0, y.extract 0 q = x0 := ⟨_, rfl⟩
      obtain ⟨y2, hy2⟩ : ∃ x0, y.extract (q + 1) y.size = x0 := ⟨_, rfl⟩
      have l1 : y1.toList = y.toList.take q := by rw [← hy1, ext0_lst]
      have l2 : y2.toList = y.toList.drop (q + 1) := by rw [← hy2, extE_lst]
      have z1 : y1.size ≤ 9223372036854775807 := by rw [← hy1, ByteArray.size_extract]; omega
      have z2 : y2.size ≤ 9223372036854775807 := by rw [← hy2, ByteArray.size_extract]; omega
      rw [← l1, ← l2] at hr
      have HD := hid' HD0
      have HA0 := fun w => rall_any y1 z1 w
      have HB0 := fun w => rall_any y2 z2 w
      obtain ⟨v1, hv1⟩ : ∃ v, y1.toList.all isDig = v := ⟨_, rfl⟩
      obtain ⟨v2, hv2⟩ : ∃ v, y2.toList.all isDig = v := ⟨_, rfl⟩
      rw [hv1] at HA0 hr
      rw [hv2] at HB0 hr
      have HA := hid' HA0
      have HB := hid' HB0
      clear HD0 HA0 HB0 hpt hq l1 l2
      cases v1 with
      | false =>
        have HR := hid' (hr.trans (if_pos (.inl rfl)))
        clear hr hv1 hv2
        go_enter Try.func28, Try.ntmps28
        go_wp2_with fail
        refine (HF.out _).mono ?_
        rintro e w9 ⟨rfl, rfl⟩
        go_wp2_with fail
        refine (HD.out _).mono ?_
        rintro e w9 ⟨rfl, rfl⟩
        go_wp2_with fail
        go_quiet (fail)
        have X := (Chg.refl NoB w).drewN nq
        generalize w.drewN nq = w1 at *
        go_wp2_with fail
        refine (HA.out _).mono ?_
        rintro e w9 ⟨rfl, rfl⟩
        go_wp2_with fail
        go_ret3
        exact ⟨by rw [HR.out]; rfl, X⟩
      | true =>
      cases v2 with
      | false =>
        have HR := hid' (hr.trans (if_pos (.inr (.inl rfl))))
        clear hr hv1 hv2
        go_enter Try.func28, Try.ntmps28
        go_wp2_with fail
        refine (HF.out _).mono ?_
        rintro e w9 ⟨rfl, rfl⟩
        go_wp2_with fail
        refine (HD.out _).mono ?_
        rintro e w9 ⟨rfl, rfl⟩
        go_wp2_with fail
        go_quiet (fail)
        have X := (Chg.refl NoB w).drewN nq
        generalize w.drewN nq = w1 at *
        go_wp2_with fail
        refine (HA.out _).mono ?_
        rintro e w9 ⟨rfl, rfl⟩
        go_wp2_with fail
        refine (HB.out _).mono ?_
        rintro e w9 ⟨rfl, rfl⟩
        go_wp2_with fail
        go_ret3
        exact ⟨by rw [HR.out]; rfl, X⟩
      | true =>
      by_cases d3 : y.size < 2
      · have d3' : (y.size : Int) < 2 := by omega
        have HR := hid' (hr.trans (if_pos (.inr (.inr d3))))
        clear hr hv1 hv2
        go_enter Try.func28, Try.ntmps28
        go_wp2_with fail
        refine (HF.out _).mono ?_
        rintro e w9 ⟨rfl, rfl⟩
        go_wp2_with fail
        refine (HD.out _).mono ?_
        rintro e w9 ⟨rfl, rfl⟩
        go_wp2_with fail
        go_quiet (fail)
        have X := (Chg.refl NoB w).drewN nq
        generalize w.drewN nq = w1 at *
        go_wp2_with fail
        refine (HA.out _).mono ?_
        rintro e w9 ⟨rfl, rfl⟩
        go_wp2_with fail
        refine (HB.out _).mono ?_
        rintro e w9 ⟨rfl, rfl⟩
        go_wp2_with fail
        go_ret3
        exact ⟨by rw [HR.out]; rfl, X⟩
      have d3' : 2 ≤ (y.size : Int) := by omega
      have hr := hr.trans (if_neg (fun h => by rcases h with h | h | h; exact absurd h (by decide); exact absurd h (by decide); exact d3 h))
      have HP0 := fun w => rpointed_any y1 y2 z1 z2 hv1 hv2 w
      have hb := rpF_le y1.toList y2.toList hv1 hv2
      generalize rpF y1.toList y2.toList = P at *
      obtain ⟨pv, pe⟩ := P
      simp only at hb HP0 hr
      have HP := hid' HP0
      clear HP0 hv1 hv2
      by_cases d4 : pe = 0
      · subst d4
        have HR := hid' (hr.trans (if_neg (fun h => h rfl)))
        clear hr
        go_enter Try.func28, Try.ntmps28
        go_wp2_with fail
        refine (HF.out _).mono ?_
        rintro e w9 ⟨rfl, rfl⟩
        go_wp2_with fail
        refine (HD.out _).mono ?_
        rintro e w9 ⟨rfl, rfl⟩
        go_wp2_with fail
        go_quiet (fail)
        have X := (Chg.refl NoB w).drewN nq
        generalize w.drewN nq = w1 at *
        go_wp2_with fail
        refine (HA.out _).mono ?_
        rintro e w9 ⟨rfl, rfl⟩
        go_wp2_with fail
        refine (HB.out _).mono ?_
        rintro e w9 ⟨rfl, rfl⟩
        go_wp2_with fail
        refine (HP.out _).mono ?_
        rintro e w9 ⟨rfl, X9⟩
        go_wp2_with fail
        go_ret3
        exact ⟨by rw [HR.out]; rfl, X.trans X9⟩
      · have d4' : (pe != 0) = true := by simpa using d4
        have HR := hid' (hr.trans (if_pos d4))
        clear hr d4
        go_enter Try.func28, Try.ntmps28
        go_wp2_with fail
        refine (HF.out _).mono ?_
        rintro e w9 ⟨rfl, rfl⟩
        go_wp2_with fail
        refine (HD.out _).mono ?_
        rintro e w9 ⟨rfl, rfl⟩
        go_wp2_with fail
        go_quiet (fail)
        have X := (Chg.refl NoB w).drewN nq
        generalize w.drewN nq = w1 at *
        go_wp2_with fail
        refine (HA.out _).mono ?_
        rintro e w9 ⟨rfl, rfl⟩
        go_wp2_with fail
        refine (HB.out _).mono ?_
        rintro e w9 ⟨rfl, rfl⟩
        go_wp2_with fail
        refine (HP.out _).mono ?_
        rintro e w9 ⟨rfl, X9⟩
        go_wp2_with fail
        go_ret3
        exact ⟨by rw [HR.out]; rfl, X.trans X9⟩
    · rw [if_neg d0] at HD0 hr
      have HD := hid' HD0
      clear HD0 d0
      by_cases d1 : y.toList = []
      · have e1 : y.toList.isEmpty = true := by rw [d1]; rfl
        have HR := hid' (hr.trans (if_pos (.inl d1)))
        clear hr d1
        go_enter Try.func28, Try.ntmps28
        go_wp2_with fail
        refine (HF.out _).mono ?_
        rintro e w9 ⟨rfl, rfl⟩
        go_wp2_with fail
        refine (HD.out _).mono ?_
        rintro e w9 ⟨rfl, rfl⟩
        go_wp2_with fail
        go_ret3
        exact ⟨by rw [HR.out]; rfl, Chg.refl _ _⟩
      have e1 : y.toList.isEmpty = false := by cases h : y.toList with
        | nil => exact absurd h d1
        | cons => rfl
      have HA0 := fun w => rall_any y hy w
      obtain ⟨v1, hv1⟩ : ∃ v, y.toList.all isDig = v := ⟨_, rfl⟩
      rw [hv1] at HA0 hr
      have HA := hid' HA0
      clear HA0
      cases v1 with
      | false =>
        have HR := hid' (hr.trans (if_pos (.inr rfl)))
        clear hr d1 hv1
        go_enter Try.func28, Try.ntmps28
        go_wp2_with fail
        refine (HF.out _).mono ?_
        rintro e w9 ⟨rfl, rfl⟩
        go_wp2_with fail
        refine (HD.out _).mono ?_
        rintro e w9 ⟨rfl, rfl⟩
        go_wp2_with fail
        refine (HA.out _).mono ?_
        rintro e w9 ⟨rfl, rfl⟩
        go_wp2_with fail
        go_ret3
        exact ⟨by rw [HR.out]; rfl, Chg.refl _ _⟩
      | true =>
      have hr := hr.trans (if_neg (fun h => by rcases h with h | h; exact d1 h; exact absurd h (by decide)))
      have HV0 := fun w => radd_any y 10 (by omega) (by omega) (all_value _ hv1) hy w
      have hV := accR_le 10 (by omega) y.toList (all_value _ hv1) 0 (by omega) (by omega)
      generalize accR 10 0 y.toList = V at *
      have HV := hid' HV0
      clear HV0 hv1 d1
      by_cases d2 : 2147483647 < V
      · have HR := hid' (hr.trans (if_pos d2))
        clear hr
        go_enter Try.func28, Try.ntmps28
        go_wp2_with fail
        refine (HF.out _).mono ?_
        rintro e w9 ⟨rfl, rfl⟩
        go_wp2_with fail
        refine (HD.out _).mono ?_
        rintro e w9 ⟨rfl, rfl⟩
        go_wp2_with fail
        refine (HA.out _).mono ?_
        rintro e w9 ⟨rfl, rfl⟩
        go_wp2_with fail
        refine (HV.out _).mono ?_
        rintro e w9 ⟨rfl, rfl⟩
        go_wp2_with fail
        go_ret3
        exact ⟨by rw [HR.out]; rfl, Chg.refl _ _⟩
      · have d2' : V ≤ 2147483647 := by omega
        have HR := hid' (hr.trans (if_neg d2))
        clear hr
        go_enter Try.func28, Try.ntmps28
        go_wp2_with fail
        refine (HF.out _).mono ?_
        rintro e w9 ⟨rfl, rfl⟩
        go_wp2_with fail
        refine (HD.out _).mono ?_
        rintro e w9 ⟨rfl, rfl⟩
        go_wp2_with fail
        refine (HA.out _).mono ?_
        rintro e w9 ⟨rfl, rfl⟩
        go_wp2_with fail
        refine (HV.out _).mono ?_
        rintro e w9 ⟨rfl, rfl⟩
        go_wp2_with fail
        go_ret3
        exact ⟨by rw [HR.out]; rfl, Chg.refl _ _⟩
  have hr := hr.trans (if_neg (fun h => g43 (Option.some.inj h)))
  have e43 : ((s[0].toNat : Int) == 43) = false := hb48 43 g43
  by_cases g45 : s[0] = 45
  · have e45 : ((s[0].toNat : Int) == 45) = true := by rw [g45]; rfl
    obtain ⟨y, hyx⟩ : ∃ y, s.extract 1 s.size = y := ⟨_, rfl⟩
    have hr := hr.trans (if_pos (by rw [g45]))
    rw [← extE_lst s 1, hyx] at hr
    have hy : y.size ≤ 9223372036854775807 := by rw [← hyx, ByteArray.size_extract]; omega
    clear hh g43 g45 hb48
    unfold rrS at hr
    have HD0 := fun w => rfind_any y 46 hy w
    rw [e46] at HD0
    unfold findI at HD0
    rw [size_lst] at HD0 hr
    by_cases d0 : posL 46 y.toList < y.size
    · rw [if_pos d0] at HD0 hr
      have hpt : ∀ k : Nat, (k : Int).toNat = k := fun k => Int.toNat_natCast k
      obtain ⟨q, hq⟩ : ∃ q, posL 46 y.toList = q := ⟨_, rfl⟩
      rw [hq] at HD0 hr d0
      have q0 : (0 : Int) ≤ q := by omega
      have q1 : (q : Int) < y.size := by omega
      have q2 : (q : Int) + 1 ≤ y.size := by omega
      obtain ⟨y1, hy1⟩ : ∃ x0, y.extract 0 q = x0 := ⟨_, rfl⟩
      obtain ⟨y2, hy2⟩ : ∃ x0, y.extract (q + 1) y.size = x0 := ⟨_, rfl⟩
      have l1 : y1.toList = y.toList.take q := by rw [← hy1, ext0_lst]
      have l2 : y2.toList = y.toList.drop (q + 1) := by rw [← hy2, extE_lst]
      have z1 : y1.size ≤ 9223372036854775807 := by rw [← hy1, ByteArray.size_extract]; omega
      have z2 : y2.size ≤ 9223372036854775807 := by rw [← hy2, ByteArray.size_extract]; omega
      rw [← l1, ← l2] at hr
      have HD := hid' HD0
      have HA0 := fun w => rall_any y1 z1 w
      have HB0 := fun w => rall_any y2 z2 w
      obtain ⟨v1, hv1⟩ : ∃ v, y1.toList.all isDig = v := ⟨_, rfl⟩
      obtain ⟨v2, hv2⟩ : ∃ v, y2.toList.all isDig = v := ⟨_, rfl⟩
      rw [hv1] at HA0 hr
      rw [hv2] at HB0 hr
      have HA := hid' HA0
      have HB := hid' HB0
      clear HD0 HA0 HB0 hpt hq l1 l2
      cases v1 with
      | false =>
        have HR := hid' (hr.trans (if_pos (.inl rfl)))
        clear hr hv1 hv2
        go_enter Try.func28, Try.ntmps28
        go_wp2_with fail
        refine (HF.out _).mono ?_
        rintro e w9 ⟨rfl, rfl⟩
        go_wp2_with fail
        refine (HD.out _).mono ?_
        rintro e w9 ⟨rfl, rfl⟩
        go_wp2_with fail
        go_quiet (fail)
        have X := (Chg.refl NoB w).drewN nq
        generalize w.drewN nq = w1 at *
        go_wp2_with fail
        refine (HA.out _).mono ?_
        rintro e w9 ⟨rfl, rfl⟩
        go_wp2_with fail
        go_ret3
        exact ⟨by rw [HR.out]; rfl, X⟩
      | true =>
      cases v2 with
      | false =>
        have HR := hid' (hr.trans (if_pos (.inr (.inl rfl))))
        clear hr hv1 hv2
        go_enter Try.func28, Try.ntmps28
        go_wp2_with fail
        refine (HF.out _).mono ?_
        rintro e w9 ⟨rfl, rfl⟩
        go_wp2_with fail
        refine (HD.out _).mono ?_
        rintro e w9 ⟨rfl, rfl⟩
        go_wp2_with fail
        go_quiet (fail)
        have X := (Chg.refl NoB w).drewN nq
        generalize w.drewN nq = w1 at *
        go_wp2_with fail
        refine (HA.out _).mono ?_
        rintro e w9 ⟨rfl, rfl⟩
        go_wp2_with fail
        refine (HB.out _).mono ?_
        rintro e w9 ⟨rfl, rfl⟩
        go_wp2_with fail
        go_ret3
        exact ⟨by rw [HR.out]; rfl, X⟩
      | true =>
      by_cases d3 : y.size < 2
      · have d3' : (y.size : Int) < 2 := by omega
        have HR := hid' (hr.trans (if_pos (.inr (.inr d3))))
        clear hr hv1 hv2
        go_enter Try.func28, Try.ntmps28
        go_wp2_with fail
        refine (HF.out _).mono ?_
        rintro e w9 ⟨rfl, rfl⟩
        go_wp2_with fail
        refine (HD.out _).mono ?_
        rintro e w9 ⟨rfl, rfl⟩
        go_wp2_with fail
        go_quiet (fail)
        have X := (Chg.refl NoB w).drewN nq
        generalize w.drewN nq = w1 at *
        go_wp2_with fail
        refine (HA.out _).mono ?_
        rintro e w9 ⟨rfl, rfl⟩
        go_wp2_with fail
        refine (HB.out _).mono ?_
        rintro e w9 ⟨rfl, rfl⟩
        go_wp2_with fail
        go_ret3
        exact ⟨by rw [HR.out]; rfl, X⟩
      have d3' : 2 ≤ (y.size : Int) := by omega
      have hr := hr.trans (if_neg (fun h => by rcases h with h | h | h; exact absurd h (by decide); exact absurd h (by decide); exact d3 h))
      have HP0 := fun w => rpointed_any y1 y2 z1 z2 hv1 hv2 w
      have hb := rpF_le y1.toList y2.toList hv1 hv2
      generalize rpF y1.toList y2.toList = P at *
      obtain ⟨pv, pe⟩ := P
      simp only at hb HP0 hr
      have HP := hid' HP0
      clear HP0 hv1 hv2
      by_cases d4 : pe = 0
      · subst d4
        have HR := hid' (hr.trans (if_neg (fun h => h rfl)))
        clear hr
        go_enter Try.func28, Try.ntmps28
        go_wp2_with fail
        refine (HF.out _).mono ?_
        rintro e w9 ⟨rfl, rfl⟩
        go_wp2_with fail
        refine (HD.out _).mono ?_
        rintro e w9 ⟨rfl, rfl⟩
        go_wp2_with fail
        go_quiet (fail)
        have X := (Chg.refl NoB w).drewN nq
        generalize w.drewN nq = w1 at *
        go_wp2_with fail
        refine (HA.out _).mono ?_
        rintro e w9 ⟨rfl, rfl⟩
        go_wp2_with fail
        refine (HB.out _).mono ?_
        rintro e w9 ⟨rfl, rfl⟩
        go_wp2_with fail
        refine (HP.out _).mono ?_
        rintro e w9 ⟨rfl, X9⟩
        go_wp2_with fail
        go_ret3
        exact ⟨by rw [HR.out]; rfl, X.trans X9⟩
      · have d4' : (pe != 0) = true := by simpa using d4
        have HR := hid' (hr.trans (if_pos d4))
        clear hr d4
        go_enter Try.func28, Try.ntmps28
        go_wp2_with fail
        refine (HF.out _).mono ?_
        rintro e w9 ⟨rfl, rfl⟩
        go_wp2_with fail
        refine (HD.out _).mono ?_
        rintro e w9 ⟨rfl, rfl⟩
        go_wp2_with fail
        go_quiet (fail)
        have X := (Chg.refl NoB w).drewN nq
        generalize w.drewN nq = w1 at *
        go_wp2_with fail
        refine (HA.out _).mono ?_
        rintro e w9 ⟨rfl, rfl⟩
        go_wp2_with fail
        refine (HB.out _).mono ?_
        rintro e w9 ⟨rfl, rfl⟩
        go_wp2_with fail
        refine (HP.out _).mono ?_
        rintro e w9 ⟨rfl, X9⟩
        go_wp2_with fail
        go_ret3
        exact ⟨by rw [HR.out]; rfl, X.trans X9⟩
    · rw [if_neg d0] at HD0 hr
      have HD := hid' HD0
      clear HD0 d0
      by_cases d1 : y.toList = []
      · have e1 : y.toList.isEmpty = true := by rw [d1]; rfl
        have HR := hid' (hr.trans (if_pos (.inl d1)))
        clear hr d1
        go_enter Try.func28, Try.ntmps28
        go_wp2_with fail
        refine (HF.out _).mono ?_
        rintro e w9 ⟨rfl, rfl⟩
        go_wp2_with fail
        refine (HD.out _).mono ?_
        rintro e w9 ⟨rfl, rfl⟩
        go_wp2_with fail
        go_ret3
        exact ⟨by rw [HR.out]; rfl, Chg.refl _ _⟩
      have e1 : y.toList.isEmpty = false := by cases h : y.toList with
        | nil => exact absurd h d1
        | cons => rfl
      have HA0 := fun w => rall_any y hy w
      obtain ⟨v1, hv1⟩ : ∃ v, y.toList.all isDig = v := ⟨_, rfl⟩
      rw [hv1] at HA0 hr
      have HA := hid' HA0
      clear HA0
      cases v1 with
      | false =>
        have HR := hid' (hr.trans (if_pos (.inr rfl)))
        clear hr d1 hv1
        go_enter Try.func28, Try.ntmps28
        go_wp2_with fail
        refine (HF.out _).mono ?_
        rintro e w9 ⟨rfl, rfl⟩
        go_wp2_with fail
        refine (HD.out _).mono ?_
        rintro e w9 ⟨rfl, rfl⟩
        go_wp2_with fail
        refine (HA.out _).mono ?_
        rintro e w9 ⟨rfl, rfl⟩
        go_wp2_with fail
        go_ret3
        exact ⟨by rw [HR.out]; rfl, Chg.refl _ _⟩
      | true =>
      have hr := hr.trans (if_neg (fun h => by rcases h with h | h; exact d1 h; exact absurd h (by decide)))
      have HV0 := fun w => radd_any y 10 (by omega) (by omega) (all_value _ hv1) hy w
      have hV := accR_le 10 (by omega) y.toList (all_value _ hv1) 0 (by omega) (by omega)
      generalize accR 10 0 y.toList = V at *
      have HV := hid' HV0
      clear HV0 hv1 d1
      by_cases d2 : 2147483647 < V
      · have HR := hid' (hr.trans (if_pos d2))
        clear hr
        go_enter Try.func28, Try.ntmps28
        go_wp2_with fail
        refine (HF.out _).mono ?_
        rintro e w9 ⟨rfl, rfl⟩
        go_wp2_with fail
        refine (HD.out _).mono ?_
        rintro e w9 ⟨rfl, rfl⟩
        go_wp2_with fail
        refine (HA.out _).mono ?_
        rintro e w9 ⟨rfl, rfl⟩
        go_wp2_with fail
        refine (HV.out _).mono ?_
        rintro e w9 ⟨rfl, rfl⟩
        go_wp2_with fail
        go_ret3
        exact ⟨by rw [HR.out]; rfl, Chg.refl _ _⟩
      · have d2' : V ≤ 2147483647 := by omega
        have HR := hid' (hr.trans (if_neg d2))
        clear hr
        go_enter Try.func28, Try.ntmps28
        go_wp2_with fail
        refine (HF.out _).mono ?_
        rintro e w9 ⟨rfl, rfl⟩
        go_wp2_with fail
        refine (HD.out _).mono ?_
        rintro e w9 ⟨rfl, rfl⟩
        go_wp2_with fail
        refine (HA.out _).mono ?_
        rintro e w9 ⟨rfl, rfl⟩
        go_wp2_with fail
        refine (HV.out _).mono ?_
        rintro e w9 ⟨rfl, rfl⟩
        go_wp2_with fail
        go_ret3
        exact ⟨by rw [HR.out]; rfl, Chg.refl _ _⟩
  have hr := hr.trans (if_neg (fun h => g45 (Option.some.inj h)))
  have e45 : ((s[0].toNat : Int) == 45) = false := hb48 45 g45
  have hy : s.size ≤ 9223372036854775807 := hs
  clear hh g43 g45 hb48
  unfold rrS at hr
  have HD0 := fun w => rfind_any s 46 hy w
  rw [e46] at HD0
  unfold findI at HD0
  rw [size_lst] at HD0 hr
  by_cases d0 : posL 46 s.toList < s.size
  · rw [if_pos d0] at HD0 hr
    have hpt : ∀ k : Nat, (k : Int).toNat = k := fun k => Int.toNat_natCast k
    obtain ⟨q, hq⟩ : ∃ q, posL 46 s.toList = q := ⟨_, rfl⟩
    rw [hq] at HD0 hr d0
    have q0 : (0 : Int) ≤ q := by omega
    have q1 : (q : Int) < s.size := by omega
    have q2 : (q : Int) + 1 ≤ s.size := by omega
    obtain ⟨y1, hy1⟩ : ∃ x0, s.extract 0 q = x0 := ⟨_, rfl⟩
    obtain ⟨y2, hy2⟩ : ∃ x0, s.extract (q + 1) s.size = x0 := ⟨_, rfl⟩
    have l1 : y1.toList = s.toList.take q := by rw [← hy1, ext0_lst]
    have l2 : y2.toList = s.toList.drop (q + 1) := by rw [← hy2, extE_lst]
    have z1 : y1.size ≤ 9223372036854775807 := by rw [← hy1, ByteArray.size_extract]; omega
    have z2 : y2.size ≤ 9223372036854775807 := by rw [← hy2, ByteArray.size_extract]; omega
    rw [← l1, ← l2] at hr
    have HD := hid' HD0
    have HA0 := fun w => rall_any y1 z1 w
    have HB0 := fun w => rall_any y2 z2 w
    obtain ⟨v1, hv1⟩ : ∃ v, y1.toList.all isDig = v := ⟨_, rfl⟩
    obtain ⟨v2, hv2⟩ : ∃ v, y2.toList.all isDig = v := ⟨_, rfl⟩
    rw [hv1] at HA0 hr
    rw [hv2] at HB0 hr
    have HA := hid' HA0
    have HB := hid' HB0
    clear HD0 HA0 HB0 hpt hq l1 l2
    cases v1 with
    | false =>
      have HR := hid' (hr.trans (if_pos (.inl rfl)))
      clear hr hv1 hv2
      go_enter Try.func28, Try.ntmps28
      go_wp2_with fail
      refine (HF.out _).mono ?_
      rintro e w9 ⟨rfl, rfl⟩
      go_wp2_with fail
      refine (HD.out _).mono ?_
      rintro e w9 ⟨rfl, rfl⟩
      go_wp2_with fail
      go_quiet (fail)
      have X := (Chg.refl NoB w).drewN nq
      generalize w.drewN nq = w1 at *
      go_wp2_with fail
      refine (HA.out _).mono ?_
      rintro e w9 ⟨rfl, rfl⟩
      go_wp2_with fail
      go_ret3
      exact ⟨by rw [HR.out]; rfl, X⟩
    | true =>
    cases v2 with
    | false =>
      have HR := hid' (hr.trans (if_pos (.inr (.inl rfl))))
      clear hr hv1 hv2
      go_enter Try.func28, Try.ntmps28
      go_wp2_with fail
      refine (HF.out _).mono ?_
      rintro e w9 ⟨rfl, rfl⟩
      go_wp2_with fail
      refine (HD.out _).mono ?_
      rintro e w9 ⟨rfl, rfl⟩
      go_wp2_with fail
      go_quiet (fail)
      have X := (Chg.refl NoB w).drewN nq
      generalize w.drewN nq = w1 at *
      go_wp2_with fail
      refine (HA.out _).mono ?_
      rintro e w9 ⟨rfl, rfl⟩
      go_wp2_with fail
      refine (HB.out _).mono ?_
      rintro e w9 ⟨rfl, rfl⟩
      go_wp2_with fail
      go_ret3
      exact ⟨by rw [HR.out]; rfl, X⟩
    | true =>
    by_cases d3 : s.size < 2
    · have d3' : (s.size : Int) < 2 := by omega
      have HR := hid' (hr.trans (if_pos (.inr (.inr d3))))
      clear hr hv1 hv2
      go_enter Try.func28, Try.ntmps28
      go_wp2_with fail
      refine (HF.out _).mono ?_
      rintro e w9 ⟨rfl, rfl⟩
      go_wp2_with fail
      refine (HD.out _).mono ?_
      rintro e w9 ⟨rfl, rfl⟩
      go_wp2_with fail
      go_quiet (fail)
      have X := (Chg.refl NoB w).drewN nq
      generalize w.drewN nq = w1 at *
      go_wp2_with fail
      refine (HA.out _).mono ?_
      rintro e w9 ⟨rfl, rfl⟩
      go_wp2_with fail
      refine (HB.out _).mono ?_
      rintro e w9 ⟨rfl, rfl⟩
      go_wp2_with fail
      go_ret3
      exact ⟨by rw [HR.out]; rfl, X⟩
    have d3' : 2 ≤ (s.size : Int) := by omega
    have hr := hr.trans (if_neg (fun h => by rcases h with h | h | h; exact absurd h (by decide); exact absurd h (by decide); exact d3 h))
    have HP0 := fun w => rpointed_any y1 y2 z1 z2 hv1 hv2 w
    have hb := rpF_le y1.toList y2.toList hv1 hv2
    generalize rpF y1.toList y2.toList = P at *
    obtain ⟨pv, pe⟩ := P
    simp only at hb HP0 hr
    have HP := hid' HP0
    clear HP0 hv1 hv2
    by_cases d4 : pe = 0
    · subst d4
      have HR := hid' (hr.trans (if_neg (fun h => h rfl)))
      clear hr
      go_enter Try.func28, Try.ntmps28
      go_wp2_with fail
      refine (HF.out _).mono ?_
      rintro e w9 ⟨rfl, rfl⟩
      go_wp2_with fail
      refine (HD.out _).mono ?_
      rintro e w9 ⟨rfl, rfl⟩
      go_wp2_with fail
      go_quiet (fail)
      have X := (Chg.refl NoB w).drewN nq
      generalize w.drewN nq = w1 at *
      go_wp2_with fail
      refine (HA.out _).mono ?_
      rintro e w9 ⟨rfl, rfl⟩
      go_wp2_with fail
      refine (HB.out _).mono ?_
      rintro e w9 ⟨rfl, rfl⟩
      go_wp2_with fail
      refine (HP.out _).mono ?_
      rintro e w9 ⟨rfl, X9⟩
      go_wp2_with fail
      go_ret3
      exact ⟨by rw [HR.out]; rfl, X.trans X9⟩
    · have d4' : (pe != 0) = true := by simpa using d4
      have HR := hid' (hr.trans (if_pos d4))
      clear hr d4
      go_enter Try.func28, Try.ntmps28
      go_wp2_with fail
      refine (HF.out _).mono ?_
      rintro e w9 ⟨rfl, rfl⟩
      go_wp2_with fail
      refine (HD.out _).mono ?_
      rintro e w9 ⟨rfl, rfl⟩
      go_wp2_with fail
      go_quiet (fail)
      have X := (Chg.refl NoB w).drewN nq
      generalize w.drewN nq = w1 at *
      go_wp2_with fail
      refine (HA.out _).mono ?_
      rintro e w9 ⟨rfl, rfl⟩
      go_wp2_with fail
      refine (HB.out _).mono ?_
      rintro e w9 ⟨rfl, rfl⟩
      go_wp2_with fail
      refine (HP.out _).mono ?_
      rintro e w9 ⟨rfl, X9⟩
      go_wp2_with fail
      go_ret3
      exact ⟨by rw [HR.out]; rfl, X.trans X9⟩
  · rw [if_neg d0] at HD0 hr
    have HD := hid' HD0
    clear HD0 d0
    by_cases d1 : s.toList = []
    · rw [d1] at hx; exact absurd hx (by decide)
    have e1 : s.toList.isEmpty = false := by cases h : s.toList with
      | nil => exact absurd h d1
      | cons => rfl
    have HA0 := fun w => rall_any s hy w
    obtain ⟨v1, hv1⟩ : ∃ v, s.toList.all isDig = v := ⟨_, rfl⟩
    rw [hv1] at HA0 hr
    have HA := hid' HA0
    clear HA0
    cases v1 with
    | false =>
      have HR := hid' (hr.trans (if_pos (.inr rfl)))
      clear hr d1 hv1
      go_enter Try.func28, Try.ntmps28
      go_wp2_with fail
      refine (HF.out _).mono ?_
      rintro e w9 ⟨rfl, rfl⟩
      go_wp2_with fail
      refine (HD.out _).mono ?_
      rintro e w9 ⟨rfl, rfl⟩
      go_wp2_with fail
      refine (HA.out _).mono ?_
      rintro e w9 ⟨rfl, rfl⟩
      go_wp2_with fail
      go_ret3
      exact ⟨by rw [HR.out]; rfl, Chg.refl _ _⟩
    | true =>
    have hr := hr.trans (if_neg (fun h => by rcases h with h | h; exact d1 h; exact absurd h (by decide)))
    have HV0 := fun w => radd_any s 10 (by omega) (by omega) (all_value _ hv1) hy w
    have hV := accR_le 10 (by omega) s.toList (all_value _ hv1) 0 (by omega) (by omega)
    generalize accR 10 0 s.toList = V at *
    have HV := hid' HV0
    clear HV0 hv1 d1
    by_cases d2 : 2147483647 < V
    · have HR := hid' (hr.trans (if_pos d2))
      clear hr
      go_enter Try.func28, Try.ntmps28
      go_wp2_with fail
      refine (HF.out _).mono ?_
      rintro e w9 ⟨rfl, rfl⟩
      go_wp2_with fail
      refine (HD.out _).mono ?_
      rintro e w9 ⟨rfl, rfl⟩
      go_wp2_with fail
      refine (HA.out _).mono ?_
      rintro e w9 ⟨rfl, rfl⟩
      go_wp2_with fail
      refine (HV.out _).mono ?_
      rintro e w9 ⟨rfl, rfl⟩
      go_wp2_with fail
      go_ret3
      exact ⟨by rw [HR.out]; rfl, Chg.refl _ _⟩
    · have d2' : V ≤ 2147483647 := by omega
      have HR := hid' (hr.trans (if_neg d2))
      clear hr
      go_enter Try.func28, Try.ntmps28
      go_wp2_with fail
      refine (HF.out _).mono ?_
      rintro e w9 ⟨rfl, rfl⟩
      go_wp2_with fail
      refine (HD.out _).mono ?_
      rintro e w9 ⟨rfl, rfl⟩
      go_wp2_with fail
      refine (HA.out _).mono ?_
      rintro e w9 ⟨rfl, rfl⟩
      go_wp2_with fail
      refine (HV.out _).mono ?_
      rintro e w9 ⟨rfl, rfl⟩
      go_wp2_with fail
      go_ret3
      exact ⟨by rw [HR.out]; rfl, Chg.refl _ _⟩
end Go.Proofs.Ytgahapnjlngebaa
/- Plain: a number read by layer 6's reference is the number read by the program. -/
namespace Go.Proofs.Ytgahapnjlngebaa
open Go.RowKit

theorem posL_split (c : UInt8) : ∀ l : List UInt8, posL c l < l.length → l = l.take (posL c l) ++ c :: l.drop (posL c l + 1) ∧ c ∉ l.take (posL c l) ∧ l[posL c l]? = some c
  | [], h => by simp [posL] at h
  | x :: l, h => by
    rw [posL_cons] at h ⊢
    by_cases e : x = c
    · subst e
      simp
    · rw [if_neg e] at h ⊢
      have h' : posL c l < l.length := by simpa using h
      obtain ⟨h1, h2, h3⟩ := posL_split c l h'
      refine ⟨?_, ?_, by simpa using h3⟩
      · conv => lhs; rw [h1]
        simp
      · simp only [List.take_succ_cons, List.mem_cons, not_or]
        exact ⟨fun h => e h.symm, h2⟩
theorem posL_none (c : UInt8) : ∀ l : List UInt8, ¬ posL c l < l.length → c ∉ l
  | [], _ => by simp
  | x :: l, h => by
    rw [posL_cons] at h
    by_cases e : x = c
    · rw [if_pos e] at h; simp at h
    · rw [if_neg e] at h
      have h' : ¬ posL c l < l.length := by simpa using h
      simp only [List.mem_cons, not_or]
      exact ⟨fun h => e h.symm, posL_none c l h'⟩
theorem dig_cat (c : UInt8) (d : List UInt8) (hc : isDig c = false) : ∀ h : List UInt8, (h.all isDig = true → digL (h ++ c :: d) = h) ∧ (h.all isDig = false → ∃ x, x ∈ h ∧ isDig x = false ∧ (digL (h ++ c :: d)).length < h.length ∧ (h ++ c :: d)[(digL (h ++ c :: d)).length]? = some x)
  | [] => ⟨fun _ => by simp [digL, List.takeWhile_cons, hc], fun h => by simp at h⟩
  | y :: h => by
    obtain ⟨i1, i2⟩ := dig_cat c d hc h
    cases hy : isDig y with
    | true =>
      have e : digL (y :: h ++ c :: d) = y :: digL (h ++ c :: d) := by simp [digL, List.takeWhile_cons, hy]
      rw [e]
      refine ⟨fun ha => ?_, fun ha => ?_⟩
      · rw [i1 (by simpa [hy] using ha)]
      · obtain ⟨x, h1, h0, h2, h3⟩ := i2 (by simpa [hy] using ha)
        exact ⟨x, by simp [h1], h0, by simp; exact h2, by simpa using h3⟩
    | false =>
      have e : digL (y :: h ++ c :: d) = [] := by simp [digL, List.takeWhile_cons, hy]
      rw [e]
      refine ⟨fun ha => ?_, fun _ => ⟨y, by simp, hy, by simp, by simp⟩⟩
      simp [hy] at ha
theorem dig_all : ∀ d : List UInt8, (d.all isDig = true → digL d = d) ∧ (d.all isDig = false → ∃ x, x ∈ d ∧ isDig x = false ∧ (digL d).length < d.length ∧ d[(digL d).length]? = some x)
  | [] => ⟨fun _ => rfl, fun h => by simp at h⟩
  | y :: h => by
    obtain ⟨i1, i2⟩ := dig_all h
    cases hy : isDig y with
    | true =>
      have e : digL (y :: h) = y :: digL h := by simp [digL, List.takeWhile_cons, hy]
      rw [e]
      refine ⟨fun ha => ?_, fun ha => ?_⟩
      · rw [i1 (by simpa [hy] using ha)]
      · obtain ⟨x, h1, h0, h2, h3⟩ := i2 (by simpa [hy] using ha)
        exact ⟨x, by simp [h1], h0, by simp; exact h2, by simpa using h3⟩
    | false =>
      have e : digL (y :: h) = [] := by simp [digL, List.takeWhile_cons, hy]
      rw [e]
      refine ⟨fun ha => ?_, fun _ => ⟨y, by simp, hy, by simp, by simp⟩⟩
      simp [hy] at ha
theorem accD_R (most : Int) (h0 : 0 ≤ most) (h1 : most ≤ 1099511627776) : ∀ (l : List UInt8) (_ : l.all isDig = true) (v x : Int), 0 ≤ x → v = (if most < x then most else x) → accD most v l = if most < accR 10 x l then most else accR 10 x l
  | [], _, v, x, _, hv => hv
  | c :: l, hl, v, x, hx, hv => by
    rw [List.all_cons, Bool.and_eq_true] at hl
    obtain ⟨e, q0⟩ := dig_value c hl.1
    rw [accD_cons, accR_cons, ← e]
    generalize valueI (c.toNat : Int) = q at *
    refine accD_R most h0 h1 l hl.2 _ _ (by split <;> omega) ?_
    subst hv
    repeat' split
    all_goals omega
theorem accR_bd : ∀ (l : List UInt8) (_ : l.all isDig = true) (x : Int), 0 ≤ x → accR 10 x l + 1 ≤ (x + 1) * 10 ^ l.length
  | [], _, x, _ => by simp [accR]
  | c :: l, hl, x, hx => by
    rw [List.all_cons, Bool.and_eq_true] at hl
    obtain ⟨e, q0⟩ := dig_value c hl.1
    have q9 : valueI (c.toNat : Int) ≤ 9 := by
      have := hl.1
      simp only [isDig, Bool.and_eq_true, decide_eq_true_eq] at this
      omega
    rw [accR_cons]
    generalize valueI (c.toNat : Int) = q at *
    have ih := accR_bd l hl.2 (if 1099511627776 < x * 10 + q then 1099511627776 else x * 10 + q) (by split <;> omega)
    refine Int.le_trans ih ?_
    have hp : (0 : Int) ≤ 10 ^ l.length := Int.le_of_lt (Int.pow_pos (by decide))
    have hm : (if 1099511627776 < x * 10 + q then 1099511627776 else x * 10 + q) + 1 ≤ (x + 1) * 10 := by split <;> omega
    refine Int.le_trans (Int.mul_le_mul_of_nonneg_right hm hp) ?_
    rw [List.length_cons, Int.pow_succ, Int.mul_assoc, Int.mul_comm 10 (10 ^ l.length)]
    exact Int.le_refl _
theorem accB_R (b : Int) (hb : 1 ≤ b) : ∀ (d : List UInt8) (v x : Int), 0 ≤ x → v = (if 2147483648 < x then 2147483648 else x) →
    (d.all (digB b) = false → accB b v d = none) ∧ (d.all (digB b) = true → accB b v d = some (if 2147483648 < accR b x d then 2147483648 else accR b x d))
  | [], v, x, _, hv => ⟨fun h => by simp at h, fun _ => by rw [hv]; rfl⟩
  | c :: d, v, x, hx, hv => by
    rw [List.all_cons, accB]
    cases hc : digB b c with
    | false =>
      refine ⟨fun _ => if_pos ?_, fun h => by simp at h⟩
      simp only [digB] at hc
      by_cases h1 : 0 ≤ valueI (c.toNat : Int)
      · right
        simp [h1] at hc
        exact hc
      · left; omega
    | true =>
      rw [Bool.true_and]
      simp only [digB, Bool.and_eq_true, decide_eq_true_eq] at hc
      rw [if_neg (by omega), accR_cons]
      generalize valueI (c.toNat : Int) = q at *
      have m1 : x * 1 ≤ x * b := Int.mul_le_mul_of_nonneg_left hb hx
      refine accB_R b hb d _ _ ?_ ?_
      · have : 0 ≤ x * b := Int.mul_nonneg hx (by omega)
        split <;> omega
      · have m2 : (2147483648 : Int) * 1 ≤ 2147483648 * b := Int.mul_le_mul_of_nonneg_left hb (by decide)
        by_cases hxm : 2147483648 < x
        · rw [if_pos hxm] at hv
          subst hv
          repeat' split
          all_goals omega
        · rw [if_neg hxm] at hv
          subst hv
          repeat' split
          all_goals omega
theorem drop_tw (p : UInt8 → Bool) : ∀ l : List UInt8, l.dropWhile p = l.drop (l.takeWhile p).length
  | [] => rfl
  | c :: l => by
    rw [List.dropWhile_cons, List.takeWhile_cons]
    cases h : p c with
    | true => simp [drop_tw p l]
    | false => simp
theorem readS_sharp (l : List UInt8) (k : Nat) (below : Bool) (h : 35 ∈ l.drop k) : readS l k below = (0, 0, 3) := by
  have hlen : k < l.length := by
    apply Classical.byContradiction
    intro e
    rw [List.drop_eq_nil_of_le (by omega)] at h
    simp at h
  have hd : (l.drop k).all isDig = false := by
    rw [List.all_eq_false]
    exact ⟨35, h, by decide⟩
  obtain ⟨x, hx, h0, h1, h2⟩ := (dig_all (l.drop k)).2 hd
  have hl : (l.drop k).length = l.length - k := List.length_drop
  unfold readS
  rw [if_neg (fun e => by omega)]
  rw [List.getElem?_drop] at h2
  by_cases hx46 : x = 46
  · subst hx46
    rw [if_neg (fun e => by
      rcases e with e | e
      · omega
      · exact e h2)]
    refine if_pos (.inl fun e => ?_)
    have h3 : (l.drop (k + (digL (l.drop k)).length + 1)).all isDig = false := by
      rw [List.all_eq_false]
      refine ⟨35, ?_, by decide⟩
      have hs : l.drop k = digL (l.drop k) ++ (l.drop k).drop (digL (l.drop k)).length := by
        have := List.takeWhile_append_dropWhile (p := isDig) (l := l.drop k)
        rw [drop_tw] at this
        exact this.symm
      rw [hs, List.mem_append] at h
      rcases h with h | h
      · have := List.all_eq_true.1 (List.all_takeWhile (p := isDig) (l := l.drop k)) 35 h
        exact absurd this (by decide)
      · rw [List.drop_drop, List.drop_eq_getElem_cons (by omega)] at h
        rcases List.mem_cons.1 h with h | h
        · rw [List.getElem?_eq_getElem (by omega)] at h2
          have := Option.some.inj h2
          rw [← h] at this
          exact absurd this (by decide)
        · exact h
    obtain ⟨y, -, -, h4, -⟩ := (dig_all _).2 h3
    have : (l.drop (k + (digL (l.drop k)).length + 1)).length = l.length - (k + (digL (l.drop k)).length + 1) := List.length_drop
    omega
  · refine if_pos (.inr fun e => ?_)
    rw [e] at h2
    exact hx46 (Option.some.inj h2).symm
/-- To a base. -/
theorem rbF_read (l : List UInt8) (h : posL 35 l < l.length) : rbF (l.take (posL 35 l)) (l.drop (posL 35 l + 1)) = readF l := by
  obtain ⟨h1, h2, h3⟩ := posL_split 35 l h
  have hn : basedF l = none → readF l = (0, 0, 3) := fun e => by
    unfold readF
    rw [e]
    simp only
    have hm : 35 ∈ l := by rw [h1]; simp
    cases l with
    | nil => simp at hm
    | cons c l =>
      by_cases c1 : c = 43
      · rw [if_pos (by simp [c1])]
        exact readS_sharp _ _ _ (by subst c1; simpa using hm)
      · rw [if_neg (by simp [c1])]
        by_cases c2 : c = 45
        · rw [if_pos (by simp [c2])]
          exact readS_sharp _ _ _ (by subst c2; simpa using hm)
        · rw [if_neg (by simp [c2])]
          exact readS_sharp _ _ _ hm
  have hhl : (l.take (posL 35 l)).length = posL 35 l := by rw [List.length_take]; omega
  have hdl : (l.drop (posL 35 l + 1)).length = l.length - (posL 35 l + 1) := List.length_drop
  have hhead : 0 < posL 35 l → (l.take (posL 35 l)).head? = l.head? := fun hp => by
    rw [List.head?_take, if_neg (by omega)]
  generalize posL 35 l = p at *
  obtain ⟨a1, a2⟩ := dig_cat 35 (l.drop (p + 1)) (by decide) (l.take p)
  rw [← h1] at a1 a2
  unfold rbF
  by_cases ha : (l.take p).all isDig = false
  · rw [if_pos (.inr (.inr (.inl ha)))]
    refine (hn ?_).symm
    obtain ⟨x, hx, -, h5, h6⟩ := a2 ha
    unfold basedF
    refine if_pos (.inr (.inr (.inr (.inr (.inr (.inr fun e => ?_))))))
    rw [e] at h6
    exact h2 ((Option.some.inj h6) ▸ hx)
  have ha' : (l.take p).all isDig = true := by simpa using ha
  have hdg := a1 ha'
  rw [hhl]
  by_cases c0 : p < 1 ∨ 2 < p ∨ (l.take p).head? = some 48 ∨ l.drop (p + 1) = []
  · rw [if_pos (by rcases c0 with c | c | c | c; exact .inl c; exact .inr (.inl c); exact .inr (.inr (.inr (.inl c))); exact .inr (.inr (.inr (.inr c))))]
    refine (hn ?_).symm
    unfold basedF
    refine if_pos ?_
    rw [hdg, hhl]
    rcases c0 with c | c | c | c
    · exact .inl c
    · exact .inr (.inl c)
    · by_cases hp : 0 < p
      · exact .inr (.inr (.inl (by rw [← hhead hp]; exact c)))
      · exact .inl (by omega)
    · have : (l.drop (p + 1)).length = 0 := by rw [c]; rfl
      exact .inr (.inr (.inr (.inr (.inr (.inl (by omega))))))
  simp only [not_or] at c0
  obtain ⟨c1, c2, c3, c4⟩ := c0
  rw [if_neg (fun e => by rcases e with e | e | e | e | e; exact c1 e; exact c2 e; exact ha e; exact c3 e; exact c4 e)]
  have hbd := accR_bd (l.take p) ha' 0 (by omega)
  rw [hhl] at hbd
  have hp2 : (10 : Int) ^ p ≤ 100 := by
    obtain rfl | rfl : p = 1 ∨ p = 2 := by omega
    · decide
    · decide
  have hD : accD 1000 0 (l.take p) = accR 10 0 (l.take p) := by
    rw [accD_R 1000 (by omega) (by omega) (l.take p) ha' 0 0 (by omega) (by simp), if_neg (by omega)]
  have hne : (l.drop (p + 1)).length ≠ 0 := fun e => c4 (List.eq_nil_of_length_eq_zero e)
  have hbase : basedF l = if accR 10 0 (l.take p) < 2 ∨ 36 < accR 10 0 (l.take p) then none else accB (accR 10 0 (l.take p)) 0 (l.drop (p + 1)) := by
    unfold basedF
    rw [hdg, hhl, hD]
    by_cases c5 : accR 10 0 (l.take p) < 2 ∨ 36 < accR 10 0 (l.take p)
    · rw [if_pos c5, if_pos (by rcases c5 with c | c; exact .inr (.inr (.inr (.inl c))); exact .inr (.inr (.inr (.inr (.inl c)))))]
    · rw [if_neg c5, if_neg]
      intro e
      rcases e with e | e | e | e | e | e | e
      · exact c1 e
      · exact c2 e
      · exact c3 (by rw [hhead (by omega)]; exact e)
      · exact c5 (.inl e)
      · exact c5 (.inr e)
      · omega
      · exact e h3
  generalize accR 10 0 (l.take p) = B at *
  by_cases c5 : B < 2 ∨ 36 < B
  · rw [if_pos c5] at hbase ⊢
    exact (hn hbase).symm
  rw [if_neg c5] at hbase ⊢
  obtain ⟨b1, b2⟩ := accB_R B (by omega) (l.drop (p + 1)) 0 0 (by omega) (by simp)
  by_cases c6 : (l.drop (p + 1)).all (digB B) = false
  · rw [if_pos c6]
    rw [b1 c6] at hbase
    exact (hn hbase).symm
  rw [if_neg c6]
  rw [b2 (by simpa using c6)] at hbase
  unfold readF
  rw [hbase]
  generalize accR B 0 (l.drop (p + 1)) = V at *
  simp only
  by_cases c7 : 2147483647 < V
  · rw [if_pos c7, if_pos (by split <;> omega)]
  · rw [if_neg c7, if_neg (by split <;> omega), if_neg (by omega)]
/-- Not to a base: what is behind the sign. -/
theorem rrS_read (l : List UInt8) (k : Nat) (hk : k ≤ l.length) (below : Bool) : rrS (l.drop k) below = readS l k below := by
  have hlen : (l.drop k).length = l.length - k := List.length_drop
  have hget : ∀ i, (l.drop k)[i]? = l[k + i]? := fun i => List.getElem?_drop
  have hdd : ∀ i, (l.drop k).drop i = l.drop (k + i) := fun i => List.drop_drop
  obtain ⟨L, hL⟩ : ∃ L, rrS (l.drop k) below = L := ⟨_, rfl⟩
  rw [hL]
  have hl := hL.symm
  clear hL
  unfold rrS at hl
  by_cases c0 : posL 46 (l.drop k) < (l.drop k).length
  · obtain ⟨h1, h2, h3⟩ := posL_split 46 (l.drop k) c0
    rw [if_pos c0] at hl
    have hwl : ((l.drop k).take (posL 46 (l.drop k))).length = posL 46 (l.drop k) := by rw [List.length_take]; omega
    generalize posL 46 (l.drop k) = p at *
    obtain ⟨a1, a2⟩ := dig_cat 46 ((l.drop k).drop (p + 1)) (by decide) ((l.drop k).take p)
    rw [← h1] at a1 a2
    cases hw : ((l.drop k).take p).all isDig with
    | false =>
      obtain ⟨x, hx, -, h5, h6⟩ := a2 hw
      rw [hl, if_pos (.inl hw)]
      rw [hget] at h6
      symm
      unfold readS
      rw [if_neg (fun e => by omega), if_pos (.inr fun e => by rw [e] at h6; exact h2 ((Option.some.inj h6) ▸ hx))]
    | true =>
      have hdg := a1 hw
      rw [hget] at h3
      have hdl : (l.drop (k + p + 1)).length = l.length - (k + p + 1) := List.length_drop
      have hpe : (l.drop k).drop (p + 1) = l.drop (k + p + 1) := by rw [hdd]; rfl
      rw [hpe, hw] at hl
      have hS : readS l k below = if k + p + 1 + (digL (l.drop (k + p + 1))).length ≠ l.length ∨ p + (digL (l.drop (k + p + 1))).length = 0 then (0, 0, 3)
          else if 12 < (digL (l.drop (k + p + 1))).length ∨ 16383 < accD 2147483648 0 ((l.drop k).take p) then (0, 0, 2)
          else if 1073741823 < accD 2147483648 0 ((l.drop k).take p) * 65536 + nearI (accD 1000000000000 0 (digL (l.drop (k + p + 1))) * 65536) (10 ^ (digL (l.drop (k + p + 1))).length) then (0, 0, 2)
          else (2, sgnI below (accD 2147483648 0 ((l.drop k).take p) * 65536 + nearI (accD 1000000000000 0 (digL (l.drop (k + p + 1))) * 65536) (10 ^ (digL (l.drop (k + p + 1))).length)), 0) := by
        unfold readS
        rw [hdg, hwl, if_neg (fun e => by omega), if_neg (fun e => by rcases e with e | e; omega; exact e h3)]
      rw [hS]
      clear hS
      obtain ⟨b1, b2⟩ := dig_all (l.drop (k + p + 1))
      cases hp : (l.drop (k + p + 1)).all isDig with
      | false =>
        obtain ⟨x, -, -, h5, -⟩ := b2 hp
        rw [hl, if_pos (.inr (.inl hp))]
        symm
        exact if_pos (.inl (by omega))
      | true =>
        rw [b1 hp]
        rw [hp] at hl
        have hD := accD_R 2147483648 (by omega) (by omega) _ hw 0 0 (by omega) (by simp)
        have n1 := accR_le 10 (by omega) _ (all_value _ hw) 0 (by omega) (by omega)
        have n2 := accR_le 10 (by omega) _ (all_value _ hp) 0 (by omega) (by omega)
        have hpb := accR_bd _ hp 0 (by omega)
        unfold rpF at hl
        generalize l.drop (k + p + 1) = pt at *
        generalize (l.drop k).take p = wh at *
        by_cases d3 : (l.drop k).length < 2
        · rw [hl, if_pos (.inr (.inr d3))]
          symm
          exact if_pos (.inr (by omega))
        rw [if_neg (fun e => by rcases e with e | e | e; exact absurd e (by decide); exact absurd e (by decide); exact d3 e)] at hl
        rw [if_neg (fun e => by rcases e with e | e; omega; omega)]
        by_cases d4 : 12 < pt.length
        · simp only [if_pos d4] at hl
          rw [hl, if_pos (by decide)]
          symm
          exact if_pos (.inl d4)
        · simp only [if_neg d4] at hl
          have hT : accD 1000000000000 0 pt = accR 10 0 pt := by
            have hle : (10 : Int) ^ pt.length ≤ 1000000000000 := by
              have : (10 : Nat) ^ pt.length ≤ 10 ^ 12 := Nat.pow_le_pow_right (by decide) (by omega)
              have e : ((10 ^ pt.length : Nat) : Int) = (10 : Int) ^ pt.length := by simp
              omega
            rw [accD_R 1000000000000 (by omega) (by omega) pt hp 0 0 (by omega) (by simp), if_neg (by omega)]
          rw [hT]
          have hn := nearI_le (accR 10 0 pt * 65536) (10 ^ pt.length) (by omega) (pow_18 pt.length (by omega)).1
          generalize nearI (accR 10 0 pt * 65536) (10 ^ pt.length) = M at *
          generalize accR 10 0 wh = A at *
          generalize accD 2147483648 0 wh = D at *
          by_cases d5 : 1073741823 < A * 65536 + M
          · simp only [if_pos d5] at hl
            rw [hl, if_pos (by decide)]
            symm
            by_cases d6 : 16383 < D
            · exact if_pos (.inr d6)
            · rw [if_neg (fun e => by rcases e with e | e; exact d4 e; exact d6 e), if_pos]
              by_cases d7 : 2147483648 < A
              · rw [if_pos d7] at hD; omega
              · rw [if_neg d7] at hD; omega
          · simp only [if_neg d5] at hl
            rw [hl, if_neg (by decide)]
            have hDA : D = A := by rw [hD, if_neg (by omega)]
            subst hDA
            rw [if_neg (fun e => by rcases e with e | e; exact d4 e; omega), if_neg d5]
  · rw [if_neg c0] at hl
    have hn46 := posL_none 46 (l.drop k) c0
    obtain ⟨b1, b2⟩ := dig_all (l.drop k)
    cases hp : (l.drop k).all isDig with
    | false =>
      obtain ⟨x, hx, -, h5, h6⟩ := b2 hp
      rw [hl, if_pos (.inr hp)]
      rw [hget] at h6
      symm
      unfold readS
      rw [if_neg (fun e => by omega)]
      exact if_pos (.inr fun e => by rw [e] at h6; exact hn46 ((Option.some.inj h6) ▸ hx))
    | true =>
      rw [hp] at hl
      by_cases d1 : l.drop k = []
      · have e0 : (l.drop k).length = 0 := by rw [d1]; rfl
        rw [hl, if_pos (.inl d1)]
        symm
        unfold readS
        rw [b1 hp, if_neg (fun e => by omega), if_pos (.inl (by omega))]
      · have e0 : (l.drop k).length ≠ 0 := fun e => d1 (List.eq_nil_of_length_eq_zero e)
        rw [if_neg (fun e => by rcases e with e | e; exact d1 e; exact absurd e (by decide))] at hl
        rw [hl]
        symm
        unfold readS
        rw [b1 hp, if_pos (by omega)]
        rw [accD_R 2147483648 (by omega) (by omega) _ hp 0 0 (by omega) (by simp)]
        generalize accR 10 0 (l.drop k) = A at *
        by_cases d2 : 2147483647 < A
        · rw [if_pos (show 2147483647 < if 2147483648 < A then 2147483648 else A by split <;> omega), if_pos d2]
        · rw [if_neg (show ¬ 2147483648 < A by omega), if_neg d2]
theorem rrF_read (l : List UInt8) : rrF l = readF l := by
  unfold rrF
  by_cases h : posL 35 l < l.length
  · rw [if_pos h, rbF_read l h]
  · rw [if_neg h]
    have hn := posL_none 35 l h
    have hb : basedF l = none := by
      unfold basedF
      refine if_pos (.inr (.inr (.inr (.inr (.inr (.inr fun e => hn (List.mem_of_getElem? e)))))))
    unfold readF
    rw [hb]
    simp only
    by_cases c1 : l.head? = some 43
    · rw [if_pos c1, if_pos c1]
      exact rrS_read l 1 (by cases l with | nil => simp at c1 | cons => simp) false
    · rw [if_neg c1, if_neg c1]
      by_cases c2 : l.head? = some 45
      · rw [if_pos c2, if_pos c2]
        exact rrS_read l 1 (by cases l with | nil => simp at c2 | cons => simp) true
      · rw [if_neg c2, if_neg c2]
        exact rrS_read l 0 (Nat.zero_le _) false
theorem rread6_any (s : ByteArray) (hs : s.size ≤ 9223372036854775807) (w : World) :
    Calls Try.prog 28 #[.string s] w fun e w' => e = .returned (readV (readF s.toList)) ∧ Chg NoB w w' := by
  have := rread_any s hs w
  rwa [rrF_read] at this
end Go.Proofs.Ytgahapnjlngebaa
