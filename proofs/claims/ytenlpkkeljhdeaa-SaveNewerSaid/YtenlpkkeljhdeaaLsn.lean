/- Walk: tympanlaw13.SaveNewer. -/
import Derived.Test.YtenlpkkeljhdeaaLsv
namespace Go.Proofs.Ytenlpkkeljhdeaa
open Go.RowKit

abbrev dct0 : C := ⟨false, true, false, [⟨3, false, 0, 0, 0, ⟨#[]⟩⟩], []⟩
theorem used_app (A B : List C) : used (A ++ B) = used A + used B := by simp [used]
theorem used_arr0 (j : Nat) : used (List.replicate j (arr 0)) = 0 := by rw [used_rep, arr_size]; simp
theorem used_dct0 (j : Nat) : used (List.replicate j dct0) = j := by rw [used_rep]; simp [C.size]
theorem array_next (j : Nat) (hj : j < 20) : arrayH (List.replicate j (arr 0)) 0 = (List.replicate (j + 1) (arr 0), ⟨9, false, j, 0, 0, ⟨#[]⟩⟩, 0) := by
  unfold arrayH
  rw [if_neg (by decide), if_neg (by decide), add_fits _ _ (by simp; omega) (by rw [used_arr0]; simp [C.size])]
  simp [objOf, C.kind, C.size, List.replicate_succ']
theorem dict_next (A : List C) (hA : A.length ≤ 20) (hu : used A = 0) (j : Nat) (hj : j < 20) : dictH (A ++ List.replicate j dct0) 0 = (A ++ List.replicate (j + 1) dct0, ⟨10, false, (A.length : Int) + j, 0, 0, ⟨#[]⟩⟩, 0) := by
  unfold dictH
  rw [if_neg (by decide)]
  have hc : (⟨false, true, false, ⟨3, false, 0, 0, 0, ⟨#[]⟩⟩ :: List.replicate (2 * (0 : Int).toNat) nullO, []⟩ : C) = dct0 := by simp
  rw [hc, add_fits _ _ (by simp; omega) (by rw [used_app, hu, used_dct0]; simp [C.size]; omega)]
  simp [objOf, C.kind, C.size, List.replicate_succ']

set_option maxRecDepth 100000 in
set_option maxHeartbeats 8000000 in
theorem saveNewer_any (a0 a1 : Int) (l0 : 0 ≤ a0) (u0 : a0 < 256) (l1 : 0 ≤ a1) (u1 : a1 < 256) (w : World) :
   Calls Try.prog 4 #[.int .u8 a0, .int .u8 a1] w fun e w' => e = .returned (.bool true) ∧ Chg NoB w w' := by
  obtain ⟨n, hn⟩ : ∃ n, 1 + a0 % 10 = n := ⟨_, rfl⟩
  have n0 : 1 ≤ n := by omega
  have n1 : n ≤ 10 := by omega
  obtain ⟨m, hm⟩ : ∃ m, 1 + a1 % 10 = m := ⟨_, rfl⟩
  have k0 : 1 ≤ m := by omega
  have k1 : m ≤ 10 := by omega
  go_enter Try.func4, Try.ntmps4
  go_wp2_with fail
  refine (known13_any w).mono ?_
  rintro e w0 ⟨rfl, X0⟩
  go_wp2_with fail
  refine (at_new (Ats.start X0)).mono ?_
  rintro e w1 ⟨hp, rfl, A0⟩
  go_wp2_with fail
  refine (at_snew A0).mono ?_
  rintro e w2 ⟨sp, rfl, A1⟩
  clear A0
  go_wp2_with fail
  go_loopw [9] (fun c wr => ∃ j : Nat, (j : Int) ≤ n ∧ c = .int .i64 j ∧ Ats w wr [(hp, List.replicate j (arr 0))] [(sp, svBox [] 0)]) (fun c _ => 10 - (intOf c).toNat)
  case atStart => exact ⟨0, by omega, rfl, A1⟩
  case round =>
    obtain ⟨j, hj, rfl, A2⟩ := hrel
    clear A1
    by_cases hlt : (j : Int) < n
    · have AN := array_next j (by omega)
      go_wp2_with fail
      refine (at_array A2 0 AN).mono ?_
      rintro e w3 ⟨rfl, A3⟩
      go_wp2_with fail
      go_roundw
      case rel => exact ⟨j + 1, by omega, by go_num, A3⟩
      case measure => simp [intOf]; omega
    have hjn : (j : Int) = n := by omega
    have hle : n ≤ (j : Int) := by omega
    obtain ⟨A, hA⟩ : ∃ A, List.replicate j (arr 0) = A := ⟨_, rfl⟩
    have hAl : (A.length : Int) = n := by rw [← hA]; simp; exact hjn
    have hAu : used A = 0 := by rw [← hA]; exact used_arr0 j
    rw [hA] at A2
    clear hA
    go_wp2_with fail
    refine (at_save A2 m0 (by simp) (by omega) (by omega)).mono ?_
    rintro e w3 ⟨rfl, g1, A3⟩
    simp only [List.nil_append, Int.zero_add] at A3
    have A4 := ((A3.order p1).alloc (.cells #[.int .i64 11, .bool false, .int .i64 1, .int .i64 0, .int .i64 0, .string ⟨#[]⟩] 29)).perm p1
    clear A2 A3
    go_wp2_with fail
    generalize w3.alloc (.cells #[.int .i64 11, .bool false, .int .i64 1, .int .i64 0, .int .i64 0, .string ⟨#[]⟩] 29) = w4 at *
    generalize w3.heap.size = b1 at *
    obtain ⟨o1, ho1⟩ : ∃ o1 : Obj, o1 = .cells #[.int .i64 11, .bool false, .int .i64 1, .int .i64 0, .int .i64 0, .string ⟨#[]⟩] 29 := ⟨_, rfl⟩
    rw [← ho1] at A4
    have H1 := Hid.mk' ho1
    clear ho1
    go_loopw [12] (fun c wr => ∃ j : Nat, (j : Int) ≤ m ∧ c = .int .i64 j ∧ Ats w wr [(hp, A ++ List.replicate j dct0), (g1, A)] [(sp, svBox [(1, g1)] 1), (b1, o1)]) (fun c _ => 10 - (intOf c).toNat)
    case atStart => exact ⟨0, by omega, rfl, by simpa using A4⟩
    case round =>
      obtain ⟨i, hi, rfl, A5⟩ := hrel
      clear A4
      by_cases hlt2 : (i : Int) < m
      · have AN := dict_next A (by omega) hAu i (by omega)
        go_wp2_with fail
        refine (at_dict A5 0 AN).mono ?_
        rintro e w5 ⟨rfl, A6⟩
        go_wp2_with fail
        go_roundw
        case rel => exact ⟨i + 1, by omega, by go_num, A6⟩
        case measure => simp [intOf]; omega
      have him : (i : Int) = m := by omega
      have hle2 : m ≤ (i : Int) := by omega
      obtain ⟨B, hB⟩ : ∃ B, A ++ List.replicate i dct0 = B := ⟨_, rfl⟩
      have hBl : (B.length : Int) = n + m := by rw [← hB]; simp; omega
      rw [hB] at A5
      clear hB
      go_wp2_with fail
      refine (at_save A5 m0 (by simp) (by omega) (by omega)).mono ?_
      rintro e w5 ⟨rfl, g2, A6⟩
      simp only [List.cons_append, List.nil_append, show (1 : Int) + 1 = 2 from rfl] at A6
      have A7 := ((A6.order p1).alloc (.cells #[.int .i64 11, .bool false, .int .i64 2, .int .i64 0, .int .i64 0, .string ⟨#[]⟩] 29)).perm p1
      clear A5 A6
      go_wp2_with fail
      generalize w5.alloc (.cells #[.int .i64 11, .bool false, .int .i64 2, .int .i64 0, .int .i64 0, .string ⟨#[]⟩] 29) = w6 at *
      generalize w5.heap.size = b2 at *
      have NN : Num [(1, g1), (2, g2)] := (Num.nil.push 1 rfl g1).push 2 rfl g2
      have F1 : FindS [(1, g1), (2, g2)] (svO 1) 0 := find_num NN 0 (by simp) 1 rfl false 0 rfl
      have F2 : FindS [(1, g1), (2, g2)] (svO 2) 1 := find_num NN 1 (by simp) 2 rfl false 1 rfl
      have N1 : (0 : Int) ≤ 0 → ∃ q G, [((1 : Int), g1), (2, g2)][(0 : Int).toNat]? = some q ∧ (q.2, G) ∈ [(hp, B), (g2, B), (g1, A)] ∧ (G.length : Int) = n := fun _ => ⟨(1, g1), A, rfl, m2, hAl⟩
      have N2 : (0 : Int) ≤ 1 → ∃ q G, [((1 : Int), g1), (2, g2)][(1 : Int).toNat]? = some q ∧ (q.2, G) ∈ [(hp, B), (g2, B), (g1, A)] ∧ (G.length : Int) = n + m := fun _ => ⟨(2, g2), B, rfl, m1, hBl⟩
      have F3 : FindS [(1, g1), (2, g2)] (svO 2) ((1 : Nat) : Int) := F2
      have F4 : FindS [(1, g1)] (svO 2) (-1) := find_out (Num.nil.push 1 rfl g1) 2 (.inr (by simp)) false
      have F5 : FindS [(1, g1)] (svO 1) 0 := find_num (Num.nil.push 1 rfl g1) 0 (by simp) 1 rfl false 0 rfl
      have N5 : (0 : Int) ≤ 0 → ∃ q G, [((1 : Int), g1)][(0 : Int).toNat]? = some q ∧ (q.2, G) ∈ [(hp, B), (g2, B), (g1, A)] ∧ (G.length : Int) = n := fun _ => ⟨(1, g1), A, rfl, m2, hAl⟩
      obtain ⟨o2, ho2⟩ : ∃ o2 : Obj, o2 = .cells #[.int .i64 11, .bool false, .int .i64 2, .int .i64 0, .int .i64 0, .string ⟨#[]⟩] 29 := ⟨_, rfl⟩
      rw [← ho2] at A7
      have H2 := Hid.mk' ho2
      have G1 := Hid.mk' F1
      have G2 := Hid.mk' F2
      have G3 := Hid.mk' N1
      have G4 := Hid.mk' N2
      have G5 := Hid.mk' N5
      clear ho2 N1 N2 N5 F1 F2 NN hAu hAl hBl hn hm l0 u0 l1 u1
      go_loopw [15] (fun c wr => ∃ x : Nat, (x : Int) ≤ n ∧ c = .int .i64 x ∧ Ats w wr [(hp, B), (g2, B), (g1, A)] [(sp, svBox [(1, g1), (2, g2)] 2), (b2, o2), (b1, o1)]) (fun c _ => 10 - (intOf c).toNat)
      case atStart => exact ⟨0, by omega, rfl, A7⟩
      case round =>
        obtain ⟨x, hx, rfl, A8⟩ := hrel
        clear A7
        have A8' := A8
        rw [H1.out] at A8'
        have R8 := cells_of (A8'.box _ m2)
        clear A8'
        by_cases hlt3 : (x : Int) < n
        · have e0 : newerS 0 n (svO 1) ⟨9, false, x, 0, 0, ⟨#[]⟩⟩ = false := by simp [newerS]; omega
          go_wp2_with fail
          refine (at_newer A8 m0 (by simp) (svO 1) ⟨9, false, x, 0, 0, ⟨#[]⟩⟩ 0 n G1.out G3.out).mono ?_
          rintro e w7 ⟨rfl, A9⟩
          rw [e0]
          go_wp2_with fail
          go_roundw
          case rel => exact ⟨x + 1, by omega, by go_num, A9⟩
          case measure => simp [intOf]; omega
        have hle3 : n ≤ (x : Int) := by omega
        clear R8
        go_wp2_with fail
        go_loopw [16] (fun c wr => ∃ y : Int, n ≤ y ∧ y ≤ n + m ∧ c = .int .i64 y ∧ Ats w wr [(hp, B), (g2, B), (g1, A)] [(sp, svBox [(1, g1), (2, g2)] 2), (b2, o2), (b1, o1)]) (fun c _ => 20 - (intOf c).toNat)
        case atStart => exact ⟨n, by omega, by omega, rfl, A8⟩
        case round =>
          obtain ⟨y, hy1, hy2, rfl, A9⟩ := hrel
          clear A8
          have A9' := A9
          rw [H1.out, H2.out] at A9'
          have R9 := cells_of (A9'.box _ m2)
          by_cases hlt4 : y < n + m
          · have e0 : newerS 0 n (svO 1) ⟨10, false, y, 0, 0, ⟨#[]⟩⟩ = true := by simp [newerS]; omega
            have e1 : newerS 1 (n + m) (svO 2) ⟨10, false, y, 0, 0, ⟨#[]⟩⟩ = false := by simp [newerS]; omega
            clear A9'
            go_wp2_with fail
            refine (at_newer A9 m0 (by simp) (svO 1) ⟨10, false, y, 0, 0, ⟨#[]⟩⟩ 0 n G1.out G3.out).mono ?_
            rintro e w7 ⟨rfl, A10⟩
            rw [e0]
            have A10' := A10
            rw [H1.out, H2.out] at A10'
            have R10 := cells_of (A10'.box _ m1)
            clear R9 A10'
            go_wp2_with fail
            refine (at_newer A10 m0 (by simp) (svO 2) ⟨10, false, y, 0, 0, ⟨#[]⟩⟩ 1 (n + m) G2.out G4.out).mono ?_
            rintro e w8 ⟨rfl, A11⟩
            rw [e1]
            go_wp2_with fail
            go_roundw
            case rel => exact ⟨y + 1, by omega, by omega, by go_num, A11⟩
            case measure => simp [intOf]; omega
          have hle4 : n + m ≤ y := by omega
          have c1 : newerS 0 n (svO 1) (svO 1) = true := by simp [newerS]
          have c2 : newerS 0 n (svO 1) (svO 2) = true := by simp [newerS]
          have c3 : newerS 1 (n + m) (svO 2) (svO 1) = false := by simp [newerS]
          have c4 : newerS (-1) 0 (svO 2) ⟨9, false, 99, 0, 0, ⟨#[]⟩⟩ = false := by simp [newerS]
          have c5 : newerS 0 n (svO 1) ⟨3, false, 99, 0, 0, ⟨#[]⟩⟩ = false := by simp [newerS]
          clear A9
          have C1 := Hid.mk' c1
          have C2 := Hid.mk' c2
          have C3 := Hid.mk' c3
          have C4 := Hid.mk' c4
          have C5 := Hid.mk' c5
          clear c1 c2 c3 c4 c5
          go_wp2_with fail
          rw [← H1.out, ← H2.out] at A9'
          refine (at_newer A9' m0 (by simp) (svO 1) (svO 1) 0 n G1.out G3.out).mono ?_
          rintro e w7 ⟨rfl, A10⟩
          rw [C1.out]
          have A10' := A10
          rw [H1.out, H2.out] at A10'
          have R10 := cells_of (A10'.box _ m2)
          have Q10 := cells_of (A10'.box _ m1)
          clear R9 A9' A10'
          go_wp2_with fail
          refine (at_newer A10 m0 (by simp) (svO 1) (svO 2) 0 n G1.out G3.out).mono ?_
          rintro e w8 ⟨rfl, A11⟩
          rw [C2.out]
          have A11' := A11
          rw [H1.out, H2.out] at A11'
          have R11 := cells_of (A11'.box _ m2)
          have Q11 := cells_of (A11'.box _ m1)
          clear R10 Q10 A10 A11'
          go_wp2_with fail
          refine (at_newer A11 m0 (by simp) (svO 2) (svO 1) 1 (n + m) G2.out G4.out).mono ?_
          rintro e w9 ⟨rfl, A12⟩
          rw [C3.out]
          have A12' := A12
          rw [H1.out, H2.out] at A12'
          have Q12 := cells_of (A12'.box _ m1)
          clear R11 Q11 A11 A12'
          go_wp2_with fail
          refine (at_back A12 (by simp) (svO 2) 1 (2, g2) F3 rfl m0).mono ?_
          rintro e w10 ⟨rfl, A13⟩
          simp only [show [((1 : Int), g1), (2, g2)].take 1 = [(1, g1)] from rfl] at A13
          have A13' := A13
          rw [H1.out, H2.out] at A13'
          have Q13 := cells_of (A13'.box _ m1)
          clear Q12 A12 A13'
          go_wp2_with fail
          refine (at_newer A13 m0 (by simp) (svO 2) ⟨9, false, 99, 0, 0, ⟨#[]⟩⟩ (-1) 0 F4 (fun h => absurd h (by decide))).mono ?_
          rintro e w11 ⟨rfl, A14⟩
          rw [C4.out]
          have A14' := A14
          rw [H1.out, H2.out] at A14'
          have R14 := cells_of (A14'.box _ m2)
          clear Q13 A13 A14'
          go_wp2_with fail
          refine (at_newer A14 m0 (by simp) (svO 1) ⟨3, false, 99, 0, 0, ⟨#[]⟩⟩ 0 n F5 G5.out).mono ?_
          rintro e w12 ⟨rfl, A15⟩
          rw [C5.out]
          go_wp2_with fail
          go_ret
          exact ⟨rfl, A15.chg⟩
end Go.Proofs.Ytenlpkkeljhdeaa
