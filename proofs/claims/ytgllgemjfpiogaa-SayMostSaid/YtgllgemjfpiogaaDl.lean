/- dict.place (few pairs) and look, on a heap that a law made. -/
import Derived.Test.YtgllgemjfpiogaaDk
namespace Go.Proofs.Ytgllgemjfpiogaa
open Go.RowKit

theorem beq_bytes (s t : ByteArray) : (s.toList == t.toList) = decide (s = t) := bytes_toList_eq s t

set_option maxRecDepth 100000 in
set_option maxHeartbeats 8000000 in
theorem at_place {w0 w : World} {hp : Nat} {L : List C} {M : List (Nat × List C)} {K : List (Nat × Obj)} (A : Ats w0 w M K) (hm : (hp, L) ∈ M) (N : Nat) (ps : List (O × O)) (room : Nat) (D : DicAt L N (dcell ps room)) (h : ps.length ≤ room) (hf : ps.length < 256) (q : O) (r : Nat) (b : Bool) (hp' : PlaceS ps q r b) :
    Calls Try.prog 67 #[ptr hp, (dicO N).val, .int .i64 ps.length, q.val] w fun e w' => e = .returned (.tuple #[.int .i64 r, .bool b]) ∧ Ats w0 w' M K := by
  obtain ⟨qk, qx, qn, qp, ql, qs⟩ := q
  have A1 := (A.alloc (.cells #[.int .i64 10, .bool false, .int .i64 N, .int .i64 0, .int .i64 0, .string ⟨#[]⟩] 28)).alloc (.cells #[.int .i64 qk, .bool qx, .int .i64 qn, .int .i64 qp, .int .i64 ql, .string qs] 28)
  simp only [World.size_alloc] at A1
  have hf' : (ps.length : Int) < 256 := by omega
  have HG : ∀ (j : Nat) (p : O × O), ps[j]? = some p → getH L (dicO N) (2 * (j : Int) + 1) = (p.1, 0) := fun j p hj => D.get _ (by omega) _ (by
    have hl := (List.getElem?_eq_some_iff.1 hj).1
    rw [show (2 * (j : Int) + 1).toNat = 2 * j + 1 by omega]
    rw [dItems_at ps room h _ (by omega), if_neg (by omega), show (2 * j + 1 - 1) / 2 = j by omega, hj]
    simp)
  have HGh := Hid.mk' HG
  clear HG
  have HP := Hid.mk' hp'
  clear hp'
  go_enter Try.func67, Try.ntmps67
  go_wp2_with fail
  generalize w.heap.size = b5 at *
  generalize (w.alloc (.cells #[.int .i64 10, .bool false, .int .i64 N, .int .i64 0, .int .i64 0, .string ⟨#[]⟩] 28)).alloc (.cells #[.int .i64 qk, .bool qx, .int .i64 qn, .int .i64 qp, .int .i64 ql, .string qs] 28) = w1 at *
  go_loopw [22] (fun c wr => ∃ j : Nat, j ≤ ps.length ∧ c = .int .i64 j ∧ (∀ (i : Nat) (p : O × O), i < j → ps[i]? = some p → sameO p.1 ⟨qk, qx, qn, qp, ql, qs⟩ = false) ∧ Ats w0 wr M ((b5 + 1, (.cells #[.int .i64 qk, .bool qx, .int .i64 qn, .int .i64 qp, .int .i64 ql, .string qs] 28)) :: (b5, (.cells #[.int .i64 10, .bool false, .int .i64 N, .int .i64 0, .int .i64 0, .string ⟨#[]⟩] 28)) :: K)) (fun c _ => ps.length - (intOf c).toNat)
  case atStart => exact ⟨0, Nat.zero_le _, rfl, fun i p hi => absurd hi (by omega), A1⟩
  case round =>
    obtain ⟨j, hj, rfl, hno, A2⟩ := hrel
    by_cases hlt : j < ps.length
    · obtain ⟨pv, hpv⟩ : ∃ p, ps[j]? = some p := ⟨ps[j], by simp [hlt]⟩
      obtain ⟨⟨xk, xx, xn, xp, xl, xs⟩, v⟩ := pv
      have G := HGh.out j _ hpv
      simp only at G
      have he : (sameO ⟨xk, xx, xn, xp, xl, xs⟩ ⟨qk, qx, qn, qp, ql, qs⟩ = true → r = j ∧ b = true) ∧ (sameO ⟨xk, xx, xn, xp, xl, xs⟩ ⟨qk, qx, qn, qp, ql, qs⟩ = false → ∀ (i : Nat) (p : O × O), i < j + 1 → ps[i]? = some p → sameO p.1 ⟨qk, qx, qn, qp, ql, qs⟩ = false) := by
        refine ⟨fun hs => ?_, fun hs i p hi hp => ?_⟩
        · rcases HP.out with ⟨hb, ⟨p', hp1, hp2⟩, hp3⟩ | ⟨hb, -, hp3⟩
          · refine ⟨?_, hb⟩
            rcases Nat.lt_trichotomy r j with g | g | g
            · rw [hno r p' g hp1] at hp2; simp at hp2
            · exact g
            · rw [hp3 j _ g hpv] at hs; simp at hs
          · rw [hp3 j _ hpv] at hs; simp at hs
        · rcases Nat.lt_succ_iff_lt_or_eq.1 hi with g | g
          · exact hno i p g hp
          · subst g; rw [hpv] at hp; obtain rfl := Option.some.inj hp; exact hs
      have HE := Hid.mk' he
      clear he hno
      have R5 := cells_of (A2.box _ (List.mem_cons_of_mem _ (List.mem_cons_self ..)))
      have hlt' : (j : Int) < ps.length := by omega
      go_wp2_with fail
      refine (at_get A2 _ _ G hm).mono ?_
      rintro e w2 ⟨rfl, A3⟩
      have R7 := cells_of (A3.box _ (List.mem_cons_self ..))
      have v7 := blk_lt (A3.box _ (List.mem_cons_self ..))
      simp only at v7
      clear R5 A2 A1 G
      by_cases c1 : xk = qk
      · have e1 : (xk == qk) = true := by simpa using c1
        by_cases c2 : xs = qs
        · have e2 : (xs.toList == qs.toList) = true := by rw [beq_bytes]; simpa using c2
          clear c1 c2
          go_wp2_with fail
          refine (at_same (A3.alloc _) ⟨xk, xx, xn, xp, xl, xs⟩ ⟨qk, qx, qn, qp, ql, qs⟩).mono ?_
          rintro e w4 ⟨rfl, A4⟩
          have A5 := A4.keep (List.sublist_cons_self _ _)
          clear A3 A4 R7
          by_cases hs : sameO ⟨xk, xx, xn, xp, xl, xs⟩ ⟨qk, qx, qn, qp, ql, qs⟩ = true
          · rw [hs]
            obtain ⟨rfl, rfl⟩ := HE.out.1 hs
            go_wp2_with fail
            go_ret2
            exact ⟨by simp, (A5.keep (List.sublist_cons_self _ _)).keep (List.sublist_cons_self _ _)⟩
          · have hs' : sameO ⟨xk, xx, xn, xp, xl, xs⟩ ⟨qk, qx, qn, qp, ql, qs⟩ = false := by simpa using hs
            rw [hs']
            go_wp2_with fail
            go_roundw
            case rel => exact ⟨j + 1, by omega, by go_num, HE.out.2 hs', A5⟩
            case measure => simp [intOf]; omega
        · have e2 : (xs.toList == qs.toList) = false := by rw [beq_bytes]; simpa using c2
          by_cases c3 : qk = 3
          · have e3 : (qk == 3) = true := by simpa using c3
            clear c1 c2 c3
            go_wp2_with fail
            refine (at_same (A3.alloc _) ⟨xk, xx, xn, xp, xl, xs⟩ ⟨qk, qx, qn, qp, ql, qs⟩).mono ?_
            rintro e w4 ⟨rfl, A4⟩
            have A5 := A4.keep (List.sublist_cons_self _ _)
            clear A3 A4 R7
            by_cases hs : sameO ⟨xk, xx, xn, xp, xl, xs⟩ ⟨qk, qx, qn, qp, ql, qs⟩ = true
            · rw [hs]
              obtain ⟨rfl, rfl⟩ := HE.out.1 hs
              go_wp2_with fail
              go_ret2
              exact ⟨by simp, (A5.keep (List.sublist_cons_self _ _)).keep (List.sublist_cons_self _ _)⟩
            · have hs' : sameO ⟨xk, xx, xn, xp, xl, xs⟩ ⟨qk, qx, qn, qp, ql, qs⟩ = false := by simpa using hs
              rw [hs']
              go_wp2_with fail
              go_roundw
              case rel => exact ⟨j + 1, by omega, by go_num, HE.out.2 hs', A5⟩
              case measure => simp [intOf]; omega
          · have e3 : (qk == 3) = false := by simpa using c3
            by_cases c4 : qk = 4
            · have e4 : (qk == 4) = true := by simpa using c4
              clear c1 c2 c3 c4
              go_wp2_with fail
              refine (at_same (A3.alloc _) ⟨xk, xx, xn, xp, xl, xs⟩ ⟨qk, qx, qn, qp, ql, qs⟩).mono ?_
              rintro e w4 ⟨rfl, A4⟩
              have A5 := A4.keep (List.sublist_cons_self _ _)
              clear A3 A4 R7
              by_cases hs : sameO ⟨xk, xx, xn, xp, xl, xs⟩ ⟨qk, qx, qn, qp, ql, qs⟩ = true
              · rw [hs]
                obtain ⟨rfl, rfl⟩ := HE.out.1 hs
                go_wp2_with fail
                go_ret2
                exact ⟨by simp, (A5.keep (List.sublist_cons_self _ _)).keep (List.sublist_cons_self _ _)⟩
              · have hs' : sameO ⟨xk, xx, xn, xp, xl, xs⟩ ⟨qk, qx, qn, qp, ql, qs⟩ = false := by simpa using hs
                rw [hs']
                go_wp2_with fail
                go_roundw
                case rel => exact ⟨j + 1, by omega, by go_num, HE.out.2 hs', A5⟩
                case measure => simp [intOf]; omega
            · have e4 : (qk == 4) = false := by simpa using c4
              have hs' : sameO ⟨xk, xx, xn, xp, xl, xs⟩ ⟨qk, qx, qn, qp, ql, qs⟩ = false := same_not _ _ (fun z => c2 z.2) c3 c4
              clear c1 c2 c3 c4
              go_wp2_with fail
              go_roundw
              case rel => exact ⟨j + 1, by omega, by go_num, HE.out.2 hs', (A3.alloc _).keep (List.sublist_cons_self _ _)⟩
              case measure => simp [intOf]; omega
      · have e1 : (xk == qk) = false := by simpa using c1
        by_cases c3 : qk = 3
        · have e3 : (qk == 3) = true := by simpa using c3
          clear c1 c3
          go_wp2_with fail
          refine (at_same (A3.alloc _) ⟨xk, xx, xn, xp, xl, xs⟩ ⟨qk, qx, qn, qp, ql, qs⟩).mono ?_
          rintro e w4 ⟨rfl, A4⟩
          have A5 := A4.keep (List.sublist_cons_self _ _)
          clear A3 A4 R7
          by_cases hs : sameO ⟨xk, xx, xn, xp, xl, xs⟩ ⟨qk, qx, qn, qp, ql, qs⟩ = true
          · rw [hs]
            obtain ⟨rfl, rfl⟩ := HE.out.1 hs
            go_wp2_with fail
            go_ret2
            exact ⟨by simp, (A5.keep (List.sublist_cons_self _ _)).keep (List.sublist_cons_self _ _)⟩
          · have hs' : sameO ⟨xk, xx, xn, xp, xl, xs⟩ ⟨qk, qx, qn, qp, ql, qs⟩ = false := by simpa using hs
            rw [hs']
            go_wp2_with fail
            go_roundw
            case rel => exact ⟨j + 1, by omega, by go_num, HE.out.2 hs', A5⟩
            case measure => simp [intOf]; omega
        · have e3 : (qk == 3) = false := by simpa using c3
          by_cases c4 : qk = 4
          · have e4 : (qk == 4) = true := by simpa using c4
            clear c1 c3 c4
            go_wp2_with fail
            refine (at_same (A3.alloc _) ⟨xk, xx, xn, xp, xl, xs⟩ ⟨qk, qx, qn, qp, ql, qs⟩).mono ?_
            rintro e w4 ⟨rfl, A4⟩
            have A5 := A4.keep (List.sublist_cons_self _ _)
            clear A3 A4 R7
            by_cases hs : sameO ⟨xk, xx, xn, xp, xl, xs⟩ ⟨qk, qx, qn, qp, ql, qs⟩ = true
            · rw [hs]
              obtain ⟨rfl, rfl⟩ := HE.out.1 hs
              go_wp2_with fail
              go_ret2
              exact ⟨by simp, (A5.keep (List.sublist_cons_self _ _)).keep (List.sublist_cons_self _ _)⟩
            · have hs' : sameO ⟨xk, xx, xn, xp, xl, xs⟩ ⟨qk, qx, qn, qp, ql, qs⟩ = false := by simpa using hs
              rw [hs']
              go_wp2_with fail
              go_roundw
              case rel => exact ⟨j + 1, by omega, by go_num, HE.out.2 hs', A5⟩
              case measure => simp [intOf]; omega
          · have e4 : (qk == 4) = false := by simpa using c4
            have hs' : sameO ⟨xk, xx, xn, xp, xl, xs⟩ ⟨qk, qx, qn, qp, ql, qs⟩ = false := same_not _ _ (fun z => c1 z.1) c3 c4
            clear c1 c3 c4
            go_wp2_with fail
            go_roundw
            case rel => exact ⟨j + 1, by omega, by go_num, HE.out.2 hs', (A3.alloc _).keep (List.sublist_cons_self _ _)⟩
            case measure => simp [intOf]; omega
    · have hr' : r = 0 ∧ b = false := by
        rcases HP.out with ⟨-, ⟨p', hp1, hp2⟩, -⟩ | ⟨hb, hr0, -⟩
        · rw [hno r p' (by have := (List.getElem?_eq_some_iff.1 hp1).1; omega) hp1] at hp2; simp at hp2
        · exact ⟨hr0, hb⟩
      obtain ⟨rfl, rfl⟩ := hr'
      have hle : (ps.length : Int) ≤ j := by omega
      clear hno HP
      go_wp2_with fail
      go_ret2
      exact ⟨by simp, (A2.keep (List.sublist_cons_self _ _)).keep (List.sublist_cons_self _ _)⟩
end Go.Proofs.Ytgllgemjfpiogaa
