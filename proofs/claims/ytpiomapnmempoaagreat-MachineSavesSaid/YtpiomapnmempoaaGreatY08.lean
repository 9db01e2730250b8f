/- Parts of the proof: Dl, Dm, Dn, Ds, Dp, Dpr. -/
import Derived.Test.YtpiomapnmempoaaGreatY07
namespace Go.Proofs.YtpiomapnmempoaaGreat
open Go.RowKit
variable {lk : Bool} {w w0 : World} {N hp : Nat} {L : List C} {M : List (Nat × List C)} {K : List (Nat × Obj)}
theorem beq_bytes (s t : ByteArray) : (s.toList == t.toList) = decide (s = t) := bytes_toList_eq s t
set_option maxRecDepth 100000 in
set_option maxHeartbeats 8000000 in
theorem at_place (A : Ats w0 w M K) (hm : (hp, L) ∈ M) (N : Nat) (ps : List (O × O)) (room : Nat) (D : DicAt L N (dcellk lk ps room)) (h : ps.length ≤ room) (hf : ps.length < 256) (q : O) (r : Nat) (b : Bool) (hp' : PlaceS ps q r b) :
 Calls Tryz.prog 94 #[ptr hp, (dicO N).val, .int .i64 ps.length, q.val] w fun e w' => e = .returned (.tuple #[.int .i64 r, .bool b]) ∧ Ats w0 w' M K := by
 obtain ⟨qk, qx, qn, qp, ql, qs⟩ := q; have A1 := (A.alloc (.cells #[.int .i64 10, .bool false, .int .i64 N, .int .i64 0, .int .i64 0, .string ⟨#[]⟩] 49)).alloc (.cells #[.int .i64 qk, .bool qx, .int .i64 qn, .int .i64 qp, .int .i64 ql, .string qs] 49); simp only [World.size_alloc] at A1
 have hf' : (ps.length : Int) < 256 := by omega
 have HG : ∀ (j : Nat) (p : O × O), ps[j]? = some p → getH L (dicO N) (2 * (j : Int) + 1) = (p.1, 0) := fun j p hj => D.get _ (by omega) _ (by
  have hl := (List.getElem?_eq_some_iff.1 hj).1; rw [show (2 * (j : Int) + 1).toNat = 2 * j + 1 by omega]; rw [dItems_at ps room h _ (by omega), if_neg (by omega), show (2 * j + 1 - 1) / 2 = j by omega, hj]
  simp)
 have HGh := Hid.mk' HG; clear HG; have HP := Hid.mk' hp'; clear hp'; go_enter Tryz.func94, Tryz.ntmps94
 go_wp2_with fail
 generalize w.heap.size = b5 at *; generalize (w.alloc (.cells #[.int .i64 10, .bool false, .int .i64 N, .int .i64 0, .int .i64 0, .string ⟨#[]⟩] 49)).alloc (.cells #[.int .i64 qk, .bool qx, .int .i64 qn, .int .i64 qp, .int .i64 ql, .string qs] 49) = w1 at *
 go_loopw [22] (fun c wr => ∃ j : Nat, j ≤ ps.length ∧ c = .int .i64 j ∧ (∀ (i : Nat) (p : O × O), i < j → ps[i]? = some p → sameO p.1 ⟨qk, qx, qn, qp, ql, qs⟩ = false) ∧ Ats w0 wr M ((b5 + 1, (.cells #[.int .i64 qk, .bool qx, .int .i64 qn, .int .i64 qp, .int .i64 ql, .string qs] 49)) :: (b5, (.cells #[.int .i64 10, .bool false, .int .i64 N, .int .i64 0, .int .i64 0, .string ⟨#[]⟩] 49)) :: K)) (fun c _ => ps.length - (intOf c).toNat)
 case atStart => exact ⟨0, Nat.zero_le _, rfl, fun i p hi => absurd hi (by omega), A1⟩
 case round =>
  obtain ⟨j, hj, rfl, hno, A2⟩ := hrel
  by_cases hlt : j < ps.length
  · obtain ⟨pv, hpv⟩ : ∃ p, ps[j]? = some p := ⟨ps[j], by simp [hlt]⟩
    obtain ⟨⟨xk, xx, xn, xp, xl, xs⟩, v⟩ := pv; have G := HGh.out j _ hpv; simp only at G
    have he : (sameO ⟨xk, xx, xn, xp, xl, xs⟩ ⟨qk, qx, qn, qp, ql, qs⟩ = true → r = j ∧ b = true) ∧ (sameO ⟨xk, xx, xn, xp, xl, xs⟩ ⟨qk, qx, qn, qp, ql, qs⟩ = false → ∀ (i : Nat) (p : O × O), i < j + 1 → ps[i]? = some p → sameO p.1 ⟨qk, qx, qn, qp, ql, qs⟩ = false) := by
     refine ⟨fun hs => ?_, fun hs i p hi hp => ?_⟩
     · rcases HP.out with ⟨hb, ⟨p', hp1, hp2⟩, hp3⟩ | ⟨hb, -, hp3⟩
       · refine ⟨?_, hb⟩
         rcases Nat.lt_trichotomy r j with g | g | g
         · rw [hno r p' g hp1] at hp2; simp at hp2
         · exact g
         · rw [hp3 j _ g hpv] at hs; simp at hs
       · rw [hp3 j _ hpv] at hs; simp at hs
     · rcases Nat.lt_succ_iff_lt_or_eq.1 hi with g | g
       · exact hno i p g hp
       · subst g; rw [hpv] at hp; obtain rfl := Option.some.inj hp; exact hs
    have HE := Hid.mk' he; clear he hno; have R5 := cells_of (A2.box _ (List.mem_cons_of_mem _ (List.mem_cons_self ..)))
    have hlt' : (j : Int) < ps.length := by omega
    go_wp2_with fail
    refine (at_get A2 _ _ G hm).mono ?_; rintro e w2 ⟨rfl, A3⟩; have R7 := cells_of (A3.box _ (List.mem_cons_self ..)); have v7 := blk_lt (A3.box _ (List.mem_cons_self ..)); simp only at v7; clear R5 A2 A1 G
    by_cases c1 : xk = qk
    · have e1 : (xk == qk) = true := by simpa using c1
      by_cases c2 : xs = qs
      · have e2 : (xs.toList == qs.toList) = true := by rw [beq_bytes]; simpa using c2
        clear c1 c2; go_wp2_with fail
        refine (at_same (A3.alloc _) ⟨xk, xx, xn, xp, xl, xs⟩ ⟨qk, qx, qn, qp, ql, qs⟩).mono ?_; rintro e w4 ⟨rfl, A4⟩; have A5 := A4.keep (List.sublist_cons_self _ _); clear A3 A4 R7
        by_cases hs : sameO ⟨xk, xx, xn, xp, xl, xs⟩ ⟨qk, qx, qn, qp, ql, qs⟩ = true
        · rw [hs]; obtain ⟨rfl, rfl⟩ := HE.out.1 hs; go_wp2_with fail
          go_ret2
          exact ⟨by simp, (A5.keep (List.sublist_cons_self _ _)).keep (List.sublist_cons_self _ _)⟩
        · have hs' : sameO ⟨xk, xx, xn, xp, xl, xs⟩ ⟨qk, qx, qn, qp, ql, qs⟩ = false := by simpa using hs
          rw [hs']; go_wp2_with fail
          go_roundw
          case rel => exact ⟨j + 1, by omega, by go_num, HE.out.2 hs', A5⟩
          case measure => simp [intOf]; omega
      · have e2 : (xs.toList == qs.toList) = false := by rw [beq_bytes]; simpa using c2
        by_cases c3 : qk = 3
        · have e3 : (qk == 3) = true := by simpa using c3
          clear c1 c2 c3; go_wp2_with fail
          refine (at_same (A3.alloc _) ⟨xk, xx, xn, xp, xl, xs⟩ ⟨qk, qx, qn, qp, ql, qs⟩).mono ?_; rintro e w4 ⟨rfl, A4⟩; have A5 := A4.keep (List.sublist_cons_self _ _); clear A3 A4 R7
          by_cases hs : sameO ⟨xk, xx, xn, xp, xl, xs⟩ ⟨qk, qx, qn, qp, ql, qs⟩ = true
          · rw [hs]; obtain ⟨rfl, rfl⟩ := HE.out.1 hs; go_wp2_with fail
            go_ret2
            exact ⟨by simp, (A5.keep (List.sublist_cons_self _ _)).keep (List.sublist_cons_self _ _)⟩
          · have hs' : sameO ⟨xk, xx, xn, xp, xl, xs⟩ ⟨qk, qx, qn, qp, ql, qs⟩ = false := by simpa using hs
            rw [hs']; go_wp2_with fail
            go_roundw
            case rel => exact ⟨j + 1, by omega, by go_num, HE.out.2 hs', A5⟩
            case measure => simp [intOf]; omega
        · have e3 : (qk == 3) = false := by simpa using c3
          by_cases c4 : qk = 4
          · have e4 : (qk == 4) = true := by simpa using c4
            clear c1 c2 c3 c4; go_wp2_with fail
            refine (at_same (A3.alloc _) ⟨xk, xx, xn, xp, xl, xs⟩ ⟨qk, qx, qn, qp, ql, qs⟩).mono ?_; rintro e w4 ⟨rfl, A4⟩; have A5 := A4.keep (List.sublist_cons_self _ _); clear A3 A4 R7
            by_cases hs : sameO ⟨xk, xx, xn, xp, xl, xs⟩ ⟨qk, qx, qn, qp, ql, qs⟩ = true
            · rw [hs]; obtain ⟨rfl, rfl⟩ := HE.out.1 hs; go_wp2_with fail
              go_ret2
              exact ⟨by simp, (A5.keep (List.sublist_cons_self _ _)).keep (List.sublist_cons_self _ _)⟩
            · have hs' : sameO ⟨xk, xx, xn, xp, xl, xs⟩ ⟨qk, qx, qn, qp, ql, qs⟩ = false := by simpa using hs
              rw [hs']; go_wp2_with fail
              go_roundw
              case rel => exact ⟨j + 1, by omega, by go_num, HE.out.2 hs', A5⟩
              case measure => simp [intOf]; omega
          · have e4 : (qk == 4) = false := by simpa using c4
            have hs' : sameO ⟨xk, xx, xn, xp, xl, xs⟩ ⟨qk, qx, qn, qp, ql, qs⟩ = false := same_not _ _ (fun z => c2 z.2) c3 c4; clear c1 c2 c3 c4; go_wp2_with fail
            go_roundw
            case rel => exact ⟨j + 1, by omega, by go_num, HE.out.2 hs', (A3.alloc _).keep (List.sublist_cons_self _ _)⟩
            case measure => simp [intOf]; omega
    · have e1 : (xk == qk) = false := by simpa using c1
      by_cases c3 : qk = 3
      · have e3 : (qk == 3) = true := by simpa using c3
        clear c1 c3; go_wp2_with fail
        refine (at_same (A3.alloc _) ⟨xk, xx, xn, xp, xl, xs⟩ ⟨qk, qx, qn, qp, ql, qs⟩).mono ?_; rintro e w4 ⟨rfl, A4⟩; have A5 := A4.keep (List.sublist_cons_self _ _); clear A3 A4 R7
        by_cases hs : sameO ⟨xk, xx, xn, xp, xl, xs⟩ ⟨qk, qx, qn, qp, ql, qs⟩ = true
        · rw [hs]; obtain ⟨rfl, rfl⟩ := HE.out.1 hs; go_wp2_with fail
          go_ret2
          exact ⟨by simp, (A5.keep (List.sublist_cons_self _ _)).keep (List.sublist_cons_self _ _)⟩
        · have hs' : sameO ⟨xk, xx, xn, xp, xl, xs⟩ ⟨qk, qx, qn, qp, ql, qs⟩ = false := by simpa using hs
          rw [hs']; go_wp2_with fail
          go_roundw
          case rel => exact ⟨j + 1, by omega, by go_num, HE.out.2 hs', A5⟩
          case measure => simp [intOf]; omega
      · have e3 : (qk == 3) = false := by simpa using c3
        by_cases c4 : qk = 4
        · have e4 : (qk == 4) = true := by simpa using c4
          clear c1 c3 c4; go_wp2_with fail
          refine (at_same (A3.alloc _) ⟨xk, xx, xn, xp, xl, xs⟩ ⟨qk, qx, qn, qp, ql, qs⟩).mono ?_; rintro e w4 ⟨rfl, A4⟩; have A5 := A4.keep (List.sublist_cons_self _ _); clear A3 A4 R7
          by_cases hs : sameO ⟨xk, xx, xn, xp, xl, xs⟩ ⟨qk, qx, qn, qp, ql, qs⟩ = true
          · rw [hs]; obtain ⟨rfl, rfl⟩ := HE.out.1 hs; go_wp2_with fail
            go_ret2
            exact ⟨by simp, (A5.keep (List.sublist_cons_self _ _)).keep (List.sublist_cons_self _ _)⟩
          · have hs' : sameO ⟨xk, xx, xn, xp, xl, xs⟩ ⟨qk, qx, qn, qp, ql, qs⟩ = false := by simpa using hs
            rw [hs']; go_wp2_with fail
            go_roundw
            case rel => exact ⟨j + 1, by omega, by go_num, HE.out.2 hs', A5⟩
            case measure => simp [intOf]; omega
        · have e4 : (qk == 4) = false := by simpa using c4
          have hs' : sameO ⟨xk, xx, xn, xp, xl, xs⟩ ⟨qk, qx, qn, qp, ql, qs⟩ = false := same_not _ _ (fun z => c1 z.1) c3 c4; clear c1 c3 c4; go_wp2_with fail
          go_roundw
          case rel => exact ⟨j + 1, by omega, by go_num, HE.out.2 hs', (A3.alloc _).keep (List.sublist_cons_self _ _)⟩
          case measure => simp [intOf]; omega
  · have hr' : r = 0 ∧ b = false := by
     rcases HP.out with ⟨-, ⟨p', hp1, hp2⟩, -⟩ | ⟨hb, hr0, -⟩
     · rw [hno r p' (by have := (List.getElem?_eq_some_iff.1 hp1).1; omega) hp1] at hp2; simp at hp2
     · exact ⟨hr0, hb⟩
    obtain ⟨rfl, rfl⟩ := hr'
    have hle : (ps.length : Int) ≤ j := by omega
    clear hno HP; go_wp2_with fail
    go_ret2
    exact ⟨by simp, (A2.keep (List.sublist_cons_self _ _)).keep (List.sublist_cons_self _ _)⟩
abbrev foundC (key : O) (at' n room : Int) (there : Bool) : Array Value := #[.int .i64 key.kind, .bool key.exec, .int .i64 key.n, .int .i64 key.pos, .int .i64 key.len, .string key.s, .int .i64 at', .int .i64 n, .int .i64 room, .bool there]
set_option maxRecDepth 100000 in
set_option maxHeartbeats 8000000 in
theorem at_look (A : Ats w0 w M K) (hm : (hp, L) ∈ M) (N : Nat) (ps : List (O × O)) (room : Nat) (D : DicAt L N (dcellk lk ps room)) (h : ps.length ≤ room) (hr : room ≤ 1000) (hf : ps.length < 256)
 (k : O) {key : O} {e : Int} (hk : keyD L k = (key, e)) (r : Nat) (b : Bool) (hp1 : e = 0 → PlaceS ps key r b) (hp2 : e ≠ 0 → r = 0 ∧ b = false) :
 Calls Tryz.prog 59 #[ptr hp, (dicO N).val, k.val] w fun x w' => x = .returned (.tuple #[.agg (foundC key r ps.length room b), .int .i64 e]) ∧ Ats w0 w' M K := by
 have HK := fun {w' : World} {K' : List (Nat × Obj)} (A' : Ats w0 w' M K') => at_dkey A' k hk hm; have HO := fun {w' : World} {K' : List (Nat × Obj)} (A' : Ats w0 w' M K') => at_dopen A' hm N ps room D h hr; obtain ⟨kk, kx, kn, kp, kl, ks⟩ := k; obtain ⟨ck, cx, cn, cp, cl, cs⟩ := key; have A1 := ((A.alloc (.cells #[.int .i64 10, .bool false, .int .i64 N, .int .i64 0, .int .i64 0, .string ⟨#[]⟩] 49)).alloc (.cells #[.int .i64 kk, .bool kx, .int .i64 kn, .int .i64 kp, .int .i64 kl, .string ks] 49)).alloc (.cells (foundC O.nil 0 0 0 false) 129); simp only [World.size_alloc, O.nil] at A1; go_enter Tryz.func59, Tryz.ntmps59
 go_wp2_with fail
 refine (HO A1).mono ?_; rintro x w2 ⟨rfl, A2⟩; have R5 := cells_of (A2.box _ (List.mem_cons_of_mem _ (List.mem_cons_self ..))); have R6 := cells_of (A2.box _ (List.mem_cons_self ..)); have Z6 := free_of (A2.box _ (List.mem_cons_self ..)); have l6 := blk_lt (A2.box _ (List.mem_cons_self ..)); simp only at l6; clear HO A1; go_wp2_with fail
 have A3 := (A2.put 7 (.int .i64 ps.length)).put 8 (.int .i64 room); change Ats w0 _ M ((_, .cells (foundC ⟨0, false, 0, 0, 0, ⟨#[]⟩⟩ 0 ps.length room false) _) :: _) at A3; generalize (w2.setCell ⟨w.heap.size + 1 + 1, 7, none⟩ (.int .i64 ps.length)).setCell ⟨w.heap.size + 1 + 1, 8, none⟩ (.int .i64 room) = w3 at *; clear R5 R6 Z6 l6 A2; refine (HK A3).mono ?_; rintro x w4 ⟨rfl, A4⟩; clear HK A3; have R4 := cells_of (A4.box _ (List.mem_cons_of_mem _ (List.mem_cons_of_mem _ (List.mem_cons_self ..)))); have R6 := cells_of (A4.box _ (List.mem_cons_self ..)); have Z6 := free_of (A4.box _ (List.mem_cons_self ..)); have l6 := blk_lt (A4.box _ (List.mem_cons_self ..)); simp only at l6
 by_cases he : e = 0
 · subst he; have HP := hp1 rfl; clear hp1 hp2; go_wp2_with fail
   have A5 := (((((A4.put 0 (.int .i64 ck)).put 1 (.bool cx)).put 2 (.int .i64 cn)).put 3 (.int .i64 cp)).put 4 (.int .i64 cl)).put 5 (.string cs); change Ats w0 _ M ((_, .cells (foundC ⟨ck, cx, cn, cp, cl, cs⟩ 0 ps.length room false) _) :: _) at A5; generalize (((((w4.setCell ⟨w.heap.size + 1 + 1, 0, none⟩ (.int .i64 ck)).setCell ⟨w.heap.size + 1 + 1, 1, none⟩ (.bool cx)).setCell ⟨w.heap.size + 1 + 1, 2, none⟩ (.int .i64 cn)).setCell ⟨w.heap.size + 1 + 1, 3, none⟩ (.int .i64 cp)).setCell ⟨w.heap.size + 1 + 1, 4, none⟩ (.int .i64 cl)).setCell ⟨w.heap.size + 1 + 1, 5, none⟩ (.string cs) = w5 at *; clear R4 R6 Z6 l6 A4; refine (at_place A5 hm N ps room D h hf ⟨ck, cx, cn, cp, cl, cs⟩ r b HP).mono ?_; rintro x w6 ⟨rfl, A6⟩; have R6 := cells_of (A6.box _ (List.mem_cons_self ..)); have Z6 := free_of (A6.box _ (List.mem_cons_self ..)); have l6 := blk_lt (A6.box _ (List.mem_cons_self ..)); simp only at l6; clear A5
   have A7 := ((((((((((((A6.put 6 (.int .i64 r)).put 9 (.bool b)).put 0 (.int .i64 ck)).put 1 (.bool cx)).put 2 (.int .i64 cn)).put 3 (.int .i64 cp)).put 4 (.int .i64 cl)).put 5 (.string cs)).put 6 (.int .i64 r)).put 7 (.int .i64 ps.length)).put 8 (.int .i64 room)).put 9 (.bool b))
   have R7 := cells_of (A7.box _ (List.mem_cons_self ..)); simp only at R7; go_wp2
   refine bodyPost_ret (v := .tuple #[.agg (foundC ⟨ck, cx, cn, cp, cl, cs⟩ r ps.length room b), .int .i64 0]) (by simp [results, Tryz.results59, go_sem, R7]) rfl ⟨rfl, A7.loses (K1 := [_, _, _]) (Chg.refl _ _)⟩
 · obtain ⟨rfl, rfl⟩ := hp2 he
   have he' : (e != 0) = true := by simpa using he
   clear hp1 hp2
   have A7 := ((((((((((((((((A4.put 0 (.int .i64 ck)).put 1 (.bool cx)).put 2 (.int .i64 cn)).put 3 (.int .i64 cp)).put 4 (.int .i64 cl)).put 5 (.string cs)).put 0 (.int .i64 ck)).put 1 (.bool cx)).put 2 (.int .i64 cn)).put 3 (.int .i64 cp)).put 4 (.int .i64 cl)).put 5 (.string cs)).put 6 (.int .i64 0)).put 7 (.int .i64 ps.length)).put 8 (.int .i64 room)).put 9 (.bool false))
   have R7 := cells_of (A7.box _ (List.mem_cons_self ..)); simp only at R7; go_wp2
   refine bodyPost_ret (v := .tuple #[.agg (foundC ⟨ck, cx, cn, cp, cl, cs⟩ 0 ps.length room false), .int .i64 e]) (by simp [results, Tryz.results59, go_sem, R7]) rfl ⟨rfl, A7.loses (K1 := [_, _, _]) (Chg.refl _ _)⟩
set_option maxRecDepth 100000 in
theorem at_dnew (A : Ats w0 w ((hp, L) :: M) K) (n : Int) {L' : List C} {o : O} {e : Int} (hr : dictH L n = (L', o, e)) :
 Calls Tryz.prog 35 #[ptr hp, .int .i64 n] w fun x w' => x = .returned (.tuple #[o.val, .int .i64 e]) ∧ Ats w0 w' ((hp, L') :: M) K := by
 obtain ⟨k, ex, m, p, le, s⟩ := o; have A1 := A.alloc (.cells #[.int .i64 0, .bool false, .int .i64 0, .int .i64 0, .int .i64 0, .string ⟨#[]⟩] 49); go_enter Tryz.func35, Tryz.ntmps35
 go_wp2_with fail
 refine (at_dict A1 n hr).mono ?_; rintro x w2 ⟨rfl, A2⟩; have R4 := cells_of (A2.box _ (List.mem_cons_self ..)); have Z4 := free_of (A2.box _ (List.mem_cons_self ..)); have l4 := blk_lt (A2.box _ (List.mem_cons_self ..)); simp only at l4; clear A1; go_wp2
 refine bodyPost_ret (v := .tuple #[(⟨k, ex, m, p, le, s⟩ : O).val, .int .i64 e]) (by simp [results, Tryz.results35, go_sem, R4, cell_set_at]) rfl ⟨rfl, A2.loses (K1 := [_]) ?_⟩
 (repeat' (first | with_reducible exact Chg.refl _ _ | with_reducible refine Chg.drewN ?_ _ | with_reducible refine Chg.drew ?_ | with_reducible refine Chg.alloc ?_ _ | with_reducible refine Chg.at (by simp) ?_ _ _))
set_option maxRecDepth 100000 in
set_option maxHeartbeats 8000000 in
theorem at_dgetNone (A : Ats w0 w M K) (hm : (hp, L) ∈ M) (N : Nat) (ps : List (O × O)) (room : Nat) (D : DicAt L N (dcellk lk ps room)) (h : ps.length ≤ room) (hr : room ≤ 1000) (hf : ps.length < 256)
 (k : O) {key : O} (hk : keyD L k = (key, 0)) (r : Nat) (hp1 : PlaceS ps key r false) :
 Calls Tryz.prog 100 #[ptr hp, (dicO N).val, k.val] w fun x w' => x = .returned (.tuple #[O.nil.val, .int .i64 9]) ∧ Ats w0 w' M K := by
 have HL := fun {w' : World} {K' : List (Nat × Obj)} (A' : Ats w0 w' M K') => at_look A' hm N ps room D h hr hf k hk r false (fun _ => hp1) (fun z => absurd rfl z); obtain ⟨kk, kx, kn, kp, kl, ks⟩ := k; obtain ⟨ck, cx, cn, cp, cl, cs⟩ := key; have A1 := ((A.alloc (.cells #[.int .i64 10, .bool false, .int .i64 N, .int .i64 0, .int .i64 0, .string ⟨#[]⟩] 49)).alloc (.cells #[.int .i64 kk, .bool kx, .int .i64 kn, .int .i64 kp, .int .i64 kl, .string ks] 49)).alloc (.cells #[.int .i64 0, .bool false, .int .i64 0, .int .i64 0, .int .i64 0, .string ⟨#[]⟩] 49); simp only [World.size_alloc] at A1; go_enter Tryz.func100, Tryz.ntmps100
 go_wp2_with fail
 refine (HL A1).mono ?_; rintro x w2 ⟨rfl, A2⟩; have R6 := cells_of (A2.box _ (List.mem_cons_self ..)); have Z6 := free_of (A2.box _ (List.mem_cons_self ..)); have l6 := blk_lt (A2.box _ (List.mem_cons_self ..)); simp only at l6; clear HL A1; go_wp2
 refine bodyPost_ret (v := .tuple #[O.nil.val, .int .i64 9]) (by simp [results, Tryz.results100, go_sem, R6, l6, cell_set_at, O.nil]) rfl ⟨rfl, A2.loses (K1 := [_, _, _]) ?_⟩
 (repeat' (first | with_reducible exact Chg.refl _ _ | with_reducible refine Chg.drewN ?_ _ | with_reducible refine Chg.drew ?_ | with_reducible refine Chg.alloc ?_ _ | with_reducible refine Chg.at (by simp) ?_ _ _))
theorem get_pair {ps : List (O × O)} {room : Nat} (D : DicAt L N (dcellk lk ps room)) (h : ps.length ≤ room) (r : Nat) (kk v : O) (hv : ps[r]? = some (kk, v)) : getH L (dicO N) (2 * (r : Int) + 2) = (v, 0) := D.get _ (by omega) _ (by
 have hl := (List.getElem?_eq_some_iff.1 hv).1; rw [show (2 * (r : Int) + 2).toNat = 2 * r + 2 by omega, dItems_at ps room h _ (by omega), if_neg (by omega), show (2 * r + 2 - 1) / 2 = r by omega, hv]
 have : ¬ (2 * r + 2) % 2 = 1 := by omega
 simp)
set_option maxRecDepth 100000 in
set_option maxHeartbeats 8000000 in
theorem at_dgetSome (A : Ats w0 w M K) (hm : (hp, L) ∈ M) (N : Nat) (ps : List (O × O)) (room : Nat) (D : DicAt L N (dcellk lk ps room)) (h : ps.length ≤ room) (hr : room ≤ 1000) (hf : ps.length < 256)
 (k : O) {key : O} (hk : keyD L k = (key, 0)) (r : Nat) (hp1 : PlaceS ps key r true) (kk' v : O) (hv : ps[r]? = some (kk', v)) :
 Calls Tryz.prog 100 #[ptr hp, (dicO N).val, k.val] w fun x w' => x = .returned (.tuple #[v.val, .int .i64 0]) ∧ Ats w0 w' M K := by
 have HL := fun {w' : World} {K' : List (Nat × Obj)} (A' : Ats w0 w' M K') => at_look A' hm N ps room D h hr hf k hk r true (fun _ => hp1) (fun z => absurd rfl z); have HV := get_pair D h r kk' v hv
 have hrl : (r : Int) < 1000 := by have := (List.getElem?_eq_some_iff.1 hv).1; omega
 obtain ⟨kk, kx, kn, kp, kl, ks⟩ := k; obtain ⟨ck, cx, cn, cp, cl, cs⟩ := key; obtain ⟨vk, vx, vn, vp, vl, vs⟩ := v; have A1 := ((A.alloc (.cells #[.int .i64 10, .bool false, .int .i64 N, .int .i64 0, .int .i64 0, .string ⟨#[]⟩] 49)).alloc (.cells #[.int .i64 kk, .bool kx, .int .i64 kn, .int .i64 kp, .int .i64 kl, .string ks] 49)).alloc (.cells #[.int .i64 0, .bool false, .int .i64 0, .int .i64 0, .int .i64 0, .string ⟨#[]⟩] 49); simp only [World.size_alloc] at A1; go_enter Tryz.func100, Tryz.ntmps100
 go_wp2_with fail
 refine (HL A1).mono ?_; rintro x w2 ⟨rfl, A2⟩; have R4 := cells_of (A2.box _ (List.mem_cons_of_mem _ (List.mem_cons_of_mem _ (List.mem_cons_self ..)))); have l4 := blk_lt (A2.box _ (List.mem_cons_of_mem _ (List.mem_cons_of_mem _ (List.mem_cons_self ..)))); simp only at l4; clear HL A1; go_wp2_with fail
 refine (at_get (A2.pure ((Chg.refl NoB w2).alloc _)) _ _ HV hm).mono ?_; rintro x w3 ⟨rfl, A3⟩; have R6 := cells_of (A3.box _ (List.mem_cons_self ..)); have Z6 := free_of (A3.box _ (List.mem_cons_self ..)); have l6 := blk_lt (A3.box _ (List.mem_cons_self ..)); simp only at l6; clear R4 A2; go_wp2
 refine bodyPost_ret (v := .tuple #[(⟨vk, vx, vn, vp, vl, vs⟩ : O).val, .int .i64 0]) (by simp [results, Tryz.results100, go_sem, R6, cell_set_at]) rfl ⟨rfl, A3.loses (K1 := [_, _, _]) ?_⟩
 (repeat' (first | with_reducible exact Chg.refl _ _ | with_reducible refine Chg.drewN ?_ _ | with_reducible refine Chg.drew ?_ | with_reducible refine Chg.alloc ?_ _ | with_reducible refine Chg.at (by simp) ?_ _ _))
theorem may_num (L : List C) (v : Int) (h : -2147483647 ≤ v) (h' : v ≤ 2147483647) : mayH L (numO v) = true := by
 simp [mayH, held, mayO, eqO, bareO, O.nil]
 omega
theorem DicAt.step {c : C} (D : DicAt L N c) (i : Nat) (hi : i < c.items.length) (x : O) (hx : mayH L x = true) (hf : c.locked = false := by rfl) :
 setH L (dicO N) (i : Int) x = (L.set N { c with items := c.items.set i x }, 0) ∧ DicAt (L.set N { c with items := c.items.set i x }) N { c with items := c.items.set i x } ∧ ∀ o, mayH (L.set N { c with items := c.items.set i x }) o = mayH L o := by
 refine ⟨?_, D.put _ D.text D.dict D.free (by simp), fun o => may_put L N c { c with items := c.items.set i x } D.cell rfl (by simp [C.size, D.text]) o⟩; have := D.set (i : Int) (by omega) (by omega) x hx hf; rwa [Int.toNat_natCast] at this
theorem set_there {ps : List (O × O)} {room : Nat} (D : DicAt L N (dcell ps room)) (h : ps.length ≤ room) (r : Nat) (kk u v : O) (hv : ps[r]? = some (kk, u)) (hm : mayH L v = true) :
 setH L (dicO N) (2 * (r : Int) + 2) v = (L.set N (dcell (ps.set r (kk, v)) room), 0) := by
 have hl := (List.getElem?_eq_some_iff.1 hv).1; have := (D.step (2 * r + 2) (by simp [dItems_length ps room h]; omega) v hm).1; rw [show ((2 * r + 2 : Nat) : Int) = 2 * (r : Int) + 2 by omega] at this; simp only [dItems_set ps room r h kk v u hv] at this; exact this
theorem set_zero {ps : List (O × O)} {room : Nat} (D : DicAt L N (dcell ps room)) (h : ps.length ≤ room) (hr : room ≤ 1000) : setH L (dicO N) 0 (numO ps.length) = (L, 0) := by
 have := (D.step 0 (by simp [dItems_length ps room h]) (numO ps.length) (may_num _ _ (by omega) (by omega))).1
 have e : (dItems ps room).set 0 (numO ps.length) = dItems ps room := by simp [dItems]
 simp only [e] at this; rw [show (((0 : Nat) : Int)) = 0 from rfl] at this; rw [this]
 have e2 : L.set N (dcell ps room) = L := by
  apply List.ext_getElem?
  intro j; rw [List.getElem?_set]
  by_cases hj : N = j
  · subst hj; rw [if_pos rfl, if_pos D.lt]; exact D.cell.symm
  · rw [if_neg hj]
 rw [e2]
set_option maxRecDepth 100000 in
set_option maxHeartbeats 4000000 in
theorem at_dfull (A : Ats w0 w ((hp, L) :: M) K) (N : Nat) (ps : List (O × O)) (room : Nat) (D : DicAt L N (dcell ps room)) (h : ps.length ≤ room) (hr : room ≤ 1000) :
 Calls Tryz.prog 62 #[ptr hp, (dicO N).val] w fun x w' => x = .returned (.int .i64 20) ∧ Ats w0 w' ((hp, L) :: M) K := by
 have e0 : (dcell ps room).items[(0 : Int).toNat]? = some (numO ps.length) := by simp [dItems]
 have S2 := D.get 0 (by omega) _ e0; have S3 := set_zero D h hr; have A1 := A.alloc (.cells #[.int .i64 10, .bool false, .int .i64 N, .int .i64 0, .int .i64 0, .string ⟨#[]⟩] 49); go_enter Tryz.func62, Tryz.ntmps62
 go_wp2_with fail
 refine (at_get A1 _ _ S2 (List.mem_cons_self ..)).mono ?_; rintro x w2 ⟨rfl, A2⟩; have R3 := cells_of (A2.box _ (List.mem_cons_self ..)); have l3 := blk_lt (A2.box _ (List.mem_cons_self ..)); simp only at l3; clear A1; go_wp2_with fail
 refine (at_set (A2.alloc _) _ _ _ S3).mono ?_; rintro x w3 ⟨rfl, A3⟩; clear R3 A2; go_wp2
 go_ret; exact ⟨rfl, (A3.keep (List.sublist_cons_self _ _)).keep (List.sublist_cons_self _ _)⟩
set_option maxRecDepth 100000 in
set_option maxHeartbeats 8000000 in
theorem at_dset (A : Ats w0 w ((hp, L) :: M) K) (N : Nat) (ps : List (O × O)) (room : Nat) (D : DicAt L N (dcell ps room)) (h : ps.length ≤ room) (hr : room ≤ 1000) (hf : ps.length < 256)
 (k v : O) {key : O} (hk : keyD L k = (key, 0)) (hmv : mayH L v = true) (hmk : mayH L key = true) (r : Nat) (b : Bool) (hp1 : PlaceS ps key r b) {L' : List C} {e : Int}
 (hc : (b = true ∧ e = 0 ∧ ∃ kk u, ps[r]? = some (kk, u) ∧ L' = L.set N (dcell (ps.set r (kk, v)) room)) ∨ (b = false ∧ ps.length < room ∧ e = 0 ∧ L' = L.set N (dcell (ps ++ [(key, v)]) room)) ∨ (b = false ∧ ps.length = room ∧ e = 20 ∧ L' = L)) :
 Calls Tryz.prog 38 #[ptr hp, (dicO N).val, k.val, v.val] w fun x w' => x = .returned (.int .i64 e) ∧ Ats w0 w' ((hp, L') :: M) K := by
 have HL := fun {w' : World} {K' : List (Nat × Obj)} (A' : Ats w0 w' ((hp, L) :: M) K') => at_look A' (List.mem_cons_self ..) N ps room D h hr hf k hk r b (fun _ => hp1) (fun z => absurd rfl z); have HM := fun {w' : World} {K' : List (Nat × Obj)} (A' : Ats w0 w' ((hp, L) :: M) K') => at_may A' v hmv (List.mem_cons_self ..); have HF := fun {w' : World} {K' : List (Nat × Obj)} (A' : Ats w0 w' ((hp, L) :: M) K') => at_dfull A' N ps room D h hr; have HT := fun (r : Nat) (kk u : O) (hv : ps[r]? = some (kk, u)) => set_there D h r kk u v hv hmv
 have hr1 : r ≤ ps.length := by
  rcases hp1 with ⟨-, ⟨p, hp, -⟩, -⟩ | ⟨-, h0, -⟩
  · have := (List.getElem?_eq_some_iff.1 hp).1; omega
  · omega
 have hri : (r : Int) ≤ 1000 := by omega
 have hli : (ps.length : Int) ≤ 1000 := by omega
 have hN := ps.length < room → (∃ L1 L2, setH L (dicO N) (2 * (ps.length : Int) + 1) key = (L1, 0) ∧ setH L1 (dicO N) (2 * (ps.length : Int) + 2) v = (L2, 0) ∧ setH L2 (dicO N) 0 (numO ((ps.length : Int) + 1)) = (L.set N (dcell (ps ++ [(key, v)]) room), 0))
 have HN : ps.length < room → (∃ L1 L2, setH L (dicO N) (2 * (ps.length : Int) + 1) key = (L1, 0) ∧ setH L1 (dicO N) (2 * (ps.length : Int) + 2) v = (L2, 0) ∧ setH L2 (dicO N) 0 (numO ((ps.length : Int) + 1)) = (L.set N (dcell (ps ++ [(key, v)]) room), 0)) := fun hlt => by
  have hdl := dItems_length ps room h; obtain ⟨s1, D1, m1⟩ := D.step (2 * ps.length + 1) (by simp [hdl]; omega) key hmk; obtain ⟨s2, D2, m2⟩ := D1.step (2 * ps.length + 2) (by simp [hdl]; omega) v (by rw [m1]; exact hmv); obtain ⟨s3, -, -⟩ := D2.step 0 (by simp [hdl]) (numO ((ps.length : Int) + 1)) (may_num _ _ (by omega) (by omega)); rw [show ((2 * ps.length + 1 : Nat) : Int) = 2 * (ps.length : Int) + 1 by omega] at s1; rw [show ((2 * ps.length + 2 : Nat) : Int) = 2 * (ps.length : Int) + 2 by omega] at s2; simp only [set_set_same, dItems_push ps room hlt key v] at s3; exact ⟨_, _, s1, s2, by rw [set_set_same]; exact s3⟩
 clear hN hk hmv hmk hp1 D h; obtain ⟨kk, kx, kn, kp, kl, ks⟩ := k; obtain ⟨ck, cx, cn, cp, cl, cs⟩ := key; obtain ⟨vk, vx, vn, vp, vl, vs⟩ := v; have A1 := ((A.alloc (.cells #[.int .i64 10, .bool false, .int .i64 N, .int .i64 0, .int .i64 0, .string ⟨#[]⟩] 49)).alloc (.cells #[.int .i64 kk, .bool kx, .int .i64 kn, .int .i64 kp, .int .i64 kl, .string ks] 49)).alloc (.cells #[.int .i64 vk, .bool vx, .int .i64 vn, .int .i64 vp, .int .i64 vl, .string vs] 49); simp only [World.size_alloc] at A1; have HC := Hid.mk' hc; clear hc; go_enter Tryz.func38, Tryz.ntmps38
 go_wp2_with fail
 refine (HL A1).mono ?_; rintro x w2 ⟨rfl, A2⟩; have R7 := cells_of (A2.box _ (List.mem_cons_self ..)); have l7 := blk_lt (A2.box _ (List.mem_cons_self ..)); simp only at l7; clear HL A1; go_wp2_with fail
 have A3 := A2.alloc (.cells (foundC ⟨ck, cx, cn, cp, cl, cs⟩ r ps.length room b) 129); refine (HM A3).mono ?_; rintro x w3 ⟨rfl, A4⟩; have R9 := cells_of (A4.box _ (List.mem_cons_self ..)); have R7' := cells_of (A4.box _ (List.mem_cons_of_mem _ (List.mem_cons_self ..))); have R5 := cells_of (A4.box _ (List.mem_cons_of_mem _ (List.mem_cons_of_mem _ (List.mem_cons_of_mem _ (List.mem_cons_self ..))))); clear R7 A2 A3 HM
 rcases HC.out with ⟨rfl, rfl, u1, u2, hu, rfl⟩ | ⟨rfl, hlt, rfl, rfl⟩ | ⟨rfl, heq, rfl, rfl⟩
 · have S := HT r u1 u2 hu; clear HT HN HF; go_wp2_with fail
   refine (at_set A4 _ _ _ S).mono ?_; rintro x w4 ⟨rfl, A5⟩; go_wp2
   go_ret; exact ⟨rfl, A5.loses (K1 := [_, _, _, _]) (Chg.refl _ _)⟩
 · obtain ⟨L1, L2, s1, s2, s3⟩ := HN hlt
   have hlt' : (ps.length : Int) < room := by omega
   clear HT HN HF; go_wp2_with fail
   refine (at_set A4 _ _ _ s1).mono ?_; rintro x w4 ⟨rfl, A5⟩; clear R9 R7' R5 A4; have R9 := cells_of (A5.box _ (List.mem_cons_self ..)); have R7' := cells_of (A5.box _ (List.mem_cons_of_mem _ (List.mem_cons_self ..))); have R5 := cells_of (A5.box _ (List.mem_cons_of_mem _ (List.mem_cons_of_mem _ (List.mem_cons_of_mem _ (List.mem_cons_self ..))))); go_wp2_with fail
   refine (at_set A5 _ _ _ s2).mono ?_; rintro x w5 ⟨rfl, A6⟩; clear R9 R7' R5 A5; have R9 := cells_of (A6.box _ (List.mem_cons_self ..)); have R5 := cells_of (A6.box _ (List.mem_cons_of_mem _ (List.mem_cons_of_mem _ (List.mem_cons_of_mem _ (List.mem_cons_self ..))))); go_wp2_with fail
   refine (at_set A6 _ _ _ s3).mono ?_; rintro x w6 ⟨rfl, A7⟩; clear R9 R5 A6; go_wp2
   go_ret; exact ⟨rfl, A7.loses (K1 := [_, _, _, _]) (Chg.refl _ _)⟩
 · have hle : (room : Int) ≤ ps.length := by omega
   clear HT HN; go_wp2_with fail
   refine (HF A4).mono ?_; rintro x w4 ⟨rfl, A5⟩; go_wp2
   go_ret; exact ⟨rfl, A5.loses (K1 := [_, _, _, _]) (Chg.refl _ _)⟩
theorem may_name (L : List C) (s : ByteArray) (ex : Bool) (hs : s.size ≤ 100) : mayH L ⟨5, ex, 0, 0, 0, s⟩ = true := by
 simp [mayH, held, mayO, eqO, bareO, O.nil]
 omega
theorem key_name (L : List C) (s : ByteArray) (ex : Bool) (hs : s.size ≤ 100) : keyD L ⟨5, ex, 0, 0, 0, s⟩ = (⟨5, false, 0, 0, 0, s⟩, 0) := by
 unfold keyD; rw [may_name L s ex hs]; simp [unO]
theorem same_name (s t : ByteArray) : sameO ⟨5, false, 0, 0, 0, s⟩ ⟨5, false, 0, 0, 0, t⟩ = decide (s = t) := by
 unfold sameO
 have h : (sizeO ⟨5, false, 0, 0, 0, s⟩).2 = false := by unfold sizeO; split <;> simp
 rw [if_neg (by rw [h]; simp)]; simp [eqO, unO]
theorem dict_new (L : List C) (room : Nat) (h1 : L.length < 2000) (hr : room ≤ 1000) (h2 : used L + (2 * room + 1) ≤ 40000) : dictH L (room : Int) = (L ++ [dcell [] room], dicO L.length, 0) := by
 have hc : (⟨false, true, false, ⟨3, false, 0, 0, 0, ⟨#[]⟩⟩ :: List.replicate (2 * (room : Int).toNat) nullO, []⟩ : C) = dcell [] room := by simp [dItems, pairsL]
 unfold dictH; rw [if_neg (by omega), hc, add_fits _ _ h1 (by simp [C.size, dItems_length [] room (by simp)]; omega)]; simp [objOf, C.kind]
theorem sizeO_un (a : O) : sizeO (unO a) = sizeO a := rfl
def canO (o : O) : Int ⊕ O := if (sizeO o).2 = true then .inl (sizeO o).1 else .inr (unO o)
theorem same_can (a b : O) : sameO a b = decide (canO a = canO b) := by
 unfold sameO canO
 by_cases h1 : (sizeO a).2 = true <;> by_cases h2 : (sizeO b).2 = true
 · simp [h1, h2]
 · rw [if_neg (fun h => h2 h.2), if_pos h1, if_neg h2]; simp only [reduceCtorEq, decide_false]; exact eqO_ne fun e => h2 (by rw [← sizeO_un b, ← e, sizeO_un, h1])
 · rw [if_neg (fun h => h1 h.1), if_neg h1, if_pos h2]; simp only [reduceCtorEq, decide_false]; exact eqO_ne fun e => h1 (by rw [← sizeO_un a, e, sizeO_un, h2])
 · rw [if_neg (fun h => h1 h.1), if_neg h1, if_neg h2]; simp [eqO]
theorem same_comm (a b : O) : sameO a b = sameO b a := by
 rw [same_can, same_can]; exact decide_eq_decide.2 ⟨Eq.symm, Eq.symm⟩
theorem same_trans {a b : O} (h : sameO a b = true) (c : O) : sameO a c = sameO b c := by
 rw [same_can] at h; rw [same_can, same_can, of_decide_eq_true h]
def getK : List (O × O) → O → Option O
 | [], _ => none
 | p :: ps, k => if sameO p.1 k = true then some p.2 else getK ps k
def setK : List (O × O) → O → O → List (O × O)
 | [], k, v => [(k, v)]
 | p :: ps, k, v => if sameO p.1 k = true then (p.1, v) :: ps else p :: setK ps k v
def dropK : List (O × O) → O → List (O × O)
 | [], _ => []
 | p :: ps, k => if sameO p.1 k = true then ps else p :: dropK ps k
theorem place_cons {ps : List (O × O)} {k : O} {r : Nat} {b : Bool} (p : O × O) (h : sameO p.1 k = false) (hP : PlaceS ps k r b) : PlaceS (p :: ps) k (if b = true then r + 1 else 0) b := by
 rcases hP with ⟨rfl, ⟨q, hq, hs⟩, hn⟩ | ⟨rfl, rfl, hn⟩
 · refine .inl ⟨rfl, ⟨q, by simpa using hq, hs⟩, fun j x hj hx => ?_⟩
   cases j with
   | zero => simp at hx; subst hx; exact h
   | succ j => exact hn j x (by simp at hj; omega) (by simpa using hx)
 · refine .inr ⟨rfl, by simp, fun j x hx => ?_⟩
   cases j with
   | zero => simp at hx; subst hx; exact h
   | succ j => exact hn j x (by simpa using hx)
theorem place_at (ps : List (O × O)) (k v : O) : ∃ r b, PlaceS ps k r b ∧
 ((b = true ∧ ∃ kk u, ps[r]? = some (kk, u) ∧ ps.set r (kk, v) = setK ps k v ∧ ps.eraseIdx r = dropK ps k ∧ getK ps k = some u) ∨
  (b = false ∧ getK ps k = none ∧ setK ps k v = ps ++ [(k, v)] ∧ dropK ps k = ps)) := by
 induction ps with
 | nil => exact ⟨0, false, .inr ⟨rfl, rfl, fun j p h => by simp at h⟩, .inr ⟨rfl, rfl, rfl, rfl⟩⟩
 | cons p ps ih =>
  by_cases h : sameO p.1 k = true
  · exact ⟨0, true, .inl ⟨rfl, ⟨p, rfl, h⟩, fun j q hj => absurd hj (by omega)⟩, .inl ⟨rfl, p.1, p.2, rfl, by simp [setK, h], by simp [dropK, h], by simp [getK, h]⟩⟩
  · obtain ⟨r, b, hP, hQ⟩ := ih; refine ⟨_, b, place_cons p (by simpa using h) hP, ?_⟩
    rcases hQ with ⟨rfl, kk, u, h1, h2, h3, h4⟩ | ⟨rfl, h1, h2, h3⟩
    · exact .inl ⟨rfl, kk, u, by simpa using h1, by simp [setK, h, h2], by simp [dropK, h, h3], by simp [getK, h, h4]⟩
    · exact .inr ⟨rfl, by simp [getK, h, h1], by simp [setK, h, h2], by simp [dropK, h, h3]⟩
theorem get_set (ps : List (O × O)) (k v q : O) : getK (setK ps k v) q = if sameO k q = true then some v else getK ps q := by
 induction ps with
 | nil => simp [setK, getK]
 | cons p ps ih =>
  unfold setK
  by_cases h : sameO p.1 k = true
  · rw [if_pos h]; simp only [getK, same_trans h q]
    split <;> rfl
  · rw [if_neg h]; simp only [getK, ih]
    by_cases h2 : sameO p.1 q = true
    · rw [if_pos h2, if_pos h2, if_neg]; intro h3; rw [same_comm] at h2 h3; exact h (by rw [same_comm, ← same_trans h3, h2])
    · rw [if_neg h2, if_neg h2]
end Go.Proofs.YtpiomapnmempoaaGreat
