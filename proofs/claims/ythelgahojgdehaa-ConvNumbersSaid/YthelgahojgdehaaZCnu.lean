/- Walk: tympanlaw21.ConvNumbers (printed by gennu.py). -/
import Derived.Test.YthelgahojgdehaaZFxw
import Derived.Test.YthelgahojgdehaaZConvd
namespace Go.Proofs.Ythelgahojgdehaa
open Go.RowKit

set_option maxRecDepth 100000 in
set_option maxHeartbeats 1000000 in
/-- A text that is too long for the string. -/
theorem at_writeE {w0 w : World} {hp : Nat} {L : List C} {M : List (Nat × List C)} {K : List (Nat × Obj)} (A : Ats w0 w ((hp, L) :: M) K) (t : ByteArray) (N : Nat) (bs : List UInt8) (hc : L[N]? = some (txt bs)) (hN : N ≤ 2000) (hs : bs.length ≤ 40000) (x : Bool) (ht : bs.length < t.size) (ht2 : t.size ≤ 40000) :
    Calls Try.prog 48 #[ptr hp, .string t, (strN N x 0 bs.length).val] w fun e w' => e = .returned (.tuple #[(⟨0, false, 0, 0, 0, ⟨#[]⟩⟩ : O).val, .int .i64 12]) ∧ Ats w0 w' ((hp, L) :: M) K := by
  have hp0 : partH L (strN N x 0 bs.length) 0 t.size = (⟨0, false, 0, 0, 0, ⟨#[]⟩⟩, 12) := part_sE hc (by omega) hs x 0 bs.length 0 t.size (by omega) (by omega) (by omega) (by omega)
  have HP := hid' (fun (w' : World) (K' : List (Nat × Obj)) (A' : Ats w0 w' ((hp, L) :: M) K') => at_part A' (strN N x 0 bs.length) 0 t.size hp0)
  have hsi : (t.size : Int) ≤ 40000 := by omega
  have HA := hid' A
  clear hc A hp0 ht
  generalize (bs.length : Int) = z at *
  go_enter Try.func48, Try.ntmps48
  go_wp2_with fail
  refine (HP.out _ _ ((HA.out.alloc (.cells #[.int .i64 8, .bool x, .int .i64 N, .int .i64 0, .int .i64 z, .string ⟨#[]⟩] 29)).alloc (Obj.cells #[.int .i64 0, .bool false, .int .i64 0, .int .i64 0, .int .i64 0, .string ⟨#[]⟩] 29))).mono ?_
  rintro r w2 ⟨rfl, A2⟩
  simp only [World.size_alloc] at A2
  have A3 := (A2.alloc (Obj.cells #[.int .i64 0, .bool false, .int .i64 0, .int .i64 0, .int .i64 0, .string ⟨#[]⟩] 29)).perm (List.Perm.swap _ _ _)
  (try clear Ra); (try clear ya); (try clear Za)
  have Ra := cells_of (A3.box _ m0)
  have ya := blk_lt (A3.box _ m0)
  have Za := free_of (A3.box _ m0)
  (try simp only at Ra ya Za)
  have A4 := A3.putO 0 false 0 0 0 ⟨#[]⟩
  clear A2 A3
  go_wp2_with fail
  have R5 := cells_of (A4.box _ m0)
  refine bodyPost_ret (v := .tuple #[O.val (⟨0, false, 0, 0, 0, ⟨#[]⟩⟩ : O), .int .i64 12]) ?_ rfl ⟨rfl, A4.keep ((List.sublist_cons_self _ _).trans ((List.sublist_cons_self _ _).trans (List.sublist_cons_self _ _)))⟩
  simp [results, Try.results48, go_sem, R5]
theorem intL_size (v : Int) (h0 : -2147483647 ≤ v) (h1 : v ≤ 2147483647) : (⟨(intL v).toArray⟩ : ByteArray).size ≤ 100 := by
  have h := decL_len v.natAbs 14 (by omega)
  have : (intL v).length ≤ 100 := by
    unfold intL; split
    · rw [List.length_cons]; omega
    · omega
  simpa [ByteArray.size] using this
theorem fixL_size (v : Int) (h0 : -1073741823 ≤ v) (h1 : v ≤ 1073741823) : (⟨(fixL v).toArray⟩ : ByteArray).size ≤ 100 := by
  have hk := kF_rng (v.natAbs : Int)
  have hp : ∀ k : Nat, 1 ≤ k → k ≤ 5 → (10 : Int) ≤ 10 ^ k ∧ (10 : Int) ^ k ≤ 100000 := fun k a b => by
    have : k = 1 ∨ k = 2 ∨ k = 3 ∨ k = 4 ∨ k = 5 := by omega
    rcases this with rfl | rfl | rfl | rfl | rfl <;> decide
  obtain ⟨s, hs⟩ : ∃ s : Int, (v.natAbs : Int) = s := ⟨_, rfl⟩
  have hn : 0 ≤ nearF (kF s) s ∧ nearF (kF s) s ≤ 1638400000 := by
    have hk' := kF_rng s
    obtain ⟨p0, p1⟩ := hp (kF s) hk'.1 hk'.2
    unfold nearF
    obtain ⟨p, hpp⟩ : ∃ p : Int, (10 : Int) ^ kF s = p := ⟨_, rfl⟩
    rw [hpp] at p0 p1 ⊢
    have m0' : 0 ≤ s * p := Int.mul_nonneg (by omega) (by omega)
    have m1' : s * p ≤ 107374182300000 := Int.le_trans (Int.mul_le_mul_of_nonneg_left p1 (by omega)) (by omega)
    generalize s * p = q at *
    unfold nearI
    split <;> omega
  have : (fixL v).length ≤ 100 := by
    unfold fixL sizeL
    rw [hs] at hk ⊢
    generalize nearF (kF s) s = n at *
    generalize kF s = k at *
    obtain ⟨p0, p1⟩ := hp k hk.1 hk.2
    obtain ⟨p, hpp⟩ : ∃ p : Int, (10 : Int) ^ k = p := ⟨_, rfl⟩
    rw [hpp] at p0 p1 ⊢
    have a1 : (n / p).toNat ≤ 1638400000 := by have := Int.ediv_le_self p hn.1; omega
    have b1 : (n % p).toNat < 100000 := by have := Int.emod_lt_of_pos n (show 0 < p by omega); omega
    have l1 := decL_len (n / p).toNat 14 (by omega)
    have l2 := decL_len (n % p).toNat 14 (by omega)
    have l3 : (padL k (decL (n % p).toNat)).length ≤ 20 := by unfold padL; simp; omega
    rw [List.length_append, List.length_append, List.length_cons]
    have : (if v < 0 then [45] else ([] : List UInt8)).length ≤ 1 := by split <;> simp
    omega
  simpa [ByteArray.size] using this
set_option maxRecDepth 100000 in
set_option maxHeartbeats 4000000 in
theorem convNum_intLong (v room : Int) (r0 : 0 ≤ room) (r1 : room < 256) (N : Nat) (hN : room % 24 = N) (p n : Int) (hn : p = n) (g0 : -2147483647 ≤ n) (g1 : n ≤ 2147483647) (hp0 : v % 4294967295 - 2147483647 = p) (T : ByteArray) (hT : T.size ≤ 100) (hTr : readF T.toList = (1, n, 0)) (hlong : N < T.size) (w : World)
    (HPL0 : ∀ (hp : Nat) w', Calls Try.prog 14 #[ptr hp, (iO n).val] w' fun r w2 => r = .returned (.string T) ∧ Chg NoB w' w2) :
    Calls Try.prog 3 #[.int .i64 v, .bool false, .int .u8 room] w fun e w' => e = .returned (.bool true) ∧ Chg NoB w w' := by
  have hN24 : N ≤ 23 := by omega
  have MO := mayI n g0 g1
  have hzl : (zeroL N).length = N := by simp [zeroL]
  have HPL : ∀ (hp : Nat) (L : List C) (w' : World) (K' : List (Nat × Obj)), Ats w w' [(hp, L)] K' → Calls Try.prog 14 #[ptr hp, (iO n).val] w' fun e w2 => e = .returned (.string T) ∧ Ats w w2 [(hp, L)] K' := fun hp L w' K' A => (HPL0 hp w').mono fun _ _ ⟨h1, h2⟩ => ⟨h1, A.pure h2⟩
  have HPS := hid' (fun (hp sp : Nat) (L : List C) (l : List O) (w' : World) (K' : List (Nat × Obj)) (S' : StkAt w w' [(hp, L)] K' sp l) => S'.ask (r := .string T) (fun K2 A => HPL hp L w' K2 A))
  have HTX := hid' (fun (hp sp : Nat) (w' : World) (K' : List (Nat × Obj)) (S' : StkAt w w' [(hp, [])] K' sp [iO n]) => text21_any S' ⟨(zeroL N).toArray⟩ (by simp) (by rw [zero_size]; simp [used]; omega) (by simp))
  have HWR : ∀ (hp : Nat) (w' : World) (K' : List (Nat × Obj)), Ats w w' [(hp, [txt (zeroL N)])] K' → Calls Try.prog 48 #[ptr hp, .string T, (strN 0 false 0 N).val] w' fun r w2 => r = .returned (.tuple #[O.nil.val, .int .i64 12]) ∧ Ats w w2 [(hp, [txt (zeroL N)])] K' := fun hp w' K' A => by
    have := at_writeE A T 0 (zeroL N) rfl (by decide) (by omega) false (by omega) (by omega)
    rw [hzl] at this
    exact this
  have HS := hid' (fun (hp sp : Nat) (w' : World) (K' : List (Nat × Obj)) (S' : StkAt w w' [(hp, [txt (zeroL N)])] K' sp ([] ++ [iO n, strN 0 false 0 N])) =>
    conv_cvs (o := iO n) (o2 := strN 0 false 0 N) (x := O.nil) S' m0 (isK_any 3 (by decide) (by decide)) (isK_str 8 rfl) (heldAll_two (fun h => absurd h (by rw [isN3]; decide)) (may_s (L := [txt (zeroL N)]) (N := 0) (bs := zeroL N) rfl (by decide) (by omega) false 0 N (by decide) (by omega) (by omega))) 12 (fun h => absurd h (by decide)) T (HPL hp _) (HWR hp))
  have tm2 : room.tmod 24 = N := by rw [Int.tmod_eq_emod_of_nonneg r0, hN]
  have HMK := hid' (fun W => make_z N W (by omega))
  have HMO := hid' MO
  have HLONG := hid' hlong
  have hTi : (T.size : Int) ≤ 100 := by omega
  have hNi : (N : Int) ≤ 23 := by omega
  have nz := IntWalk.i64_in (N : Int) (by omega)
  have HP0 := hid' (place_any v 4294967295 (by decide) (by decide))
  obtain ⟨y1, hy1⟩ : ∃ y1, v % 4294967295 = y1 := ⟨_, rfl⟩
  have z0 := Int.emod_nonneg v (show (4294967295 : Int) ≠ 0 by decide)
  have z1 := Int.emod_lt_of_pos v (show (0 : Int) < 4294967295 by decide)
  rw [hy1] at HP0 z0 z1
  obtain ⟨n1, hn1⟩ : ∃ n1, y1 - 2147483647 = n1 := ⟨_, rfl⟩
  have hnn : n = n1 := by omega
  subst hnn
  clear MO hlong hzl HPL HPL0 HWR hT hTr hy1 hp0 hn
  go_enter Try.func3, Try.ntmps3
  go_wp2_with fail
  refine (known21_any w).mono ?_
  rintro r w1 ⟨rfl, X1⟩
  go_wp2_with fail
  refine (fresh21_any (Ats.start X1)).mono ?_
  rintro r w2 ⟨hp, sp, rfl, S2⟩
  have S3 := S2.alloc (wBox hp sp)
  clear S2
  go_wp2_with fail
  refine (HP0.out _).mono ?_
  rintro r w3 ⟨rfl, rfl⟩
  go_wp2_with fail
  refine (num21_any _ _).mono ?_
  rintro r w4 ⟨rfl, X4⟩
  have S4 := (S3.pure X4).alloc (obox (iO n))
  clear S3 X4
  have S5 := S4
  clear S4
  have S5 : StkAt w _ [(hp, [])] [(w4.heap.size, obox (iO n)), (w2.heap.size, wBox hp sp)] sp [] := S5
  go_upto_region 7 with (fail)
  generalize hW : w4.alloc _ = w5 at *
  clear hW
  generalize hg4 : w4.heap.size = g4 at *
  clear hg4
  (try clear Ra); (try clear ya); (try clear Za)
  have Ra := cells_of (S5.box _ m1)
  have ya := blk_lt (S5.box _ m1)
  (try clear Ro); (try clear yo); (try clear Zo)
  have Ro := cells_of (S5.box _ m0)
  have yo := blk_lt (S5.box _ m0)
  (try simp only at Ra ya Ro yo)
  go_wp2_with fail
  refine (stk_push S5 (iO n) HMO.out (by simp)).mono ?_
  rintro r w6 ⟨rfl, S6⟩
  have S7 : StkAt w w6 [(hp, [])] [(g4, obox (iO n)), (w2.heap.size, wBox hp sp)] sp [iO n] := S6
  clear S5 S6 Ro yo
  go_upto_region 8 with (fail)
  have HC1 := hid' (conv_z N w6.heap.size (w6.drew.alloc (zrowB N)) (blk_new w6.drew _))
  have HC2 := hid' (conv_z N w6.heap.size (w6.alloc (zrowB N)).drew (blk_drew (blk_new w6 _)))
  have hc1 := HC1.out
  have hc2 := HC2.out
  have hmk := HMK.out
  have rw1 := IntWalk.i64_in room (by omega)
  (try clear Ra); (try clear ya); (try clear Za)
  have Ra := cells_of (S7.box _ m1)
  have ya := blk_lt (S7.box _ m1)
  (try simp only at Ra ya)
  have HS7 := hid' S7
  have HZ1 := hid' (zero_size N)
  clear S7
  go_cut [0, 2, 7, 8, 9] (fun v0 v2 v7 v8 v9 wx => v0 = .int .i64 v ∧ v2 = .int .u8 room ∧ v7 = ptr w2.heap.size ∧ v8 = ptr g4 ∧ v9 = .string ⟨#[99, 118, 105]⟩ ∧ StkAt w wx [(hp, [txt (zeroL N)])] [(g4, obox (iO n)), (w2.heap.size, wBox hp sp)] sp [iO n, strN 0 false 0 N])
  case first =>
    go_region_with ((go_at_call 12; refine (HTX.out hp sp _ _ (by first | exact (HS7.out.pure ((Chg.refl NoB w6).alloc (zrowB N)).drew) | exact (HS7.out.pure ((Chg.refl NoB w6).drew.alloc (zrowB N))))).mono ?_; rintro r w9 ⟨rfl, S9⟩))
    all_goals
      rw [zero_list, HZ1.out] at S9
      go_wp2_with fail
      go_meet
      exact ⟨rfl, rfl, rfl, rfl, rfl, S9⟩
  obtain ⟨rfl, rfl, rfl, rfl, rfl, S9⟩ := hcut
  clear HS7 Ra ya HC1 HC2 hc1 hc2 hmk HTX HMK nz rw1
  generalize wc = w9 at *
  (try clear Ra); (try clear ya); (try clear Za)
  have Ra := cells_of (S9.box _ m1)
  have ya := blk_lt (S9.box _ m1)
  (try simp only at Ra ya)
  go_wp2_with fail
  refine (do21_any S9 0 (gv := []) rfl (by simp) (by simp) none 0 (by decide) (fun m o h => by simp at h) ⟨#[99, 118, 115]⟩ 79 12 true op_cvs (fun w' K' S' => HS.out hp sp w' K' S')).mono ?_
  rintro r w10 ⟨rfl, S10⟩
  have S10 : StkAt w w10 [(hp, [txt (zeroL N)])] [(g4, obox (iO n)), (w2.heap.size, wBox hp sp)] sp [iO n, strN 0 false 0 N] := S10
  (try clear Ra); (try clear ya); (try clear Za)
  have Ra := cells_of (S10.box _ m1)
  have ya := blk_lt (S10.box _ m1)
  (try clear Ro); (try clear yo); (try clear Zo)
  have Ro := cells_of (S10.box _ m0)
  have yo := blk_lt (S10.box _ m0)
  (try simp only at Ra ya Ro yo)
  clear S9 HS
  go_wp2_with fail
  refine (HPS.out hp sp _ _ _ _ S10).mono ?_
  rintro r w11 ⟨rfl, S11⟩
  (try clear Ra); (try clear ya); (try clear Za)
  have Ra := cells_of (S11.box _ m1)
  have ya := blk_lt (S11.box _ m1)
  (try clear Ro); (try clear yo); (try clear Zo)
  have Ro := cells_of (S11.box _ m0)
  have yo := blk_lt (S11.box _ m0)
  (try simp only at Ra ya Ro yo)
  have HL := hid' (stk_len S11)
  have HX := hid' S11.chg
  have hlg : (N : Int) < T.size := by have := HLONG.out; omega
  have hlg2 : decide (N < T.size) = true := by simpa using HLONG.out
  clear S10 S11
  go_wp2_with fail
  refine HL.out.mono ?_
  rintro r w12 ⟨rfl, rfl⟩
  go_wp2_with fail
  go_ret
  exact ⟨rfl, HX.out⟩
set_option maxRecDepth 100000 in
set_option maxHeartbeats 4000000 in
theorem convNum_intShort (v room : Int) (r0 : 0 ≤ room) (r1 : room < 256) (N : Nat) (hN : room % 24 = N) (p n : Int) (hn : p = n) (g0 : -2147483647 ≤ n) (g1 : n ≤ 2147483647) (hp0 : v % 4294967295 - 2147483647 = p) (T : ByteArray) (hT : T.size ≤ 100) (hTr : readF T.toList = (1, n, 0)) (hlong : ¬ N < T.size) (w : World)
    (HPL0 : ∀ (hp : Nat) w', Calls Try.prog 14 #[ptr hp, (iO n).val] w' fun r w2 => r = .returned (.string T) ∧ Chg NoB w' w2) :
    Calls Try.prog 3 #[.int .i64 v, .bool false, .int .u8 room] w fun e w' => e = .returned (.bool true) ∧ Chg NoB w w' := by
  have hN24 : N ≤ 23 := by omega
  have MO := mayI n g0 g1
  have hzl : (zeroL N).length = N := by simp [zeroL]
  have HPL : ∀ (hp : Nat) (L : List C) (w' : World) (K' : List (Nat × Obj)), Ats w w' [(hp, L)] K' → Calls Try.prog 14 #[ptr hp, (iO n).val] w' fun e w2 => e = .returned (.string T) ∧ Ats w w2 [(hp, L)] K' := fun hp L w' K' A => (HPL0 hp w').mono fun _ _ ⟨h1, h2⟩ => ⟨h1, A.pure h2⟩
  have HPS := hid' (fun (hp sp : Nat) (L : List C) (l : List O) (w' : World) (K' : List (Nat × Obj)) (S' : StkAt w w' [(hp, L)] K' sp l) => S'.ask (r := .string T) (fun K2 A => HPL hp L w' K2 A))
  have HTX := hid' (fun (hp sp : Nat) (w' : World) (K' : List (Nat × Obj)) (S' : StkAt w w' [(hp, [])] K' sp [iO n]) => text21_any S' ⟨(zeroL N).toArray⟩ (by simp) (by rw [zero_size]; simp [used]; omega) (by simp))
  obtain ⟨L2, hL2⟩ : ∃ L2 : List C, L2 = [txt (T.toList ++ (zeroL N).drop T.size)] := ⟨_, rfl⟩
  have hTl := size_toList T
  have HWR : ∀ (hp : Nat) (w' : World) (K' : List (Nat × Obj)), Ats w w' [(hp, [txt (zeroL N)])] K' → Calls Try.prog 48 #[ptr hp, .string T, (strN 0 false 0 N).val] w' fun r w2 => r = .returned (.tuple #[(strN 0 false 0 T.size).val, .int .i64 0]) ∧ Ats w w2 [(hp, L2)] K' := fun hp w' K' A => by
    have := at_write A T 0 (zeroL N) rfl (by decide) (by omega) false (by omega)
    rw [hzl] at this
    rw [hL2]
    exact this
  have HS := hid' (fun (hp sp : Nat) (w' : World) (K' : List (Nat × Obj)) (S' : StkAt w w' [(hp, [txt (zeroL N)])] K' sp ([] ++ [iO n, strN 0 false 0 N])) =>
    conv_cvs (o := iO n) (o2 := strN 0 false 0 N) (x := strN 0 false 0 T.size) S' m0 (isK_any 3 (by decide) (by decide)) (isK_str 8 rfl) (heldAll_two (fun h => absurd h (by rw [isN3]; decide)) (may_s (L := [txt (zeroL N)]) (N := 0) (bs := zeroL N) rfl (by decide) (by omega) false 0 N (by decide) (by omega) (by omega))) 0 (fun _ => mayO_str _ _ _ _ (by omega) (by omega) (by omega) (by omega) (by omega) (by omega)) T (HPL hp _) (HWR hp))
  have hc2 : L2[0]? = some (txt (T.toList ++ (zeroL N).drop T.size)) := by rw [hL2]; rfl
  have hl2 : (T.toList ++ (zeroL N).drop T.size).length = N := by rw [List.length_append, List.length_drop, hzl, hTl]; omega
  have hB2 : bytesH L2 (strN 0 false 0 T.size) = (T, 0) := by
    have := bytes_s hc2 (by decide) (by omega) false 0 T.size (by decide) (by omega) (by omega)
    refine (show bytesH L2 (strN 0 false 0 T.size) = _ from this).trans ?_
    rw [Int.toNat_zero, List.drop_zero, Int.toNat_natCast, ← hTl, List.take_left, ofList]
  have hM2 : mayH L2 (strN 0 false 0 T.size) = true := may_s hc2 (by decide) (by omega) false 0 T.size (by decide) (by omega) (by omega)
  have HNUM := hid' (fun (hp : Nat) (w' : World) (K' : List (Nat × Obj)) (A : Ats w w' [(hp, L2)] K') => at_numT A m0 (strN 0 false 0 T.size) rfl T hB2 (by omega) (1, n, 0) hTr)
  have HWH := hid' (fun (hp : Nat) (w' : World) (K' : List (Nat × Obj)) (A : Ats w w' [(hp, L2)] K') => at_whole A (strN 0 false 0 T.size) (iO n) (HNUM.out hp) (fun h => by simp at h))
  have HB := hid' (fun (hp sp : Nat) (w' : World) (K' : List (Nat × Obj)) (S' : StkAt w w' [(hp, L2)] K' sp ([] ++ [strN 0 false 0 T.size])) =>
    conv_cvi (o := strN 0 false 0 T.size) (x := iO n) S' m0 (isK_280 8 (by decide)) (heldAll_one hM2) MO (HWH.out hp) (M' := []))
  have tm2 : room.tmod 24 = N := by rw [Int.tmod_eq_emod_of_nonneg r0, hN]
  have HMK := hid' (fun W => make_z N W (by omega))
  have HMO := hid' MO
  have HLONG := hid' hlong
  have hTi : (T.size : Int) ≤ 100 := by omega
  have hNi : (N : Int) ≤ 23 := by omega
  have nz := IntWalk.i64_in (N : Int) (by omega)
  have HP0 := hid' (place_any v 4294967295 (by decide) (by decide))
  obtain ⟨y1, hy1⟩ : ∃ y1, v % 4294967295 = y1 := ⟨_, rfl⟩
  have z0 := Int.emod_nonneg v (show (4294967295 : Int) ≠ 0 by decide)
  have z1 := Int.emod_lt_of_pos v (show (0 : Int) < 4294967295 by decide)
  rw [hy1] at HP0 z0 z1
  obtain ⟨n1, hn1⟩ : ∃ n1, y1 - 2147483647 = n1 := ⟨_, rfl⟩
  have hnn : n = n1 := by omega
  subst hnn
  clear MO hlong hzl HPL HPL0 HWR hT hTr hy1 hp0 hn
  go_enter Try.func3, Try.ntmps3
  go_wp2_with fail
  refine (known21_any w).mono ?_
  rintro r w1 ⟨rfl, X1⟩
  go_wp2_with fail
  refine (fresh21_any (Ats.start X1)).mono ?_
  rintro r w2 ⟨hp, sp, rfl, S2⟩
  have S3 := S2.alloc (wBox hp sp)
  clear S2
  go_wp2_with fail
  refine (HP0.out _).mono ?_
  rintro r w3 ⟨rfl, rfl⟩
  go_wp2_with fail
  refine (num21_any _ _).mono ?_
  rintro r w4 ⟨rfl, X4⟩
  have S4 := (S3.pure X4).alloc (obox (iO n))
  clear S3 X4
  have S5 := S4
  clear S4
  have S5 : StkAt w _ [(hp, [])] [(w4.heap.size, obox (iO n)), (w2.heap.size, wBox hp sp)] sp [] := S5
  go_upto_region 7 with (fail)
  generalize hW : w4.alloc _ = w5 at *
  clear hW
  generalize hg4 : w4.heap.size = g4 at *
  clear hg4
  (try clear Ra); (try clear ya); (try clear Za)
  have Ra := cells_of (S5.box _ m1)
  have ya := blk_lt (S5.box _ m1)
  (try clear Ro); (try clear yo); (try clear Zo)
  have Ro := cells_of (S5.box _ m0)
  have yo := blk_lt (S5.box _ m0)
  (try simp only at Ra ya Ro yo)
  go_wp2_with fail
  refine (stk_push S5 (iO n) HMO.out (by simp)).mono ?_
  rintro r w6 ⟨rfl, S6⟩
  have S7 : StkAt w w6 [(hp, [])] [(g4, obox (iO n)), (w2.heap.size, wBox hp sp)] sp [iO n] := S6
  clear S5 S6 Ro yo
  go_upto_region 8 with (fail)
  have HC1 := hid' (conv_z N w6.heap.size (w6.drew.alloc (zrowB N)) (blk_new w6.drew _))
  have HC2 := hid' (conv_z N w6.heap.size (w6.alloc (zrowB N)).drew (blk_drew (blk_new w6 _)))
  have hc1 := HC1.out
  have hc2 := HC2.out
  have hmk := HMK.out
  have rw1 := IntWalk.i64_in room (by omega)
  (try clear Ra); (try clear ya); (try clear Za)
  have Ra := cells_of (S7.box _ m1)
  have ya := blk_lt (S7.box _ m1)
  (try simp only at Ra ya)
  have HS7 := hid' S7
  have HZ1 := hid' (zero_size N)
  clear S7
  go_cut [0, 2, 7, 8, 9] (fun v0 v2 v7 v8 v9 wx => v0 = .int .i64 v ∧ v2 = .int .u8 room ∧ v7 = ptr w2.heap.size ∧ v8 = ptr g4 ∧ v9 = .string ⟨#[99, 118, 105]⟩ ∧ StkAt w wx [(hp, [txt (zeroL N)])] [(g4, obox (iO n)), (w2.heap.size, wBox hp sp)] sp [iO n, strN 0 false 0 N])
  case first =>
    go_region_with ((go_at_call 12; refine (HTX.out hp sp _ _ (by first | exact (HS7.out.pure ((Chg.refl NoB w6).alloc (zrowB N)).drew) | exact (HS7.out.pure ((Chg.refl NoB w6).drew.alloc (zrowB N))))).mono ?_; rintro r w9 ⟨rfl, S9⟩))
    all_goals
      rw [zero_list, HZ1.out] at S9
      go_wp2_with fail
      go_meet
      exact ⟨rfl, rfl, rfl, rfl, rfl, S9⟩
  obtain ⟨rfl, rfl, rfl, rfl, rfl, S9⟩ := hcut
  clear HS7 Ra ya HC1 HC2 hc1 hc2 hmk HTX HMK nz rw1
  generalize wc = w9 at *
  (try clear Ra); (try clear ya); (try clear Za)
  have Ra := cells_of (S9.box _ m1)
  have ya := blk_lt (S9.box _ m1)
  (try simp only at Ra ya)
  go_wp2_with fail
  refine (do21_any S9 0 (gv := []) rfl (by simp) (by simp) none 0 (by decide) (fun m o h => by simp at h) ⟨#[99, 118, 115]⟩ 79 0 true op_cvs (fun w' K' S' => HS.out hp sp w' K' S')).mono ?_
  rintro r w10 ⟨rfl, S10⟩
  have S10 : StkAt w w10 [(hp, L2)] [(g4, obox (iO n)), (w2.heap.size, wBox hp sp)] sp [strN 0 false 0 T.size] := S10
  (try clear Ra); (try clear ya); (try clear Za)
  have Ra := cells_of (S10.box _ m1)
  have ya := blk_lt (S10.box _ m1)
  (try clear Ro); (try clear yo); (try clear Zo)
  have Ro := cells_of (S10.box _ m0)
  have yo := blk_lt (S10.box _ m0)
  (try simp only at Ra ya Ro yo)
  clear S9 HS
  go_wp2_with fail
  refine (HPS.out hp sp _ _ _ _ S10).mono ?_
  rintro r w11 ⟨rfl, S11⟩
  (try clear Ra); (try clear ya); (try clear Za)
  have Ra := cells_of (S11.box _ m1)
  have ya := blk_lt (S11.box _ m1)
  (try clear Ro); (try clear yo); (try clear Zo)
  have Ro := cells_of (S11.box _ m0)
  have yo := blk_lt (S11.box _ m0)
  (try simp only at Ra ya Ro yo)
  have hlg : ¬ (N : Int) < T.size := by have := HLONG.out; omega
  have hlg2 : decide (N < T.size) = false := by simpa using HLONG.out
  clear S10
  go_wp2_with fail
  refine (do21_any S11 0 (gv := []) rfl (by simp) (by simp) none 0 (by decide) (fun m o h => by simp at h) ⟨#[99, 118, 105]⟩ 76 0 true op_cvi (fun w' K' S' => HB.out hp sp w' K' S')).mono ?_
  rintro r w12 ⟨rfl, S12⟩
  (try clear Ra); (try clear ya); (try clear Za)
  have Ra := cells_of (S12.box _ m1)
  have ya := blk_lt (S12.box _ m1)
  (try clear Ro); (try clear yo); (try clear Zo)
  have Ro := cells_of (S12.box _ m0)
  have yo := blk_lt (S12.box _ m0)
  (try simp only at Ra ya Ro yo)
  clear S11 HB
  go_wp2_with fail
  refine (top21_any (l := []) (o := iO n) S12 m0 ⟨#[]⟩ 6 (bytes_not _ _ rfl)).mono ?_
  rintro r w13 ⟨rfl, S13⟩
  have S14 := S13.alloc (obox (iO n))
  clear S12 S13 Ra ya Ro yo
  go_upto_region 15 with (fail)
  generalize hW : w13.alloc _ = w14 at *
  clear hW
  generalize hg : w13.heap.size = g14 at *
  clear hg
  have q1 : eqO ⟨3, false, n, 0, 0, ⟨#[]⟩⟩ ⟨3, false, n, 0, 0, ⟨#[]⟩⟩ = true := eqO_self _
  (try clear Ra); (try clear ya); (try clear Za)
  have Ra := cells_of (S14.box _ m2)
  have ya := blk_lt (S14.box _ m2)
  (try clear Ro); (try clear yo); (try clear Zo)
  have Ro := cells_of (S14.box _ m1)
  have yo := blk_lt (S14.box _ m1)
  (try clear Rx); (try clear yx); (try clear Zx)
  have Rx := cells_of (S14.box _ m0)
  have yx := blk_lt (S14.box _ m0)
  (try simp only at Ra ya Ro yo Rx yx)
  have HL := hid' (stk_len S14)
  have HX := hid' S14.chg
  clear S14
  go_wp2_with fail
  refine HL.out.mono ?_
  rintro r w12 ⟨rfl, rfl⟩
  go_wp2_with fail
  go_ret
  exact ⟨rfl, HX.out⟩
set_option maxRecDepth 100000 in
set_option maxHeartbeats 4000000 in
theorem convNum_fixLong (v room : Int) (r0 : 0 ≤ room) (r1 : room < 256) (N : Nat) (hN : room % 24 = N) (p n : Int) (hn : p = n) (g0 : -1073741823 ≤ n) (g1 : n ≤ 1073741823) (hp0 : v % 2147483647 - 1073741823 = p) (T : ByteArray) (hT : T.size ≤ 100) (hTr : readF T.toList = (2, n, 0)) (hlong : N < T.size) (w : World)
    (HPL0 : ∀ (hp : Nat) w', Calls Try.prog 14 #[ptr hp, (fO n).val] w' fun r w2 => r = .returned (.string T) ∧ Chg NoB w' w2) :
    Calls Try.prog 3 #[.int .i64 v, .bool true, .int .u8 room] w fun e w' => e = .returned (.bool true) ∧ Chg NoB w w' := by
  have hN24 : N ≤ 23 := by omega
  have MO := mayF n g0 g1
  have hzl : (zeroL N).length = N := by simp [zeroL]
  have HPL : ∀ (hp : Nat) (L : List C) (w' : World) (K' : List (Nat × Obj)), Ats w w' [(hp, L)] K' → Calls Try.prog 14 #[ptr hp, (fO n).val] w' fun e w2 => e = .returned (.string T) ∧ Ats w w2 [(hp, L)] K' := fun hp L w' K' A => (HPL0 hp w').mono fun _ _ ⟨h1, h2⟩ => ⟨h1, A.pure h2⟩
  have HPS := hid' (fun (hp sp : Nat) (L : List C) (l : List O) (w' : World) (K' : List (Nat × Obj)) (S' : StkAt w w' [(hp, L)] K' sp l) => S'.ask (r := .string T) (fun K2 A => HPL hp L w' K2 A))
  have HTX := hid' (fun (hp sp : Nat) (w' : World) (K' : List (Nat × Obj)) (S' : StkAt w w' [(hp, [])] K' sp [fO n]) => text21_any S' ⟨(zeroL N).toArray⟩ (by simp) (by rw [zero_size]; simp [used]; omega) (by simp))
  have HWR : ∀ (hp : Nat) (w' : World) (K' : List (Nat × Obj)), Ats w w' [(hp, [txt (zeroL N)])] K' → Calls Try.prog 48 #[ptr hp, .string T, (strN 0 false 0 N).val] w' fun r w2 => r = .returned (.tuple #[O.nil.val, .int .i64 12]) ∧ Ats w w2 [(hp, [txt (zeroL N)])] K' := fun hp w' K' A => by
    have := at_writeE A T 0 (zeroL N) rfl (by decide) (by omega) false (by omega) (by omega)
    rw [hzl] at this
    exact this
  have HS := hid' (fun (hp sp : Nat) (w' : World) (K' : List (Nat × Obj)) (S' : StkAt w w' [(hp, [txt (zeroL N)])] K' sp ([] ++ [fO n, strN 0 false 0 N])) =>
    conv_cvs (o := fO n) (o2 := strN 0 false 0 N) (x := O.nil) S' m0 (isK_any 4 (by decide) (by decide)) (isK_str 8 rfl) (heldAll_two (fun h => absurd h (by rw [isN4]; decide)) (may_s (L := [txt (zeroL N)]) (N := 0) (bs := zeroL N) rfl (by decide) (by omega) false 0 N (by decide) (by omega) (by omega))) 12 (fun h => absurd h (by decide)) T (HPL hp _) (HWR hp))
  have tm2 : room.tmod 24 = N := by rw [Int.tmod_eq_emod_of_nonneg r0, hN]
  have HMK := hid' (fun W => make_z N W (by omega))
  have HMO := hid' MO
  have HLONG := hid' hlong
  have hTi : (T.size : Int) ≤ 100 := by omega
  have hNi : (N : Int) ≤ 23 := by omega
  have nz := IntWalk.i64_in (N : Int) (by omega)
  have HP0 := hid' (place_any v 4294967295 (by decide) (by decide))
  obtain ⟨y1, hy1⟩ : ∃ y1, v % 4294967295 = y1 := ⟨_, rfl⟩
  have z0 := Int.emod_nonneg v (show (4294967295 : Int) ≠ 0 by decide)
  have z1 := Int.emod_lt_of_pos v (show (0 : Int) < 4294967295 by decide)
  rw [hy1] at HP0 z0 z1
  obtain ⟨n1, hn1⟩ : ∃ n1, y1 - 2147483647 = n1 := ⟨_, rfl⟩
  have HP2 := hid' (place_any v 2147483647 (by decide) (by decide))
  obtain ⟨y2, hy2⟩ : ∃ y2, v % 2147483647 = y2 := ⟨_, rfl⟩
  have z2 := Int.emod_nonneg v (show (2147483647 : Int) ≠ 0 by decide)
  have z3 := Int.emod_lt_of_pos v (show (0 : Int) < 2147483647 by decide)
  rw [hy2] at HP2 z2 z3
  have hn2 : y2 - 1073741823 = n := by omega
  clear MO hlong hzl HPL HPL0 HWR hT hTr hy1 hy2 hp0 hn
  go_enter Try.func3, Try.ntmps3
  go_wp2_with fail
  refine (known21_any w).mono ?_
  rintro r w1 ⟨rfl, X1⟩
  go_wp2_with fail
  refine (fresh21_any (Ats.start X1)).mono ?_
  rintro r w2 ⟨hp, sp, rfl, S2⟩
  have S3 := S2.alloc (wBox hp sp)
  clear S2
  go_wp2_with fail
  refine (HP0.out _).mono ?_
  rintro r w3 ⟨rfl, rfl⟩
  go_wp2_with fail
  refine (num21_any _ _).mono ?_
  rintro r w4 ⟨rfl, X4⟩
  have S4 := (S3.pure X4).alloc (obox (iO n1))
  clear S3 X4
  go_upto_region 6 with (fail)
  generalize hW : w4.alloc _ = w4b at *
  clear hW
  (try clear Ro); (try clear yo); (try clear Zo)
  have Ro := cells_of (S4.box _ m0)
  have yo := blk_lt (S4.box _ m0)
  have Zo := free_of (S4.box _ m0)
  (try simp only at Ro yo Zo)
  go_wp2_with fail
  refine (HP2.out _).mono ?_
  rintro r w5b ⟨rfl, rfl⟩
  have S5 := S4.putO 4 false n 0 0 ⟨#[]⟩
  have S5 : StkAt w _ [(hp, [])] [(w4.heap.size, obox (fO n)), (w2.heap.size, wBox hp sp)] sp [] := S5
  go_upto_region 7 with (fail)
  generalize hW : (((((w4b.setCell _ _).setCell _ _).setCell _ _).setCell _ _).setCell _ _).setCell _ _ = w5 at *
  clear hW
  generalize hg4 : w4.heap.size = g4 at *
  clear hg4
  (try clear Ra); (try clear ya); (try clear Za)
  have Ra := cells_of (S5.box _ m1)
  have ya := blk_lt (S5.box _ m1)
  (try clear Ro); (try clear yo); (try clear Zo)
  have Ro := cells_of (S5.box _ m0)
  have yo := blk_lt (S5.box _ m0)
  (try simp only at Ra ya Ro yo)
  go_wp2_with fail
  refine (stk_push S5 (fO n) HMO.out (by simp)).mono ?_
  rintro r w6 ⟨rfl, S6⟩
  have S7 : StkAt w w6 [(hp, [])] [(g4, obox (fO n)), (w2.heap.size, wBox hp sp)] sp [fO n] := S6
  clear S5 S6 Ro yo
  go_upto_region 8 with (fail)
  have HC1 := hid' (conv_z N w6.heap.size (w6.drew.alloc (zrowB N)) (blk_new w6.drew _))
  have HC2 := hid' (conv_z N w6.heap.size (w6.alloc (zrowB N)).drew (blk_drew (blk_new w6 _)))
  have hc1 := HC1.out
  have hc2 := HC2.out
  have hmk := HMK.out
  have rw1 := IntWalk.i64_in room (by omega)
  (try clear Ra); (try clear ya); (try clear Za)
  have Ra := cells_of (S7.box _ m1)
  have ya := blk_lt (S7.box _ m1)
  (try simp only at Ra ya)
  have HS7 := hid' S7
  have HZ1 := hid' (zero_size N)
  clear S7
  go_cut [0, 2, 7, 8, 9] (fun v0 v2 v7 v8 v9 wx => v0 = .int .i64 v ∧ v2 = .int .u8 room ∧ v7 = ptr w2.heap.size ∧ v8 = ptr g4 ∧ v9 = .string ⟨#[99, 118, 114]⟩ ∧ StkAt w wx [(hp, [txt (zeroL N)])] [(g4, obox (fO n)), (w2.heap.size, wBox hp sp)] sp [fO n, strN 0 false 0 N])
  case first =>
    go_region_with ((go_at_call 12; refine (HTX.out hp sp _ _ (by first | exact (HS7.out.pure ((Chg.refl NoB w6).alloc (zrowB N)).drew) | exact (HS7.out.pure ((Chg.refl NoB w6).drew.alloc (zrowB N))))).mono ?_; rintro r w9 ⟨rfl, S9⟩))
    all_goals
      rw [zero_list, HZ1.out] at S9
      go_wp2_with fail
      go_meet
      exact ⟨rfl, rfl, rfl, rfl, rfl, S9⟩
  obtain ⟨rfl, rfl, rfl, rfl, rfl, S9⟩ := hcut
  clear HS7 Ra ya HC1 HC2 hc1 hc2 hmk HTX HMK nz rw1
  generalize wc = w9 at *
  (try clear Ra); (try clear ya); (try clear Za)
  have Ra := cells_of (S9.box _ m1)
  have ya := blk_lt (S9.box _ m1)
  (try simp only at Ra ya)
  go_wp2_with fail
  refine (do21_any S9 0 (gv := []) rfl (by simp) (by simp) none 0 (by decide) (fun m o h => by simp at h) ⟨#[99, 118, 115]⟩ 79 12 true op_cvs (fun w' K' S' => HS.out hp sp w' K' S')).mono ?_
  rintro r w10 ⟨rfl, S10⟩
  have S10 : StkAt w w10 [(hp, [txt (zeroL N)])] [(g4, obox (fO n)), (w2.heap.size, wBox hp sp)] sp [fO n, strN 0 false 0 N] := S10
  (try clear Ra); (try clear ya); (try clear Za)
  have Ra := cells_of (S10.box _ m1)
  have ya := blk_lt (S10.box _ m1)
  (try clear Ro); (try clear yo); (try clear Zo)
  have Ro := cells_of (S10.box _ m0)
  have yo := blk_lt (S10.box _ m0)
  (try simp only at Ra ya Ro yo)
  clear S9 HS
  go_wp2_with fail
  refine (HPS.out hp sp _ _ _ _ S10).mono ?_
  rintro r w11 ⟨rfl, S11⟩
  (try clear Ra); (try clear ya); (try clear Za)
  have Ra := cells_of (S11.box _ m1)
  have ya := blk_lt (S11.box _ m1)
  (try clear Ro); (try clear yo); (try clear Zo)
  have Ro := cells_of (S11.box _ m0)
  have yo := blk_lt (S11.box _ m0)
  (try simp only at Ra ya Ro yo)
  have HL := hid' (stk_len S11)
  have HX := hid' S11.chg
  have hlg : (N : Int) < T.size := by have := HLONG.out; omega
  have hlg2 : decide (N < T.size) = true := by simpa using HLONG.out
  clear S10 S11
  go_wp2_with fail
  refine HL.out.mono ?_
  rintro r w12 ⟨rfl, rfl⟩
  go_wp2_with fail
  go_ret
  exact ⟨rfl, HX.out⟩
set_option maxRecDepth 100000 in
set_option maxHeartbeats 4000000 in
theorem convNum_fixShort (v room : Int) (r0 : 0 ≤ room) (r1 : room < 256) (N : Nat) (hN : room % 24 = N) (p n : Int) (hn : p = n) (g0 : -1073741823 ≤ n) (g1 : n ≤ 1073741823) (hp0 : v % 2147483647 - 1073741823 = p) (T : ByteArray) (hT : T.size ≤ 100) (hTr : readF T.toList = (2, n, 0)) (hlong : ¬ N < T.size) (w : World)
    (HPL0 : ∀ (hp : Nat) w', Calls Try.prog 14 #[ptr hp, (fO n).val] w' fun r w2 => r = .returned (.string T) ∧ Chg NoB w' w2) :
    Calls Try.prog 3 #[.int .i64 v, .bool true, .int .u8 room] w fun e w' => e = .returned (.bool true) ∧ Chg NoB w w' := by
  have hN24 : N ≤ 23 := by omega
  have MO := mayF n g0 g1
  have hzl : (zeroL N).length = N := by simp [zeroL]
  have HPL : ∀ (hp : Nat) (L : List C) (w' : World) (K' : List (Nat × Obj)), Ats w w' [(hp, L)] K' → Calls Try.prog 14 #[ptr hp, (fO n).val] w' fun e w2 => e = .returned (.string T) ∧ Ats w w2 [(hp, L)] K' := fun hp L w' K' A => (HPL0 hp w').mono fun _ _ ⟨h1, h2⟩ => ⟨h1, A.pure h2⟩
  have HPS := hid' (fun (hp sp : Nat) (L : List C) (l : List O) (w' : World) (K' : List (Nat × Obj)) (S' : StkAt w w' [(hp, L)] K' sp l) => S'.ask (r := .string T) (fun K2 A => HPL hp L w' K2 A))
  have HTX := hid' (fun (hp sp : Nat) (w' : World) (K' : List (Nat × Obj)) (S' : StkAt w w' [(hp, [])] K' sp [fO n]) => text21_any S' ⟨(zeroL N).toArray⟩ (by simp) (by rw [zero_size]; simp [used]; omega) (by simp))
  obtain ⟨L2, hL2⟩ : ∃ L2 : List C, L2 = [txt (T.toList ++ (zeroL N).drop T.size)] := ⟨_, rfl⟩
  have hTl := size_toList T
  have HWR : ∀ (hp : Nat) (w' : World) (K' : List (Nat × Obj)), Ats w w' [(hp, [txt (zeroL N)])] K' → Calls Try.prog 48 #[ptr hp, .string T, (strN 0 false 0 N).val] w' fun r w2 => r = .returned (.tuple #[(strN 0 false 0 T.size).val, .int .i64 0]) ∧ Ats w w2 [(hp, L2)] K' := fun hp w' K' A => by
    have := at_write A T 0 (zeroL N) rfl (by decide) (by omega) false (by omega)
    rw [hzl] at this
    rw [hL2]
    exact this
  have HS := hid' (fun (hp sp : Nat) (w' : World) (K' : List (Nat × Obj)) (S' : StkAt w w' [(hp, [txt (zeroL N)])] K' sp ([] ++ [fO n, strN 0 false 0 N])) =>
    conv_cvs (o := fO n) (o2 := strN 0 false 0 N) (x := strN 0 false 0 T.size) S' m0 (isK_any 4 (by decide) (by decide)) (isK_str 8 rfl) (heldAll_two (fun h => absurd h (by rw [isN4]; decide)) (may_s (L := [txt (zeroL N)]) (N := 0) (bs := zeroL N) rfl (by decide) (by omega) false 0 N (by decide) (by omega) (by omega))) 0 (fun _ => mayO_str _ _ _ _ (by omega) (by omega) (by omega) (by omega) (by omega) (by omega)) T (HPL hp _) (HWR hp))
  have hc2 : L2[0]? = some (txt (T.toList ++ (zeroL N).drop T.size)) := by rw [hL2]; rfl
  have hl2 : (T.toList ++ (zeroL N).drop T.size).length = N := by rw [List.length_append, List.length_drop, hzl, hTl]; omega
  have hB2 : bytesH L2 (strN 0 false 0 T.size) = (T, 0) := by
    have := bytes_s hc2 (by decide) (by omega) false 0 T.size (by decide) (by omega) (by omega)
    refine (show bytesH L2 (strN 0 false 0 T.size) = _ from this).trans ?_
    rw [Int.toNat_zero, List.drop_zero, Int.toNat_natCast, ← hTl, List.take_left, ofList]
  have hM2 : mayH L2 (strN 0 false 0 T.size) = true := may_s hc2 (by decide) (by omega) false 0 T.size (by decide) (by omega) (by omega)
  have HNUM := hid' (fun (hp : Nat) (w' : World) (K' : List (Nat × Obj)) (A : Ats w w' [(hp, L2)] K') => at_numT A m0 (strN 0 false 0 T.size) rfl T hB2 (by omega) (2, n, 0) hTr)
  have HWH := hid' (fun (hp : Nat) (w' : World) (K' : List (Nat × Obj)) (A : Ats w w' [(hp, L2)] K') => at_fixed A (strN 0 false 0 T.size) (fO n) (HNUM.out hp) (fun h => absurd rfl h))
  have HB := hid' (fun (hp sp : Nat) (w' : World) (K' : List (Nat × Obj)) (S' : StkAt w w' [(hp, L2)] K' sp ([] ++ [strN 0 false 0 T.size])) =>
    conv_cvr (o := strN 0 false 0 T.size) (x := fO n) S' m0 (isK_280 8 (by decide)) (heldAll_one hM2) MO (HWH.out hp) (M' := []))
  have tm2 : room.tmod 24 = N := by rw [Int.tmod_eq_emod_of_nonneg r0, hN]
  have HMK := hid' (fun W => make_z N W (by omega))
  have HMO := hid' MO
  have HLONG := hid' hlong
  have hTi : (T.size : Int) ≤ 100 := by omega
  have hNi : (N : Int) ≤ 23 := by omega
  have nz := IntWalk.i64_in (N : Int) (by omega)
  have HP0 := hid' (place_any v 4294967295 (by decide) (by decide))
  obtain ⟨y1, hy1⟩ : ∃ y1, v % 4294967295 = y1 := ⟨_, rfl⟩
  have z0 := Int.emod_nonneg v (show (4294967295 : Int) ≠ 0 by decide)
  have z1 := Int.emod_lt_of_pos v (show (0 : Int) < 4294967295 by decide)
  rw [hy1] at HP0 z0 z1
  obtain ⟨n1, hn1⟩ : ∃ n1, y1 - 2147483647 = n1 := ⟨_, rfl⟩
  have HP2 := hid' (place_any v 2147483647 (by decide) (by decide))
  obtain ⟨y2, hy2⟩ : ∃ y2, v % 2147483647 = y2 := ⟨_, rfl⟩
  have z2 := Int.emod_nonneg v (show (2147483647 : Int) ≠ 0 by decide)
  have z3 := Int.emod_lt_of_pos v (show (0 : Int) < 2147483647 by decide)
  rw [hy2] at HP2 z2 z3
  have hn2 : y2 - 1073741823 = n := by omega
  clear MO hlong hzl HPL HPL0 HWR hT hTr hy1 hy2 hp0 hn
  go_enter Try.func3, Try.ntmps3
  go_wp2_with fail
  refine (known21_any w).mono ?_
  rintro r w1 ⟨rfl, X1⟩
  go_wp2_with fail
  refine (fresh21_any (Ats.start X1)).mono ?_
  rintro r w2 ⟨hp, sp, rfl, S2⟩
  have S3 := S2.alloc (wBox hp sp)
  clear S2
  go_wp2_with fail
  refine (HP0.out _).mono ?_
  rintro r w3 ⟨rfl, rfl⟩
  go_wp2_with fail
  refine (num21_any _ _).mono ?_
  rintro r w4 ⟨rfl, X4⟩
  have S4 := (S3.pure X4).alloc (obox (iO n1))
  clear S3 X4
  go_upto_region 6 with (fail)
  generalize hW : w4.alloc _ = w4b at *
  clear hW
  (try clear Ro); (try clear yo); (try clear Zo)
  have Ro := cells_of (S4.box _ m0)
  have yo := blk_lt (S4.box _ m0)
  have Zo := free_of (S4.box _ m0)
  (try simp only at Ro yo Zo)
  go_wp2_with fail
  refine (HP2.out _).mono ?_
  rintro r w5b ⟨rfl, rfl⟩
  have S5 := S4.putO 4 false n 0 0 ⟨#[]⟩
  have S5 : StkAt w _ [(hp, [])] [(w4.heap.size, obox (fO n)), (w2.heap.size, wBox hp sp)] sp [] := S5
  go_upto_region 7 with (fail)
  generalize hW : (((((w4b.setCell _ _).setCell _ _).setCell _ _).setCell _ _).setCell _ _).setCell _ _ = w5 at *
  clear hW
  generalize hg4 : w4.heap.size = g4 at *
  clear hg4
  (try clear Ra); (try clear ya); (try clear Za)
  have Ra := cells_of (S5.box _ m1)
  have ya := blk_lt (S5.box _ m1)
  (try clear Ro); (try clear yo); (try clear Zo)
  have Ro := cells_of (S5.box _ m0)
  have yo := blk_lt (S5.box _ m0)
  (try simp only at Ra ya Ro yo)
  go_wp2_with fail
  refine (stk_push S5 (fO n) HMO.out (by simp)).mono ?_
  rintro r w6 ⟨rfl, S6⟩
  have S7 : StkAt w w6 [(hp, [])] [(g4, obox (fO n)), (w2.heap.size, wBox hp sp)] sp [fO n] := S6
  clear S5 S6 Ro yo
  go_upto_region 8 with (fail)
  have HC1 := hid' (conv_z N w6.heap.size (w6.drew.alloc (zrowB N)) (blk_new w6.drew _))
  have HC2 := hid' (conv_z N w6.heap.size (w6.alloc (zrowB N)).drew (blk_drew (blk_new w6 _)))
  have hc1 := HC1.out
  have hc2 := HC2.out
  have hmk := HMK.out
  have rw1 := IntWalk.i64_in room (by omega)
  (try clear Ra); (try clear ya); (try clear Za)
  have Ra := cells_of (S7.box _ m1)
  have ya := blk_lt (S7.box _ m1)
  (try simp only at Ra ya)
  have HS7 := hid' S7
  have HZ1 := hid' (zero_size N)
  clear S7
  go_cut [0, 2, 7, 8, 9] (fun v0 v2 v7 v8 v9 wx => v0 = .int .i64 v ∧ v2 = .int .u8 room ∧ v7 = ptr w2.heap.size ∧ v8 = ptr g4 ∧ v9 = .string ⟨#[99, 118, 114]⟩ ∧ StkAt w wx [(hp, [txt (zeroL N)])] [(g4, obox (fO n)), (w2.heap.size, wBox hp sp)] sp [fO n, strN 0 false 0 N])
  case first =>
    go_region_with ((go_at_call 12; refine (HTX.out hp sp _ _ (by first | exact (HS7.out.pure ((Chg.refl NoB w6).alloc (zrowB N)).drew) | exact (HS7.out.pure ((Chg.refl NoB w6).drew.alloc (zrowB N))))).mono ?_; rintro r w9 ⟨rfl, S9⟩))
    all_goals
      rw [zero_list, HZ1.out] at S9
      go_wp2_with fail
      go_meet
      exact ⟨rfl, rfl, rfl, rfl, rfl, S9⟩
  obtain ⟨rfl, rfl, rfl, rfl, rfl, S9⟩ := hcut
  clear HS7 Ra ya HC1 HC2 hc1 hc2 hmk HTX HMK nz rw1
  generalize wc = w9 at *
  (try clear Ra); (try clear ya); (try clear Za)
  have Ra := cells_of (S9.box _ m1)
  have ya := blk_lt (S9.box _ m1)
  (try simp only at Ra ya)
  go_wp2_with fail
  refine (do21_any S9 0 (gv := []) rfl (by simp) (by simp) none 0 (by decide) (fun m o h => by simp at h) ⟨#[99, 118, 115]⟩ 79 0 true op_cvs (fun w' K' S' => HS.out hp sp w' K' S')).mono ?_
  rintro r w10 ⟨rfl, S10⟩
  have S10 : StkAt w w10 [(hp, L2)] [(g4, obox (fO n)), (w2.heap.size, wBox hp sp)] sp [strN 0 false 0 T.size] := S10
  (try clear Ra); (try clear ya); (try clear Za)
  have Ra := cells_of (S10.box _ m1)
  have ya := blk_lt (S10.box _ m1)
  (try clear Ro); (try clear yo); (try clear Zo)
  have Ro := cells_of (S10.box _ m0)
  have yo := blk_lt (S10.box _ m0)
  (try simp only at Ra ya Ro yo)
  clear S9 HS
  go_wp2_with fail
  refine (HPS.out hp sp _ _ _ _ S10).mono ?_
  rintro r w11 ⟨rfl, S11⟩
  (try clear Ra); (try clear ya); (try clear Za)
  have Ra := cells_of (S11.box _ m1)
  have ya := blk_lt (S11.box _ m1)
  (try clear Ro); (try clear yo); (try clear Zo)
  have Ro := cells_of (S11.box _ m0)
  have yo := blk_lt (S11.box _ m0)
  (try simp only at Ra ya Ro yo)
  have hlg : ¬ (N : Int) < T.size := by have := HLONG.out; omega
  have hlg2 : decide (N < T.size) = false := by simpa using HLONG.out
  clear S10
  go_wp2_with fail
  refine (do21_any S11 0 (gv := []) rfl (by simp) (by simp) none 0 (by decide) (fun m o h => by simp at h) ⟨#[99, 118, 114]⟩ 77 0 true op_cvr (fun w' K' S' => HB.out hp sp w' K' S')).mono ?_
  rintro r w12 ⟨rfl, S12⟩
  (try clear Ra); (try clear ya); (try clear Za)
  have Ra := cells_of (S12.box _ m1)
  have ya := blk_lt (S12.box _ m1)
  (try clear Ro); (try clear yo); (try clear Zo)
  have Ro := cells_of (S12.box _ m0)
  have yo := blk_lt (S12.box _ m0)
  (try simp only at Ra ya Ro yo)
  clear S11 HB
  go_wp2_with fail
  refine (top21_any (l := []) (o := fO n) S12 m0 ⟨#[]⟩ 6 (bytes_not _ _ rfl)).mono ?_
  rintro r w13 ⟨rfl, S13⟩
  have S14 := S13.alloc (obox (fO n))
  clear S12 S13 Ra ya Ro yo
  go_upto_region 15 with (fail)
  generalize hW : w13.alloc _ = w14 at *
  clear hW
  generalize hg : w13.heap.size = g14 at *
  clear hg
  have q1 : eqO ⟨4, false, n, 0, 0, ⟨#[]⟩⟩ ⟨4, false, n, 0, 0, ⟨#[]⟩⟩ = true := eqO_self _
  (try clear Ra); (try clear ya); (try clear Za)
  have Ra := cells_of (S14.box _ m2)
  have ya := blk_lt (S14.box _ m2)
  (try clear Ro); (try clear yo); (try clear Zo)
  have Ro := cells_of (S14.box _ m1)
  have yo := blk_lt (S14.box _ m1)
  (try clear Rx); (try clear yx); (try clear Zx)
  have Rx := cells_of (S14.box _ m0)
  have yx := blk_lt (S14.box _ m0)
  (try simp only at Ra ya Ro yo Rx yx)
  have HL := hid' (stk_len S14)
  have HX := hid' S14.chg
  clear S14
  go_wp2_with fail
  refine HL.out.mono ?_
  rintro r w12 ⟨rfl, rfl⟩
  go_wp2_with fail
  go_ret
  exact ⟨rfl, HX.out⟩
theorem convNumbers_any (v : Int) (fix : Bool) (room : Int) (r0 : 0 ≤ room) (r1 : room < 256) (w : World) :
    Calls Try.prog 3 #[.int .i64 v, .bool fix, .int .u8 room] w fun e w' => e = .returned (.bool true) ∧ Chg NoB w w' := by
  obtain ⟨N, hN⟩ : ∃ N : Nat, room % 24 = N := ⟨(room % 24).toNat, by omega⟩
  cases fix
  · have z0 := Int.emod_nonneg v (show (4294967295 : Int) ≠ 0 by decide)
    have z1 := Int.emod_lt_of_pos v (show (0 : Int) < 4294967295 by decide)
    obtain ⟨n, hn⟩ : ∃ n, v % 4294967295 - 2147483647 = n := ⟨_, rfl⟩
    have g0 : -2147483647 ≤ n := by omega
    have g1 : n ≤ 2147483647 := by omega
    have hpl : ∀ (hp : Nat) w', Calls Try.prog 14 #[ptr hp, (iO n).val] w' fun r w2 => r = .returned (.string ⟨(intL n).toArray⟩) ∧ Chg NoB w' w2 := fun hp w' => plain_any (iO n) hp (mayI n g0 g1) (.inr (.inl rfl)) w'
    have hr : readF (⟨(intL n).toArray⟩ : ByteArray).toList = (1, n, 0) := by rw [arr_lst]; exact int_read n g0 g1
    by_cases c : N < (⟨(intL n).toArray⟩ : ByteArray).size
    · exact convNum_intLong v room r0 r1 N hN n n rfl g0 g1 hn _ (intL_size n g0 g1) hr c w hpl
    · exact convNum_intShort v room r0 r1 N hN n n rfl g0 g1 hn _ (intL_size n g0 g1) hr c w hpl
  · have z0 := Int.emod_nonneg v (show (2147483647 : Int) ≠ 0 by decide)
    have z1 := Int.emod_lt_of_pos v (show (0 : Int) < 2147483647 by decide)
    obtain ⟨n, hn⟩ : ∃ n, v % 2147483647 - 1073741823 = n := ⟨_, rfl⟩
    have g0 : -1073741823 ≤ n := by omega
    have g1 : n ≤ 1073741823 := by omega
    have hpl : ∀ (hp : Nat) w', Calls Try.prog 14 #[ptr hp, (fO n).val] w' fun r w2 => r = .returned (.string ⟨(fixL n).toArray⟩) ∧ Chg NoB w' w2 := fun hp w' => plain_fix n hp g0 g1 w'
    have hr : readF (⟨(fixL n).toArray⟩ : ByteArray).toList = (2, n, 0) := by rw [arr_lst]; exact fix_read n g0 g1
    by_cases c : N < (⟨(fixL n).toArray⟩ : ByteArray).size
    · exact convNum_fixLong v room r0 r1 N hN n n rfl g0 g1 hn _ (fixL_size n g0 g1) hr c w hpl
    · exact convNum_fixShort v room r0 r1 N hN n n rfl g0 g1 hn _ (fixL_size n g0 g1) hr c w hpl
end Go.Proofs.Ythelgahojgdehaa
