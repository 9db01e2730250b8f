/- Parts of the proof: Rkc, Rkd. -/
import Derived.Test.YtoogmimbmgdflaaGreatY17
import Derived.Test.YtoogmimbmgdflaaGreatY25
namespace Go.Proofs.YtoogmimbmgdflaaGreat
open Go.RowKit
variable {lk : Bool} {E J0 K : List (Nat × Obj)} {w w0 : World} {M : List (Nat × List C)} {gp : Nat} {L : List C}
def FoundAt (ps : List (O × O)) (k : O) (i : Nat) : Prop := i ≤ ps.length ∧ (∀ j p, j < i → ps[j]? = some p → sameO p.1 k = false) ∧ (∀ p, ps[i]? = some p → sameO p.1 k = true)
set_option maxRecDepth 100000 in
set_option maxHeartbeats 2000000 in
theorem rfind12_any (H : RefK J0 gp L E) (A : Ats w0 w M K) (hE : ∀ q ∈ E, q ∈ K) (N : Nat) (ps : List (O × O)) (room : Nat) (D : DicAt L N (dcellk lk ps room)) (h : ps.length ≤ room) (hr : room ≤ 1000)
 (k : O) {key : O} (hk : keyD L k = (key, 0)) (i : Nat) (hi : FoundAt ps key i) :
 Calls Tryz.prog 67 #[ptr gp, (dicO N).val, k.val] w fun r w' => r = .returned (.tuple #[key.val, .int .i64 i, .int .i64 ps.length, .int .i64 0]) ∧ Ats w0 w' M K := by
 have hEE : ∀ X : List (Nat × Obj), ∀ q ∈ E, q ∈ X ++ K := fun X q hq => List.mem_append_right _ (hE q hq); have HL := hid' (fun W X (A : Ats w0 W M (X ++ K)) => rlen12_any H A (hEE X) N ps room D h hr); have HK := hid' (fun W X (A : Ats w0 W M (X ++ K)) => rkey_any H A (hEE X) k hk)
 have HG := hid' (fun (j : Nat) (p : O × O) (hj : ps[j]? = some p) W X (A : Ats w0 W M (X ++ K)) => rget_any H A (hEE X) (dicO N) (2 * (j : Int) + 1) (o' := p.1) (e := 0) (by
  have hjl := (List.getElem?_eq_some_iff.1 hj).1; refine D.get _ (by omega) _ ?_; show (dItems ps room)[(2 * (j : Int) + 1).toNat]? = some p.1; rw [show (2 * (j : Int) + 1).toNat = 2 * j + 1 by omega, dItems_at ps room h _ (by omega), if_neg (by omega), show (2 * j + 1 - 1) / 2 = j by omega, hj]; simp only
  rw [if_pos (by omega)]))
 have hps : ps.length ≤ 1000 := by omega
 obtain ⟨hi1, hi2, hi3⟩ := hi; have HI2 := hid' hi2; have HI3 := hid' hi3; clear D h hr hk hEE H hi2 hi3 hE; obtain ⟨kk, kx, kn, kp, kl, ks⟩ := k; obtain ⟨ck, cx, cn, cp, cl, cs⟩ := key; have HSM := hid' (fun (p : O × O) (s : Bool) (hs : sameO p.1 ⟨ck, cx, cn, cp, cl, cs⟩ = s) W => rsame10_any p.1 ⟨ck, cx, cn, cp, cl, cs⟩ hs W); have A1 := ((A.alloc (Obj.cells #[.int .i64 10, .bool false, .int .i64 N, .int .i64 0, .int .i64 0, .string ⟨#[]⟩] 39)).alloc (Obj.cells #[.int .i64 kk, .bool kx, .int .i64 kn, .int .i64 kp, .int .i64 kl, .string ks] 39)).alloc (Obj.cells #[.int .i64 0, .bool false, .int .i64 0, .int .i64 0, .int .i64 0, .string ⟨#[]⟩] 39); simp only [World.size_alloc] at A1; have hlen := hid' (rfl : ps.length = ps.length)
 obtain ⟨n, hn⟩ : ∃ n, ps.length = n := ⟨_, rfl⟩
 rw [hn] at HL hps hi1 ⊢; have HN := hid' hn
 have hn9 : (n : Int) ≤ 1000 := by omega
 clear hn hlen
 obtain ⟨b4, hb4⟩ : ∃ b4, w.heap.size = b4 := ⟨_, rfl⟩
 go_enter Tryz.func67, Tryz.ntmps67
 go_wp2_with fail
 refine (HL.out _ [_, _, _] A1).mono ?_; rintro r w1 ⟨rfl, A2⟩; simp only [List.cons_append, List.nil_append] at A2; clear A1; rw [hb4] at A2; clear hb4
 (try clear Rr); (try clear yr); (try clear Zr)
 have Rr := cells_of (A2.box _ m0); have yr := blk_lt (A2.box _ m0)
 (try clear Rk); (try clear yk); (try clear Zk)
 have Rk := cells_of (A2.box _ m1); have yk := blk_lt (A2.box _ m1)
 (try clear Rd); (try clear yd); (try clear Zd)
 have Rd := cells_of (A2.box _ m2); have yd := blk_lt (A2.box _ m2)
 (try simp only at Rr yr Rk yk Rd yd)
 go_wp2_with fail
 refine (HK.out _ [_, _, _] A2).mono ?_; rintro r w2 ⟨rfl, A3⟩; simp only [List.cons_append, List.nil_append] at A3; clear A2; have A3b := A3.perm (List.Perm.swap _ _ _); have A4 := A3b.putO ck cx cn cp cl cs
 (try clear Rk); (try clear yk); (try clear Zk)
 have Rk := cells_of (A3b.box _ m0); have yk := blk_lt (A3b.box _ m0); have Zk := free_of (A3b.box _ m0)
 (try clear Rr); (try clear yr); (try clear Zr)
 have Rr := cells_of (A3b.box _ m1); have yr := blk_lt (A3b.box _ m1)
 (try clear Rd); (try clear yd); (try clear Zd)
 have Rd := cells_of (A3b.box _ m2); have yd := blk_lt (A3b.box _ m2)
 (try simp only at Rk yk Zk Rr yr Rd yd)
 go_upto_region 5 with (fail)
 generalize hW : World.setCell _ _ _ = w4 at *; clear hW A3 A3b Rk yk Zk Rr yr Rd yd; have hsub : K.Sublist ((b4 + 1, Obj.cells #[.int .i64 ck, .bool cx, .int .i64 cn, .int .i64 cp, .int .i64 cl, .string cs] 39) :: (b4 + 1 + 1, Obj.cells #[.int .i64 0, .bool false, .int .i64 0, .int .i64 0, .int .i64 0, .string ⟨#[]⟩] 39) :: (b4, Obj.cells #[.int .i64 10, .bool false, .int .i64 N, .int .i64 0, .int .i64 0, .string ⟨#[]⟩] 39) :: K) := ((List.sublist_cons_self _ _).trans (List.sublist_cons_self _ _)).trans (List.sublist_cons_self _ _); have HSUB := hid' hsub; clear hsub; go_wp2_with fail
 go_loopw [12] (fun v12 wr => ∃ j : Nat, v12 = .int .i64 j ∧ j ≤ i ∧ Ats w0 wr M ((b4 + 1, Obj.cells #[.int .i64 ck, .bool cx, .int .i64 cn, .int .i64 cp, .int .i64 cl, .string cs] 39) :: (b4 + 1 + 1, Obj.cells #[.int .i64 0, .bool false, .int .i64 0, .int .i64 0, .int .i64 0, .string ⟨#[]⟩] 39) :: (b4, Obj.cells #[.int .i64 10, .bool false, .int .i64 N, .int .i64 0, .int .i64 0, .string ⟨#[]⟩] 39) :: K)) (fun v12 _ => i - (intOf v12).toNat)
 case atStart => exact ⟨0, rfl, Nat.zero_le _, A4⟩
 case round =>
  clear A4; obtain ⟨j, rfl, hj, A5⟩ := hrel
  by_cases hjn : j < n
  · obtain ⟨⟨⟨uk, ux, un, up, ul, us⟩, pv⟩, hp⟩ : ∃ p, ps[j]? = some p := ⟨_, List.getElem?_eq_getElem (by rw [HN.out]; exact hjn)⟩
    have HGJ := hid' (HG.out j _ hp)
    have hjn' : (j : Int) < n := by omega
    have wr1 : IntKind.i64.wrap (2 * (j : Int)) = 2 * j := IntWalk.i64_in _ (by omega); have wr2 : IntKind.i64.wrap (2 * (j : Int) + 1) = 2 * (j : Int) + 1 := IntWalk.i64_in _ (by omega)
    (try clear Rk); (try clear yk); (try clear Zk)
    have Rk := cells_of (A5.box _ m0); have yk := blk_lt (A5.box _ m0)
    (try clear Rr); (try clear yr); (try clear Zr)
    have Rr := cells_of (A5.box _ m1); have yr := blk_lt (A5.box _ m1)
    (try clear Rd); (try clear yd); (try clear Zd)
    have Rd := cells_of (A5.box _ m2); have yd := blk_lt (A5.box _ m2)
    (try simp only at Rk yk Rr yr Rd yd)
    go_wp2_with fail
    refine (HGJ.out _ [_, _, _] A5).mono ?_; rintro r w6 ⟨rfl, A6⟩; simp only [List.cons_append, List.nil_append] at A6; clear A5 Rk yk Rr yr Rd yd; have A7 := A6.alloc (Obj.cells #[.int .i64 uk, .bool ux, .int .i64 un, .int .i64 up, .int .i64 ul, .string us] 39); clear A6
    obtain ⟨s, hs⟩ : ∃ s, sameO ⟨uk, ux, un, up, ul, us⟩ ⟨ck, cx, cn, cp, cl, cs⟩ = s := ⟨_, rfl⟩
    have HSJ := hid' (HSM.out (⟨uk, ux, un, up, ul, us⟩, pv) s hs)
    have hsi : (s = false ∧ j < i) ∨ (s = true ∧ j = i) := by
     rcases Nat.lt_or_ge j i with h | h
     · exact .inl ⟨hs.symm.trans (HI2.out j _ h hp), h⟩
     · have e : j = i := by omega
       subst e; exact .inr ⟨hs.symm.trans (HI3.out _ hp), rfl⟩
    clear hs hp
    go_upto_region 11 with (fail)
    generalize w6.heap.size = b13 at *; generalize World.alloc _ _ = w7 at *
    (try clear Rk); (try clear yk); (try clear Zk)
    have Rk := cells_of (A7.box _ m1); have yk := blk_lt (A7.box _ m1)
    (try clear Rp); (try clear yp); (try clear Zp)
    have Rp := cells_of (A7.box _ m0); have yp := blk_lt (A7.box _ m0)
    (try simp only at Rk yk Rp yp)
    rcases hsi with ⟨rfl, hji⟩ | ⟨rfl, rfl⟩
    · go_wp2_with fail
      refine (HSJ.out _).mono ?_; rintro r w8 ⟨rfl, X8⟩; have A8 := A7.pure X8; clear X8 A7 Rk yk Rp yp; go_wp2_with fail
      go_roundw
      case rel => exact ⟨j + 1, by go_num, by omega, A8.keep (List.sublist_cons_self _ _)⟩
      case measure => simp [intOf]; omega
    · go_wp2_with fail
      refine (HSJ.out _).mono ?_; rintro r w8 ⟨rfl, X8⟩; have A8 := (A7.pure X8).keep (List.sublist_cons_self _ _); clear X8 A7 Rk yk Rp yp; have A8b := A8.perm (List.Perm.swap _ _ _); have A9 := A8b.putO ck cx cn cp cl cs
      (try clear Rr); (try clear yr); (try clear Zr)
      have Rr := cells_of (A8b.box _ m0); have yr := blk_lt (A8b.box _ m0); have Zr := free_of (A8b.box _ m0)
      (try clear Rk); (try clear yk); (try clear Zk)
      have Rk := cells_of (A8b.box _ m1); have yk := blk_lt (A8b.box _ m1)
      (try simp only at Rr yr Zr Rk yk)
      go_wp2_with fail
      have R9 := cells_of (A9.box _ m0); refine bodyPost_ret (v := .tuple #[O.val (⟨ck, cx, cn, cp, cl, cs⟩ : O), .int .i64 j, .int .i64 n, .int .i64 0]) ?_ rfl ⟨rfl, A9.keep ?_⟩
      · simp [results, Tryz.results67, go_sem, R9]
      · exact ((List.sublist_cons_self _ _).trans (List.sublist_cons_self _ _)).trans (List.sublist_cons_self _ _)
  · obtain rfl : j = n := by omega
    obtain rfl : j = i := by omega
    clear hjn; have A5b := A5.perm (List.Perm.swap _ _ _); have A9 := A5b.putO ck cx cn cp cl cs
    (try clear Rr); (try clear yr); (try clear Zr)
    have Rr := cells_of (A5b.box _ m0); have yr := blk_lt (A5b.box _ m0); have Zr := free_of (A5b.box _ m0)
    (try clear Rk); (try clear yk); (try clear Zk)
    have Rk := cells_of (A5b.box _ m1); have yk := blk_lt (A5b.box _ m1)
    (try simp only at Rr yr Zr Rk yk)
    go_wp2_with fail
    have R9 := cells_of (A9.box _ m0); refine bodyPost_ret (v := .tuple #[O.val (⟨ck, cx, cn, cp, cl, cs⟩ : O), .int .i64 j, .int .i64 j, .int .i64 0]) ?_ rfl ⟨rfl, A9.keep ?_⟩
    · simp [results, Tryz.results67, go_sem, R9]
    · exact ((List.sublist_cons_self _ _).trans (List.sublist_cons_self _ _)).trans (List.sublist_cons_self _ _)
set_option maxRecDepth 100000 in
set_option maxHeartbeats 2000000 in
theorem rfind12_err (H : RefK J0 gp L E) (A : Ats w0 w M K) (hE : ∀ q ∈ E, q ∈ K) (N : Nat) (ps : List (O × O)) (room : Nat) (D : DicAt L N (dcellk lk ps room)) (h : ps.length ≤ room) (hr : room ≤ 1000)
 (k : O) {key : O} {e : Int} (hk : keyD L k = (key, e)) (he : e ≠ 0) :
 Calls Tryz.prog 67 #[ptr gp, (dicO N).val, k.val] w fun r w' => r = .returned (.tuple #[O.nil.val, .int .i64 0, .int .i64 0, .int .i64 e]) ∧ Ats w0 w' M K := by
 have hEE : ∀ X : List (Nat × Obj), ∀ q ∈ E, q ∈ X ++ K := fun X q hq => List.mem_append_right _ (hE q hq); have HL := hid' (fun W X (A : Ats w0 W M (X ++ K)) => rlen12_any H A (hEE X) N ps room D h hr); have HK := hid' (fun W X (A : Ats w0 W M (X ++ K)) => rkey_any H A (hEE X) k hk)
 have hne : (e != 0) = true := by simpa using he
 have hne2 : (e == 0) = false := by simpa using he
 clear D hk hEE H hE; obtain ⟨kk, kx, kn, kp, kl, ks⟩ := k; obtain ⟨ck, cx, cn, cp, cl, cs⟩ := key; have A1 := ((A.alloc (Obj.cells #[.int .i64 10, .bool false, .int .i64 N, .int .i64 0, .int .i64 0, .string ⟨#[]⟩] 39)).alloc (Obj.cells #[.int .i64 kk, .bool kx, .int .i64 kn, .int .i64 kp, .int .i64 kl, .string ks] 39)).alloc (Obj.cells #[.int .i64 0, .bool false, .int .i64 0, .int .i64 0, .int .i64 0, .string ⟨#[]⟩] 39); simp only [World.size_alloc] at A1; generalize ps.length = n at *
 have hni : (n : Int) ≤ 1000 := by omega
 go_enter Tryz.func67, Tryz.ntmps67
 go_wp2_with fail
 refine (HL.out _ [_, _, _] A1).mono ?_; rintro r w1 ⟨rfl, A2⟩; simp only [List.cons_append, List.nil_append] at A2; clear A1
 (try clear Rr); (try clear yr); (try clear Zr)
 have Rr := cells_of (A2.box _ m0); have yr := blk_lt (A2.box _ m0)
 (try clear Rk); (try clear yk); (try clear Zk)
 have Rk := cells_of (A2.box _ m1); have yk := blk_lt (A2.box _ m1)
 (try clear Rd); (try clear yd); (try clear Zd)
 have Rd := cells_of (A2.box _ m2); have yd := blk_lt (A2.box _ m2)
 (try simp only at Rr yr Rk yk Rd yd)
 go_wp2_with fail
 refine (HK.out _ [_, _, _] A2).mono ?_; rintro r w2 ⟨rfl, A3⟩; simp only [List.cons_append, List.nil_append] at A3; clear A2; have A3b := A3.perm (List.Perm.swap _ _ _); have A4 := A3b.putO ck cx cn cp cl cs
 (try clear Rk); (try clear yk); (try clear Zk)
 have Rk := cells_of (A3b.box _ m0); have yk := blk_lt (A3b.box _ m0); have Zk := free_of (A3b.box _ m0)
 (try clear Rr); (try clear yr); (try clear Zr)
 have Rr := cells_of (A3b.box _ m1); have yr := blk_lt (A3b.box _ m1)
 (try clear Rd); (try clear yd); (try clear Zd)
 have Rd := cells_of (A3b.box _ m2); have yd := blk_lt (A3b.box _ m2)
 (try simp only at Rk yk Zk Rr yr Rd yd)
 go_upto_region 5 with (fail)
 generalize hW : World.setCell _ _ _ = w4 at *; clear hW A3 A3b Rk yk Zk Rr yr Rd yd; have A5 := A4.perm (List.Perm.swap _ _ _); clear A4
 (try clear Rr); (try clear yr); (try clear Zr)
 have Rr := cells_of (A5.box _ m0); have yr := blk_lt (A5.box _ m0); have Zr := free_of (A5.box _ m0)
 (try simp only at Rr yr Zr)
 have A9 := A5.putO 0 false 0 0 0 ⟨#[]⟩; go_wp2_with fail
 have R9 := cells_of (A9.box _ m0); refine bodyPost_ret (v := .tuple #[O.nil.val, .int .i64 0, .int .i64 0, .int .i64 e]) ?_ rfl ⟨rfl, A9.keep (((List.sublist_cons_self _ _).trans (List.sublist_cons_self _ _)).trans (List.sublist_cons_self _ _))⟩; simp [results, Tryz.results67, go_sem, R9, O.nil]
set_option maxRecDepth 100000 in
set_option maxHeartbeats 2000000 in
theorem rget12_of (H : RefK J0 gp L E) (A : Ats w0 w M K) (hE : ∀ q ∈ E, q ∈ K) (d k : O) (key : O) (i n e : Int)
 (HF : ∀ W X, Ats w0 W M (X ++ K) → Calls Tryz.prog 67 #[ptr gp, d.val, k.val] W fun r w' => r = .returned (.tuple #[key.val, .int .i64 i, .int .i64 n, .int .i64 e]) ∧ Ats w0 w' M (X ++ K)) (hi : 0 ≤ i) (hi1 : i ≤ 1000)
 {v : O} {f : Int} (hc : (e ≠ 0 ∧ v = O.nil ∧ f = e) ∨ (e = 0 ∧ i = n ∧ v = O.nil ∧ f = 9) ∨ (e = 0 ∧ i ≠ n ∧ getH L d (2 * i + 2) = (v, f))) :
 Calls Tryz.prog 149 #[ptr gp, d.val, k.val] w fun r w' => r = .returned (.tuple #[v.val, .int .i64 f]) ∧ Ats w0 w' M K := by
 have hEE : ∀ X : List (Nat × Obj), ∀ q ∈ E, q ∈ X ++ K := fun X q hq => List.mem_append_right _ (hE q hq); have HFH := hid' HF; obtain ⟨kk, kx, kn, kp, kl, ks⟩ := k; obtain ⟨ck, cx, cn, cp, cl, cs⟩ := key; have HGF := hid' (fun (hg : getH L d (2 * i + 2) = (v, f)) W X (A : Ats w0 W M (X ++ K)) => rget_any H A (hEE X) d (2 * i + 2) hg); obtain ⟨dk, dx, dn, dp, dl, ds⟩ := d; have A1 := ((A.alloc (Obj.cells #[.int .i64 dk, .bool dx, .int .i64 dn, .int .i64 dp, .int .i64 dl, .string ds] 39)).alloc (Obj.cells #[.int .i64 kk, .bool kx, .int .i64 kn, .int .i64 kp, .int .i64 kl, .string ks] 39)).alloc (Obj.cells #[.int .i64 0, .bool false, .int .i64 0, .int .i64 0, .int .i64 0, .string ⟨#[]⟩] 39); simp only [World.size_alloc] at A1; clear HF hEE H hE A; have hsub : ∀ a b c d : Nat × Obj, K.Sublist (a :: b :: c :: d :: K) := fun a b c d => (((List.sublist_cons_self _ _).trans (List.sublist_cons_self _ _)).trans (List.sublist_cons_self _ _)).trans (List.sublist_cons_self _ _); have HS := hid' hsub; clear hsub
 rcases hc with ⟨he, rfl, rfl⟩ | ⟨rfl, rfl, rfl, rfl⟩ | ⟨rfl, hne, hg⟩
 · have hne : (f != 0) = true := by simpa using he
   have hne2 : (f == 0) = false := by simpa using he
   clear HGF; go_enter Tryz.func149, Tryz.ntmps149
   go_wp2_with fail
   refine (HFH.out _ [_, _, _] A1).mono ?_; rintro r w1 ⟨rfl, A2⟩; simp only [List.cons_append, List.nil_append] at A2; have A3 := A2.alloc (Obj.cells #[.int .i64 ck, .bool cx, .int .i64 cn, .int .i64 cp, .int .i64 cl, .string cs] 39)
   go_upto_region 2 with (fail)
   generalize hW : w1.alloc _ = w3 at *; generalize w1.heap.size = b8 at *; clear hW A1 A2; have A4 := A3.perm (List.Perm.swap _ _ _)
   (try clear Rr); (try clear yr); (try clear Zr)
   have Rr := cells_of (A4.box _ m0); have yr := blk_lt (A4.box _ m0); have Zr := free_of (A4.box _ m0)
   (try simp only at Rr yr Zr)
   have A9 := A4.putO 0 false 0 0 0 ⟨#[]⟩; go_wp2_with fail
   have R9 := cells_of (A9.box _ m0); refine bodyPost_ret (v := .tuple #[O.nil.val, .int .i64 f]) ?_ rfl ⟨rfl, A9.keep (HS.out _ _ _ _)⟩; simp [results, Tryz.results149, go_sem, R9, O.nil]
 · clear HGF; go_enter Tryz.func149, Tryz.ntmps149
   go_wp2_with fail
   refine (HFH.out _ [_, _, _] A1).mono ?_; rintro r w1 ⟨rfl, A2⟩; simp only [List.cons_append, List.nil_append] at A2; have A3 := A2.alloc (Obj.cells #[.int .i64 ck, .bool cx, .int .i64 cn, .int .i64 cp, .int .i64 cl, .string cs] 39)
   go_upto_region 2 with (fail)
   generalize hW : w1.alloc _ = w3 at *; generalize w1.heap.size = b8 at *; clear hW A1 A2; have A4 := A3.perm (List.Perm.swap _ _ _)
   (try clear Rr); (try clear yr); (try clear Zr)
   have Rr := cells_of (A4.box _ m0); have yr := blk_lt (A4.box _ m0); have Zr := free_of (A4.box _ m0)
   (try simp only at Rr yr Zr)
   have A9 := A4.putO 0 false 0 0 0 ⟨#[]⟩; go_wp2_with fail
   have R9 := cells_of (A9.box _ m0); refine bodyPost_ret (v := .tuple #[O.nil.val, .int .i64 9]) ?_ rfl ⟨rfl, A9.keep (HS.out _ _ _ _)⟩; simp [results, Tryz.results149, go_sem, R9, O.nil]
 · have hin : (i == n) = false := by simpa using hne
   have HG := hid' (HGF.out hg); obtain ⟨vk, vx, vn, vp, vl, vs⟩ := v; have wr1 : IntKind.i64.wrap (2 * i) = 2 * i := IntWalk.i64_in _ (by omega); have wr2 : IntKind.i64.wrap (2 * i + 2) = 2 * i + 2 := IntWalk.i64_in _ (by omega); clear HGF hg hne; go_enter Tryz.func149, Tryz.ntmps149
   go_wp2_with fail
   refine (HFH.out _ [_, _, _] A1).mono ?_; rintro r w1 ⟨rfl, A2⟩; simp only [List.cons_append, List.nil_append] at A2; have A3 := A2.alloc (Obj.cells #[.int .i64 ck, .bool cx, .int .i64 cn, .int .i64 cp, .int .i64 cl, .string cs] 39)
   go_upto_region 2 with (fail)
   generalize hW : w1.alloc _ = w3 at *; generalize w1.heap.size = b8 at *; clear hW A1 A2
   (try clear Rd); (try clear yd); (try clear Zd)
   have Rd := cells_of (A3.box _ m3); have yd := blk_lt (A3.box _ m3)
   (try simp only at Rd yd)
   go_wp2_with fail
   refine (HG.out _ [_, _, _, _] A3).mono ?_; rintro r w4 ⟨rfl, A4⟩; simp only [List.cons_append, List.nil_append] at A4; have A5 := A4.perm (List.Perm.swap _ _ _); clear A3 A4
   (try clear Rr); (try clear yr); (try clear Zr)
   have Rr := cells_of (A5.box _ m0); have yr := blk_lt (A5.box _ m0); have Zr := free_of (A5.box _ m0)
   (try simp only at Rr yr Zr)
   have A9 := A5.putO vk vx vn vp vl vs; go_wp2_with fail
   have R9 := cells_of (A9.box _ m0); refine bodyPost_ret (v := .tuple #[O.val (⟨vk, vx, vn, vp, vl, vs⟩ : O), .int .i64 f]) ?_ rfl ⟨rfl, A9.keep (HS.out _ _ _ _)⟩; simp [results, Tryz.results149, go_sem, R9]
theorem found_at (ps : List (O × O)) (k v : O) : ∃ i, FoundAt ps k i ∧ ((i < ps.length ∧ ∃ kk u, ps[i]? = some (kk, u) ∧ ps.set i (kk, v) = setK ps k v ∧ ps.eraseIdx i = dropK ps k ∧ getK ps k = some u) ∨ (i = ps.length ∧ getK ps k = none ∧ setK ps k v = ps ++ [(k, v)] ∧ dropK ps k = ps)) := by
 obtain ⟨r, b, hP, hQ⟩ := place_at ps k v
 rcases hQ with ⟨rfl, kk, u, h1, h2, h3, h4⟩ | ⟨rfl, h1, h2, h3⟩
 · rcases hP with ⟨-, ⟨p, hp, hs⟩, hn⟩ | ⟨h, -⟩
   · have hl := (List.getElem?_eq_some_iff.1 hp).1; exact ⟨r, ⟨by omega, hn, fun q hq => by rw [hp] at hq; simp only [Option.some.injEq] at hq; subst hq; exact hs⟩, .inl ⟨hl, kk, u, h1, h2, h3, h4⟩⟩
   · simp at h
 · rcases hP with ⟨h, -⟩ | ⟨-, -, hn⟩
   · simp at h
   · exact ⟨ps.length, ⟨Nat.le_refl _, fun j p _ hp => hn j p hp, fun p hp => by rw [List.getElem?_eq_none (Nat.le_refl _)] at hp; simp at hp⟩, .inr ⟨rfl, h1, h2, h3⟩⟩
theorem rgetK_any (H : RefK J0 gp L E) (A : Ats w0 w M K) (hE : ∀ q ∈ E, q ∈ K) (N : Nat) (ps : List (O × O)) (room : Nat) (D : DicAt L N (dcellk lk ps room)) (h : ps.length ≤ room) (hr : room ≤ 1000)
 (k : O) {key : O} {e : Int} (hk : keyD L k = (key, e)) {v : O} {f : Int} (hc : (e ≠ 0 ∧ v = O.nil ∧ f = e) ∨ (e = 0 ∧ getK ps key = none ∧ v = O.nil ∧ f = 9) ∨ (e = 0 ∧ getK ps key = some v ∧ f = 0)) :
 Calls Tryz.prog 149 #[ptr gp, (dicO N).val, k.val] w fun r w' => r = .returned (.tuple #[v.val, .int .i64 f]) ∧ Ats w0 w' M K := by
 have hEE : ∀ X : List (Nat × Obj), ∀ q ∈ E, q ∈ X ++ K := fun X q hq => List.mem_append_right _ (hE q hq); obtain ⟨i, hF, hQ⟩ := found_at ps key O.nil; have hi1 := hF.1
 rcases hc with ⟨he, rfl, rfl⟩ | ⟨rfl, hg, rfl, rfl⟩ | ⟨rfl, hg, rfl⟩
 · exact rget12_of H A hE (dicO N) k O.nil 0 0 _ (fun W X A => rfind12_err H A (hEE X) N ps room D h hr k hk he) (by omega) (by omega) (.inl ⟨he, rfl, rfl⟩)
 · refine rget12_of H A hE (dicO N) k key i ps.length 0 (fun W X A => rfind12_any H A (hEE X) N ps room D h hr k hk i hF) (by omega) (by omega) (.inr (.inl ⟨rfl, ?_, rfl, rfl⟩))
   rcases hQ with ⟨-, kk, u, -, -, -, h4⟩ | ⟨h1, -⟩
   · rw [hg] at h4; simp at h4
   · rw [h1]
 · refine rget12_of H A hE (dicO N) k key i ps.length 0 (fun W X A => rfind12_any H A (hEE X) N ps room D h hr k hk i hF) (by omega) (by omega) (.inr (.inr ⟨rfl, ?_, ?_⟩))
   · rcases hQ with ⟨h1, -⟩ | ⟨-, h2, -⟩
     · omega
     · rw [hg] at h2; simp at h2
   · rcases hQ with ⟨h1, kk, u, h2, -, -, h4⟩ | ⟨-, h2, -⟩
     · rw [hg] at h4; simp only [Option.some.injEq] at h4; subst h4; refine D.get _ (by omega) _ ?_; show (dItems ps room)[(2 * (i : Int) + 2).toNat]? = some v; rw [show (2 * (i : Int) + 2).toNat = 2 * i + 2 by omega, dItems_at ps room h _ (by omega), if_neg (by omega), show (2 * i + 2 - 1) / 2 = i by omega, h2]; simp only; rw [if_neg (by omega)]
     · rw [hg] at h2; simp at h2
end Go.Proofs.YtoogmimbmgdflaaGreat
