/- Parts of the proof: Rka, Rkb. -/
import Derived.Test.YtoogmimbmgdflaaGreatY15
import Derived.Test.YtoogmimbmgdflaaGreatY24
namespace Go.Proofs.YtoogmimbmgdflaaGreat
open Go.RowKit
variable {E J0 K : List (Nat × Obj)} {w w0 : World} {M : List (Nat × List C)} {gp : Nat} {L : List C}
set_option maxRecDepth 100000 in
theorem rnum10_any (o : O) {b : Bool} (hb : (sizeO o).2 = b) (w : World) : Calls Tryz.prog 142 #[o.val] w fun e w' => e = .returned (.bool b) ∧ Chg NoB w w' := by
 have HM := fun W => rmay_any o W; unfold sizeO at hb; obtain ⟨kk, kx, kn, kp, kl, ks⟩ := o; simp only at hb; generalize mayO ⟨kk, kx, kn, kp, kl, ks⟩ = m at *; have X1 := (Chg.refl NoB w).alloc (Obj.cells #[.int .i64 kk, .bool kx, .int .i64 kn, .int .i64 kp, .int .i64 kl, .string ks] 39)
 by_cases h3 : kk = 3
 · subst h3
   have e : m = b := by rw [← hb]; cases m <;> rfl
   subst e; clear hb; go_enter Tryz.func142, Tryz.ntmps142
   go_wp2_with fail
   refine (HM _).mono ?_; rintro r w1 ⟨rfl, X⟩; go_wp2_with fail
   go_ret; exact ⟨rfl, X1.pure X⟩
 by_cases h4 : kk = 4
 · subst h4
   have e : m = b := by rw [← hb]; cases m <;> rfl
   subst e; clear hb; go_enter Tryz.func142, Tryz.ntmps142
   go_wp2_with fail
   refine (HM _).mono ?_; rintro r w1 ⟨rfl, X⟩; go_wp2_with fail
   go_ret; exact ⟨rfl, X1.pure X⟩
 have e : b = false := by rw [← hb]; cases m <;> simp [h3, h4]
 subst e
 have h3' : (kk == 3) = false := by simpa using h3
 have h4' : (kk == 4) = false := by simpa using h4
 clear hb HM; go_enter Tryz.func142, Tryz.ntmps142
 go_wp2_with fail
 go_ret; exact ⟨rfl, X1⟩
theorem sizeO_fit (o : O) (h : (sizeO o).2 = true) : -140737488289792 ≤ (sizeO o).1 ∧ (sizeO o).1 ≤ 140737488289792 := by
 unfold sizeO at h ⊢
 by_cases hm : mayO o = false
 · rw [if_pos hm] at h; simp at h
 · rw [if_neg hm] at h ⊢; simp only [Bool.not_eq_false] at hm; unfold mayO at hm
   by_cases h3 : o.kind = 3
   · rw [if_pos h3]; simp [h3] at hm
     simp only; omega
   · rw [if_neg h3] at h ⊢
     by_cases h4 : o.kind = 4
     · rw [if_pos h4]; simp [h4] at hm
       simp only; omega
     · rw [if_neg h4] at h; simp at h
set_option maxRecDepth 100000 in
theorem rsize10_any (o : O) {n : Int} (h : (sizeO o).2 = true) (hn : (sizeO o).1 = n) (w : World) : Calls Tryz.prog 143 #[o.val] w fun e w' => e = .returned (.int .i64 n) ∧ Chg NoB w w' := by
 have hf := sizeO_fit o h; have hk := sizeO_num o h
 have hm : ¬ mayO o = false := by
  intro e; unfold sizeO at h; rw [if_pos e] at h; simp at h
 rw [hn] at hf; unfold sizeO at hn; rw [if_neg hm] at hn; obtain ⟨kk, kx, kn, kp, kl, ks⟩ := o; simp only at hk hn; have X1 := (Chg.refl NoB w).alloc (Obj.cells #[.int .i64 kk, .bool kx, .int .i64 kn, .int .i64 kp, .int .i64 kl, .string ks] 39)
 rcases hk with rfl | rfl
 · simp at hn
   have wr : IntKind.i64.wrap (kn * 65536) = n := by rw [hn]; exact IntWalk.i64_in _ (by omega)
   clear h hm hn; go_enter Tryz.func143, Tryz.ntmps143
   go_wp2_with fail
   go_ret; exact ⟨rfl, X1⟩
 · simp at hn
   subst hn; clear h hm; go_enter Tryz.func143, Tryz.ntmps143
   go_wp2_with fail
   go_ret; exact ⟨rfl, X1⟩
set_option maxRecDepth 100000 in
set_option maxHeartbeats 1000000 in
theorem rsame10_any (a b : O) {s : Bool} (hs : sameO a b = s) (w : World) : Calls Tryz.prog 109 #[a.val, b.val] w fun e w' => e = .returned (.bool s) ∧ Chg NoB w w' := by
 have HA := hid' (fun W => rnum10_any a (b := (sizeO a).2) rfl W); have HB := hid' (fun W => rnum10_any b (b := (sizeO b).2) rfl W); unfold sameO at hs
 by_cases hab : (sizeO a).2 = true ∧ (sizeO b).2 = true
 · rw [if_pos hab] at hs; obtain ⟨ha, hb⟩ := hab; have HSA := hid' (fun W => rsize10_any a ha rfl W); have HSB := hid' (fun W => rsize10_any b hb rfl W); rw [ha] at HA; rw [hb] at HB; have hs' : (decide ((sizeO a).1 = (sizeO b).1)) = s := hs; clear hs ha hb; generalize (sizeO a).1 = x at *; generalize (sizeO b).1 = y at *; obtain ⟨kk, kx, kn, kp, kl, ks⟩ := a; obtain ⟨dk, dx, dn, dp, dl, ds⟩ := b; have X1 := ((Chg.refl NoB w).alloc (Obj.cells #[.int .i64 kk, .bool kx, .int .i64 kn, .int .i64 kp, .int .i64 kl, .string ks] 39)).alloc (Obj.cells #[.int .i64 dk, .bool dx, .int .i64 dn, .int .i64 dp, .int .i64 dl, .string ds] 39); go_enter Tryz.func109, Tryz.ntmps109
   go_wp2_with fail
   refine (HA.out _).mono ?_; rintro r w1 ⟨rfl, X2⟩; have R1 := cells_of (X2.blk (blk_new1 w (Obj.cells #[.int .i64 kk, .bool kx, .int .i64 kn, .int .i64 kp, .int .i64 kl, .string ks] 39) (Obj.cells #[.int .i64 dk, .bool dx, .int .i64 dn, .int .i64 dp, .int .i64 dl, .string ds] 39)) id); have R0 := cells_of (X2.blk (blk_alloc (blk_new w (Obj.cells #[.int .i64 kk, .bool kx, .int .i64 kn, .int .i64 kp, .int .i64 kl, .string ks] 39)) (Obj.cells #[.int .i64 dk, .bool dx, .int .i64 dn, .int .i64 dp, .int .i64 dl, .string ds] 39)) id); go_wp2_with fail
   refine (HB.out _).mono ?_; rintro r w2 ⟨rfl, X3⟩; have Q1 := Chg.cells (S := NoB) (X3.blk (X2.blk (blk_new1 w (Obj.cells #[.int .i64 kk, .bool kx, .int .i64 kn, .int .i64 kp, .int .i64 kl, .string ks] 39) (Obj.cells #[.int .i64 dk, .bool dx, .int .i64 dn, .int .i64 dp, .int .i64 dl, .string ds] 39)) id) id) id; have Q0 := Chg.cells (S := NoB) (X3.blk (X2.blk (blk_alloc (blk_new w (Obj.cells #[.int .i64 kk, .bool kx, .int .i64 kn, .int .i64 kp, .int .i64 kl, .string ks] 39)) (Obj.cells #[.int .i64 dk, .bool dx, .int .i64 dn, .int .i64 dp, .int .i64 dl, .string ds] 39)) id) id) id; clear R1 R0; have X4 := Chg.refl NoB w2
   go_upto_region 2 with (fail)
   go_region_held3 (fun w' => Chg NoB w2 w') (first | (with_reducible assumption) | (with_reducible exact Chg.drew (by with_reducible assumption)))
    (first
     | (go_at_call 143; with_reducible refine (HSA.out _).mono ?_; rintro r w3 ⟨rfl, X5⟩; have X6 : Chg NoB w2 w3 := Chg.pure (by with_reducible assumption) X5)
     | (go_at_call 143; with_reducible refine (HSB.out _).mono ?_; rintro r w4 ⟨rfl, X7⟩; have X8 : Chg NoB w2 w4 := Chg.pure (by with_reducible assumption) X7))
   all_goals
    go_wp2_with fail
    go_ret; refine ⟨?_, ((X1.pure X2).pure X3).pure X8⟩; rw [← hs']
    by_cases e : x = y <;> simp [e]
 · rw [if_neg hab] at hs; obtain ⟨kk, kx, kn, kp, kl, ks⟩ := a; obtain ⟨dk, dx, dn, dp, dl, ds⟩ := b; have hs' : eqO ⟨kk, false, kn, kp, kl, ks⟩ ⟨dk, false, dn, dp, dl, ds⟩ = s := hs; have X1 := ((Chg.refl NoB w).alloc (Obj.cells #[.int .i64 kk, .bool kx, .int .i64 kn, .int .i64 kp, .int .i64 kl, .string ks] 39)).alloc (Obj.cells #[.int .i64 dk, .bool dx, .int .i64 dn, .int .i64 dp, .int .i64 dl, .string ds] 39); clear hs
   have nlt : w.heap.size ≠ w.heap.size + 1 := by omega
   by_cases ha : (sizeO ⟨kk, kx, kn, kp, kl, ks⟩).2 = true
   · have hb : (sizeO ⟨dk, dx, dn, dp, dl, ds⟩).2 = false := by
      rcases hq : (sizeO ⟨dk, dx, dn, dp, dl, ds⟩).2 with _ | _
      · rfl
      · exact absurd ⟨ha, hq⟩ hab
     rw [ha] at HA; rw [hb] at HB; clear hab ha hb; go_enter Tryz.func109, Tryz.ntmps109
     go_wp2_with fail
     refine (HA.out _).mono ?_; rintro r w1 ⟨rfl, X2⟩; have R1 := cells_of (X2.blk (blk_new1 w (Obj.cells #[.int .i64 kk, .bool kx, .int .i64 kn, .int .i64 kp, .int .i64 kl, .string ks] 39) (Obj.cells #[.int .i64 dk, .bool dx, .int .i64 dn, .int .i64 dp, .int .i64 dl, .string ds] 39)) id); have R0 := cells_of (X2.blk (blk_alloc (blk_new w (Obj.cells #[.int .i64 kk, .bool kx, .int .i64 kn, .int .i64 kp, .int .i64 kl, .string ks] 39)) (Obj.cells #[.int .i64 dk, .bool dx, .int .i64 dn, .int .i64 dp, .int .i64 dl, .string ds] 39)) id); go_wp2_with fail
     refine (HB.out _).mono ?_; rintro r w2 ⟨rfl, X3⟩; have b1 := X3.blk (X2.blk (blk_new1 w (Obj.cells #[.int .i64 kk, .bool kx, .int .i64 kn, .int .i64 kp, .int .i64 kl, .string ks] 39) (Obj.cells #[.int .i64 dk, .bool dx, .int .i64 dn, .int .i64 dp, .int .i64 dl, .string ds] 39)) id) id; have b0 := X3.blk (X2.blk (blk_alloc (blk_new w (Obj.cells #[.int .i64 kk, .bool kx, .int .i64 kn, .int .i64 kp, .int .i64 kl, .string ks] 39)) (Obj.cells #[.int .i64 dk, .bool dx, .int .i64 dn, .int .i64 dp, .int .i64 dl, .string ds] 39)) id) id; clear R1 R0; have R1 := cells_of b1; have R0 := cells_of b0; have Z1 := free_of b1; have Z0 := free_of b0; go_wp2_with fail
     go_ret; exact ⟨rfl, (((X1.pure X2).pure X3).setCell (Or.inr (Nat.le_refl _)) _).setCell (Or.inr (by simp)) _⟩
   · have ha' : (sizeO ⟨kk, kx, kn, kp, kl, ks⟩).2 = false := by simpa using ha
     rw [ha'] at HA; clear hab ha ha' HB; go_enter Tryz.func109, Tryz.ntmps109
     go_wp2_with fail
     refine (HA.out _).mono ?_; rintro r w1 ⟨rfl, X2⟩; have b1 := X2.blk (blk_new1 w (Obj.cells #[.int .i64 kk, .bool kx, .int .i64 kn, .int .i64 kp, .int .i64 kl, .string ks] 39) (Obj.cells #[.int .i64 dk, .bool dx, .int .i64 dn, .int .i64 dp, .int .i64 dl, .string ds] 39)) id; have b0 := X2.blk (blk_alloc (blk_new w (Obj.cells #[.int .i64 kk, .bool kx, .int .i64 kn, .int .i64 kp, .int .i64 kl, .string ks] 39)) (Obj.cells #[.int .i64 dk, .bool dx, .int .i64 dn, .int .i64 dp, .int .i64 dl, .string ds] 39)) id; have R1 := cells_of b1; have R0 := cells_of b0; have Z1 := free_of b1; have Z0 := free_of b0; go_wp2_with fail
     go_ret; exact ⟨rfl, ((X1.pure X2).setCell (Or.inr (Nat.le_refl _)) _).setCell (Or.inr (by simp)) _⟩
set_option maxRecDepth 100000 in
set_option maxHeartbeats 1000000 in
theorem rkey_any (H : RefK J0 gp L E) (A : Ats w0 w M K) (hE : ∀ q ∈ E, q ∈ K) (o : O) {key : O} {e : Int} (hr : keyD L o = (key, e)) :
 Calls Tryz.prog 108 #[ptr gp, o.val] w fun r w' => r = .returned (.tuple #[key.val, .int .i64 e]) ∧ Ats w0 w' M K := by
 have hsub : ∀ a b : Nat × Obj, K.Sublist (a :: b :: K) := fun a b => (List.sublist_cons_self _ _).trans (List.sublist_cons_self _ _); have hKK : ∀ (a b : Nat × Obj), ∀ q ∈ E, q ∈ a :: b :: K := fun a b q hq => List.mem_cons_of_mem _ (List.mem_cons_of_mem _ (hE q hq))
 obtain ⟨s, e2, hb⟩ : ∃ s e, bytesH L o = (s, e) := ⟨_, _, rfl⟩
 have HM := fun W a b (A : Ats w0 W M (a :: b :: K)) => rhmay_any H A (hKK a b) o rfl; have HB := fun W a b (A : Ats w0 W M (a :: b :: K)) => rbytes_any H A (hKK a b) o hb
 have hbz : (bytesH L o).1 = s := by rw [hb]
 unfold keyD at hr; rw [hbz] at hr; generalize mayH L o = m at *; obtain ⟨kk, kx, kn, kp, kl, ks⟩ := o; have A1 := (A.alloc (Obj.cells #[.int .i64 kk, .bool kx, .int .i64 kn, .int .i64 kp, .int .i64 kl, .string ks] 39)).alloc (Obj.cells #[.int .i64 0, .bool false, .int .i64 0, .int .i64 0, .int .i64 0, .string ⟨#[]⟩] 39); simp only [World.size_alloc] at A1; simp only at hr; clear hb hbz H hKK hE; have HMH := hid' HM; have HBH := hid' HB; clear HM HB
 by_cases h1 : kk = 1
 · rw [if_pos h1] at hr; simp only [Prod.mk.injEq] at hr; obtain ⟨rfl, rfl⟩ := hr; subst h1; go_enter Tryz.func108, Tryz.ntmps108
   go_wp2_with fail
   have R7 := cells_of (A1.box _ m0); refine bodyPost_ret (v := .tuple #[O.nil.val, .int .i64 6]) ?_ rfl ⟨rfl, A1.keep (hsub _ _)⟩; simp [results, Tryz.results108, go_sem, R7, O.nil]
 rw [if_neg h1] at hr
 have h1' : (kk == 1) = false := by simpa using h1
 cases m
 · simp only [if_true, Prod.mk.injEq] at hr; obtain ⟨rfl, rfl⟩ := hr; go_enter Tryz.func108, Tryz.ntmps108
   go_wp2_with fail
   refine (HMH.out _ _ _ A1).mono ?_; rintro r w1 ⟨rfl, A2⟩; clear A1
   (try clear Rr); (try clear yr); (try clear Zr)
   have Rr := cells_of (A2.box _ m0); have yr := blk_lt (A2.box _ m0); have Zr := free_of (A2.box _ m0)
   (try clear Rk); (try clear yk); (try clear Zk)
   have Rk := cells_of (A2.box _ m1); have yk := blk_lt (A2.box _ m1)
   (try simp only at Rr yr Zr Rk yk)
   have A7 := A2.putO 0 false 0 0 0 ⟨#[]⟩; go_wp2_with fail
   have R7 := cells_of (A7.box _ m0); refine bodyPost_ret (v := .tuple #[O.nil.val, .int .i64 1]) ?_ rfl ⟨rfl, A7.keep (hsub _ _)⟩; simp [results, Tryz.results108, go_sem, R7, O.nil]
 simp only [Bool.true_eq_false, if_false] at hr
 by_cases h8 : kk = 8
 · rw [if_pos h8] at hr; subst h8
   have hs0 : (0 : Int) ≤ s.size := by omega
   by_cases h100 : 100 < (s.size : Int)
   · rw [if_pos h100] at hr; simp only [Prod.mk.injEq] at hr; obtain ⟨rfl, rfl⟩ := hr; go_enter Tryz.func108, Tryz.ntmps108
     go_wp2_with fail
     refine (HMH.out _ _ _ A1).mono ?_; rintro r w1 ⟨rfl, A2⟩; clear A1
     (try clear Rr); (try clear yr); (try clear Zr)
     have Rr := cells_of (A2.box _ m0); have yr := blk_lt (A2.box _ m0); have Zr := free_of (A2.box _ m0)
     (try clear Rk); (try clear yk); (try clear Zk)
     have Rk := cells_of (A2.box _ m1); have yk := blk_lt (A2.box _ m1)
     (try simp only at Rr yr Zr Rk yk)
     go_wp2_with fail
     refine (HBH.out _ _ _ A2).mono ?_; rintro r w2 ⟨rfl, A3⟩; clear A2
     (try clear Rr); (try clear yr); (try clear Zr)
     have Rr := cells_of (A3.box _ m0); have yr := blk_lt (A3.box _ m0); have Zr := free_of (A3.box _ m0)
     (try clear Rk); (try clear yk); (try clear Zk)
     have Rk := cells_of (A3.box _ m1); have yk := blk_lt (A3.box _ m1)
     (try simp only at Rr yr Zr Rk yk)
     have A7 := A3.putO 0 false 0 0 0 ⟨#[]⟩; go_wp2_with fail
     have R7 := cells_of (A7.box _ m0); refine bodyPost_ret (v := .tuple #[O.nil.val, .int .i64 5]) ?_ rfl ⟨rfl, A7.keep (hsub _ _)⟩; simp [results, Tryz.results108, go_sem, R7, O.nil]
   · rw [if_neg h100] at hr; simp only [Prod.mk.injEq] at hr; obtain ⟨rfl, rfl⟩ := hr; go_enter Tryz.func108, Tryz.ntmps108
     go_wp2_with fail
     refine (HMH.out _ _ _ A1).mono ?_; rintro r w1 ⟨rfl, A2⟩; clear A1
     (try clear Rr); (try clear yr); (try clear Zr)
     have Rr := cells_of (A2.box _ m0); have yr := blk_lt (A2.box _ m0); have Zr := free_of (A2.box _ m0)
     (try clear Rk); (try clear yk); (try clear Zk)
     have Rk := cells_of (A2.box _ m1); have yk := blk_lt (A2.box _ m1)
     (try simp only at Rr yr Zr Rk yk)
     go_wp2_with fail
     refine (HBH.out _ _ _ A2).mono ?_; rintro r w2 ⟨rfl, A3⟩; clear A2
     (try clear Rr); (try clear yr); (try clear Zr)
     have Rr := cells_of (A3.box _ m0); have yr := blk_lt (A3.box _ m0); have Zr := free_of (A3.box _ m0)
     (try clear Rk); (try clear yk); (try clear Zk)
     have Rk := cells_of (A3.box _ m1); have yk := blk_lt (A3.box _ m1)
     (try simp only at Rr yr Zr Rk yk)
     have A7 := A3.putO 5 false 0 0 0 s; go_wp2_with fail
     have R7 := cells_of (A7.box _ m0); refine bodyPost_ret (v := .tuple #[O.val (⟨5, false, 0, 0, 0, s⟩ : O), .int .i64 0]) ?_ rfl ⟨rfl, A7.keep (hsub _ _)⟩; simp [results, Tryz.results108, go_sem, R7]
 · rw [if_neg h8] at hr; simp only [Prod.mk.injEq] at hr; obtain ⟨rfl, rfl⟩ := hr
   have h8' : (kk == 8) = false := by simpa using h8
   have hun : unO ⟨kk, kx, kn, kp, kl, ks⟩ = ⟨kk, false, kn, kp, kl, ks⟩ := rfl; rw [hun]; go_enter Tryz.func108, Tryz.ntmps108
   go_wp2_with fail
   refine (HMH.out _ _ _ A1).mono ?_; rintro r w1 ⟨rfl, A2⟩; clear A1
   (try clear Rr); (try clear yr); (try clear Zr)
   have Rr := cells_of (A2.box _ m0); have yr := blk_lt (A2.box _ m0); have Zr := free_of (A2.box _ m0)
   (try clear Rk); (try clear yk); (try clear Zk)
   have Rk := cells_of (A2.box _ m1); have yk := blk_lt (A2.box _ m1); have Zk := free_of (A2.box _ m1)
   (try simp only at Rr yr Zr Rk yk Zk)
   have A3 := ((A2.perm (List.Perm.swap _ _ _)).put 1 (.bool false)).perm (List.Perm.swap _ _ _); simp only [List.setIfInBounds_toArray, List.set_cons_zero, List.set_cons_succ] at A3; have A7 := A3.putO kk false kn kp kl ks; go_wp2_with fail
   have R7 := cells_of (A7.box _ m0); refine bodyPost_ret (v := .tuple #[O.val (⟨kk, false, kn, kp, kl, ks⟩ : O), .int .i64 0]) ?_ rfl ⟨rfl, A7.keep (hsub _ _)⟩; simp [results, Tryz.results108, go_sem, R7]
set_option maxRecDepth 100000 in
set_option maxHeartbeats 1000000 in
theorem rroom12_any {lk : Bool} (H : RefK J0 gp L E) (A : Ats w0 w M K) (hE : ∀ q ∈ E, q ∈ K) (N : Nat) (ps : List (O × O)) (room : Nat) (D : DicAt L N (dcellk lk ps room)) (h : ps.length ≤ room) (hr : room ≤ 1000) :
 Calls Tryz.prog 68 #[ptr gp, (dicO N).val] w fun r w' => r = .returned (.tuple #[.int .i64 room, .int .i64 0]) ∧ Ats w0 w' M K := by
 have hlen := dItems_length ps room h; have hKK : ∀ a, ∀ q ∈ E, q ∈ a :: K := fun a q hq => List.mem_cons_of_mem _ (hE q hq); have HM := hid' (fun W a (A : Ats w0 W M (a :: K)) => rhmay_any H A (hKK a) (dicO N) D.may); have hs := D.sizeOf; simp only [hlen] at hs; have HS := hid' (fun W a (A : Ats w0 W M (a :: K)) => rsizeh_any H A (hKK a) (dicO N) hs); have A1 := A.alloc (Obj.cells #[.int .i64 10, .bool false, .int .i64 N, .int .i64 0, .int .i64 0, .string ⟨#[]⟩] 39)
 have wr : IntKind.i64.wrap (((2 * room + 1 : Nat) : Int) - 1) = 2 * room := by rw [IntWalk.i64_in _ (by push_cast; omega)]; push_cast; omega
 have wr2 : Int.tdiv (2 * (room : Int)) 2 = room := Int.mul_tdiv_cancel_left _ (by decide); have wr3 : IntKind.i64.wrap (room : Int) = room := IntWalk.i64_in _ (by omega)
 obtain ⟨rm, hrm⟩ : ∃ rm, 2 * room + 1 = rm := ⟨_, rfl⟩
 rw [hrm] at HS wr; clear hs hlen D h hE hKK H hrm; go_enter Tryz.func68, Tryz.ntmps68
 go_wp2_with fail
 refine (HM.out _ _ A1).mono ?_; rintro r w1 ⟨rfl, A2⟩; clear A1
 (try clear Rk); (try clear yk); (try clear Zk)
 have Rk := cells_of (A2.box _ m0); have yk := blk_lt (A2.box _ m0)
 (try simp only at Rk yk)
 go_wp2_with fail
 refine (HS.out _ _ A2).mono ?_; rintro r w2 ⟨rfl, A3⟩; go_wp2_with fail
 go_ret2
 exact ⟨by simp, A3.keep (List.sublist_cons_self _ _)⟩
set_option maxRecDepth 100000 in
set_option maxHeartbeats 1000000 in
theorem rlen12_any {lk : Bool} (H : RefK J0 gp L E) (A : Ats w0 w M K) (hE : ∀ q ∈ E, q ∈ K) (N : Nat) (ps : List (O × O)) (room : Nat) (D : DicAt L N (dcellk lk ps room)) (h : ps.length ≤ room) (hr : room ≤ 1000) :
 Calls Tryz.prog 107 #[ptr gp, (dicO N).val] w fun r w' => r = .returned (.tuple #[.int .i64 ps.length, .int .i64 0]) ∧ Ats w0 w' M K := by
 have hKK : ∀ a, ∀ q ∈ E, q ∈ a :: K := fun a q hq => List.mem_cons_of_mem _ (hE q hq); have HR := hid' (fun W a (A : Ats w0 W M (a :: K)) => rroom12_any H A (hKK a) N ps room D h hr)
 have e0 : (dcellk lk ps room).items[(0 : Int).toNat]? = some (numO ps.length) := by simp [dItems]
 have hg := D.get 0 (by omega) _ e0; have HG := hid' (fun W a (A : Ats w0 W M (a :: K)) => rget_any H A (hKK a) (dicO N) 0 hg); have A1 := A.alloc (Obj.cells #[.int .i64 10, .bool false, .int .i64 N, .int .i64 0, .int .i64 0, .string ⟨#[]⟩] 39)
 obtain ⟨n, hn⟩ : ∃ n, ps.length = n := ⟨_, rfl⟩
 rw [hn] at h HG ⊢
 have hni : (n : Int) ≤ room := by omega
 have hn0 : (0 : Int) ≤ n := by omega
 have hmx : max (n : Int) 0 = n := by omega
 have hmn : min (n : Int) room = n := by omega
 clear e0 hg D hE hKK H hn; go_enter Tryz.func107, Tryz.ntmps107
 go_wp2_with fail
 refine (HR.out _ _ A1).mono ?_; rintro r w1 ⟨rfl, A2⟩; clear A1
 (try clear Rk); (try clear yk); (try clear Zk)
 have Rk := cells_of (A2.box _ m0); have yk := blk_lt (A2.box _ m0)
 (try simp only at Rk yk)
 go_wp2_with fail
 refine (HG.out _ _ A2).mono ?_; rintro r w2 ⟨rfl, A3⟩; go_wp2_with fail
 go_ret2
 exact ⟨by simp, (A3.pure ((Chg.refl NoB w2).alloc _)).keep (List.sublist_cons_self _ _)⟩
end Go.Proofs.YtoogmimbmgdflaaGreat
