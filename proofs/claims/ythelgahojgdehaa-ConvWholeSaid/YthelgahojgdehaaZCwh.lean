/- Walk: tympanlaw21.ConvWhole. -/
import Derived.Test.YthelgahojgdehaaZCkn
namespace Go.Proofs.Ythelgahojgdehaa
open Go.RowKit

theorem num_plain {w0 : World} {M : List (Nat × List C)} (o : O) (hp : Nat) (hk : o.kind ≠ 8) : ∀ w' K', Ats w0 w' M K' → Calls Try.prog 61 #[ptr hp, o.val] w' fun e w2 => e = .returned (.tuple #[o.val, .int .i64 0]) ∧ Ats w0 w2 M K' :=
  fun _ _ A => (at_numP o hp hk _).mono fun _ _ ⟨h1, h2⟩ => ⟨h1, A.pure h2⟩
theorem isN3 : isK 1792 3 = false := by decide +kernel
theorem isN4 : isK 1792 4 = false := by decide +kernel
theorem mul_tdiv (k : Int) : (k * 65536).tdiv 65536 = k := Int.mul_tdiv_cancel _ (by decide)
set_option maxRecDepth 100000 in
set_option maxHeartbeats 2000000 in
theorem convWhole_any (v n : Int) (l1 : -32768 ≤ n) (u1 : n < 32768) (w : World) :
    Calls Try.prog 5 #[.int .i64 v, .int .i16 n] w fun e w' => e = .returned (.bool true) ∧ Chg NoB w w' := by
  have hP := place_any v 2147483647 (by decide) (by decide)
  have f0 := Int.emod_nonneg v (show (2147483647 : Int) ≠ 0 by decide)
  have f1 := Int.emod_lt_of_pos v (show (0 : Int) < 2147483647 by decide)
  obtain ⟨p, hp⟩ : ∃ p, v % 2147483647 = p := ⟨_, rfl⟩
  rw [hp] at hP f0 f1
  have HP := hid' hP
  obtain ⟨f, hf⟩ : ∃ f, p - 1073741823 = f := ⟨_, rfl⟩
  have g0 : -1073741823 ≤ f := by omega
  have g1 : f ≤ 1073741823 := by omega
  obtain ⟨k, hk⟩ : ∃ k, n.tmod 16000 = k := ⟨_, rfl⟩
  have k01 : -16000 < k ∧ k < 16000 := by
    rw [← hk]
    by_cases c : 0 ≤ n
    · rw [Int.tmod_eq_emod_of_nonneg c]; omega
    · obtain ⟨u, rfl⟩ : ∃ u, n = -u := ⟨-n, by omega⟩
      rw [Int.neg_tmod, Int.tmod_eq_emod_of_nonneg (by omega)]; omega
  obtain ⟨k0, k1⟩ := k01
  have kw := IntWalk.i64_in k (by omega)
  have HW1 := hid' (fun (hp : Nat) (w' : World) (K' : List (Nat × Obj)) (A : Ats w w' [(hp, [])] K') => at_whole A (fO f) (fO f) (num_plain _ hp (by simp)) (fun _ => ⟨g0, g1⟩))
  have HW2 := hid' (fun (hp : Nat) (w' : World) (K' : List (Nat × Obj)) (A : Ats w w' [(hp, [])] K') => at_fixed A (iO k) (iO k) (num_plain _ hp (by simp)) (fun _ => ⟨rfl, by simp only; omega, by simp only; omega⟩))
  have HW3 := hid' (fun (hp : Nat) (w' : World) (K' : List (Nat × Obj)) (A : Ats w w' [(hp, [])] K') => at_whole A (fO (k * 65536)) (fO (k * 65536)) (num_plain _ hp (by simp)) (fun _ => ⟨by simp only; omega, by simp only; omega⟩))
  have e1 : wholeO (fO f) = iO (f.tdiv 65536) := rfl
  have e2 : fixedO (iO k) = fO (k * 65536) := rfl
  have e3 : wholeO (fO (k * 65536)) = iO k := by rw [show wholeO (fO (k * 65536)) = iO ((k * 65536).tdiv 65536) from rfl, mul_tdiv]
  have tq := tdiv_rng f g0 g1
  have tw := IntWalk.i64_in (f.tdiv 65536) (by omega)
  have M1 := mayI (f.tdiv 65536) (by omega) (by omega)
  have M2 := mayF (k * 65536) (by omega) (by omega)
  have M3 := mayI k (by omega) (by omega)
  have M0 := mayF f g0 g1
  rw [e1] at HW1
  rw [e2] at HW2
  rw [e3] at HW3
  have HD1 := hid' (fun (hp sp : Nat) (w' : World) (K' : List (Nat × Obj)) (S' : StkAt w w' [(hp, [])] K' sp ([] ++ [fO f])) => conv_cvi S' m0 (isK_280 4 (by decide)) (held_not isN4) M1 (HW1.out hp) (M' := []))
  have HD2 := hid' (fun (hp sp : Nat) (w' : World) (K' : List (Nat × Obj)) (S' : StkAt w w' [(hp, [])] K' sp ([] ++ [iO k])) => conv_cvr S' m0 (isK_280 3 (by decide)) (held_not isN3) M2 (HW2.out hp) (M' := []))
  have HD3 := hid' (fun (hp sp : Nat) (w' : World) (K' : List (Nat × Obj)) (S' : StkAt w w' [(hp, [])] K' sp ([] ++ [fO (k * 65536)])) => conv_cvi S' m0 (isK_280 4 (by decide)) (held_not isN4) M3 (HW3.out hp) (M' := []))
  have q1 : eqO ⟨3, false, f.tdiv 65536, 0, 0, ⟨#[]⟩⟩ ⟨3, false, f.tdiv 65536, 0, 0, ⟨#[]⟩⟩ = true := eqO_self _
  have q2 : eqO ⟨3, false, k, 0, 0, ⟨#[]⟩⟩ ⟨3, false, k, 0, 0, ⟨#[]⟩⟩ = true := eqO_self _
  have HM0 := hid' M0
  have HM3 := hid' M3
  clear M0 M1 M2 M3 e1 e2 e3 hP hp HW1 HW2 HW3
  have HF := hid' hf
  go_enter Try.func5, Try.ntmps5
  go_wp2_with fail
  refine (known21_any w).mono ?_
  rintro r w1 ⟨rfl, X1⟩
  go_wp2_with fail
  refine (fresh21_any (Ats.start X1)).mono ?_
  rintro r w2 ⟨hp, sp, rfl, S2⟩
  have S3 := S2.alloc (wBox hp sp)
  (try clear Ra); (try clear ya); (try clear Za)
  have Ra := cells_of (S3.box _ m0)
  have ya := blk_lt (S3.box _ m0)
  (try simp only at Ra ya)
  go_wp2_with fail
  refine (HP.out _).mono ?_
  rintro r w4 ⟨rfl, rfl⟩
  have S4 := S3.alloc (obox (fO f))
  simp only [World.size_alloc] at S4
  clear S3
  (try clear Ra); (try clear ya); (try clear Za)
  have Ra := cells_of (S4.box _ m1)
  have ya := blk_lt (S4.box _ m1)
  (try simp only at Ra ya)
  go_wp2_with fail
  refine (do21_any S4 1 (gv := [fO f]) rfl (by decide) (fun o ho => by rw [List.mem_singleton.1 ho]; exact HM0.out) _ 1 (by decide) (read_one (fO f) m0) ⟨#[99, 118, 105]⟩ 76 0 true op_cvi (fun w' K' S' => HD1.out hp sp w' K' S')).mono ?_
  rintro r w5 ⟨rfl, S5⟩
  (try clear Ra); (try clear ya); (try clear Za)
  have Ra := cells_of (S5.box _ m1)
  have ya := blk_lt (S5.box _ m1)
  (try simp only at Ra ya)
  clear S4
  go_wp2_with fail
  refine (top21_any (l := []) (o := iO (f.tdiv 65536)) S5 m0 ⟨#[]⟩ 6 (bytes_not _ _ rfl)).mono ?_
  rintro r w6 ⟨rfl, S6⟩
  have S7 := S6.alloc (obox (iO (f.tdiv 65536)))
  (try clear Ra); (try clear ya); (try clear Za)
  have Ra := cells_of (S7.box _ m2)
  have ya := blk_lt (S7.box _ m2)
  (try simp only at Ra ya)
  clear S5 S6
  go_upto_region 8 with (fail)
  generalize hW : w6.alloc _ = w7 at *
  clear hW
  obtain ⟨KB, hKB⟩ : ∃ KB : List (Nat × Obj), KB = [(w6.heap.size, obox (iO (f.tdiv 65536))), (w2.heap.size + 1, obox (fO f)), (w2.heap.size, wBox hp sp)] := ⟨_, rfl⟩
  rw [← hKB] at S7
  have RW := WS.cells (w0 := w) (hp := hp) (sp := sp) (KB := KB) (g := w2.heap.size) (cs := #[ptr hp, ptr sp]) (T := 26) (fz := (0, 0)) (by rw [hKB]; exact m2)
  have HS := hid' S7
  have hS := WS.of0 S7
  have HKB := hid' hKB
  clear Ra ya S7 hKB
  go_region_held3 (fun W' => WS w hp sp KB W') (first | (with_reducible assumption) | (with_reducible exact WS.of1 S9) | (with_reducible exact WS.of0 S8) | (with_reducible exact WS.of0 (HS.out.drew)) | (with_reducible exact WS.drew (by with_reducible assumption)) | (with_reducible exact WS.alloc (by with_reducible assumption) _))
    (first | (go_at_call 9; refine (num21_any _ _).mono ?_; rintro r w8 ⟨rfl, X8⟩; have S8 := StkAt.pure (by first | exact HS.out | exact HS.out.drew) X8) | (go_at_call 13; refine (do21_any (S8.alloc (obox (iO k))) 1 (gv := [iO k]) rfl (by decide) (fun o ho => by rw [List.mem_singleton.1 ho]; exact HM3.out) _ 1 (by decide) (read_one (iO k) m0) ⟨#[99, 118, 114]⟩ 77 0 true op_cvr (fun w' K' S' => HD2.out hp sp w' K' S')).mono ?_; rintro r w9 ⟨rfl, S9⟩))
  have S10 := S9.keep (List.sublist_cons_self _ _)
  have mW : (w2.heap.size, wBox hp sp) ∈ KB := by rw [HKB.out]; exact m2
  have m8 : (w6.heap.size, obox (iO (f.tdiv 65536))) ∈ KB := by rw [HKB.out]; exact m0
  (try clear Ra); (try clear ya); (try clear Za)
  have Ra := cells_of (S10.box _ mW)
  have ya := blk_lt (S10.box _ mW)
  (try simp only at Ra ya)
  clear hS S8 S9 X8 RW HS
  go_wp2_with fail
  refine (do21_any S10 0 (gv := []) rfl (by simp [didL]) (by simp) none 0 (by decide) (fun m o h => by simp at h) ⟨#[99, 118, 105]⟩ 76 0 true op_cvi (fun w' K' S' => HD3.out hp sp w' K' S')).mono ?_
  rintro r w11 ⟨rfl, S11⟩
  (try clear Ra); (try clear ya); (try clear Za)
  have Ra := cells_of (S11.box _ mW)
  have ya := blk_lt (S11.box _ mW)
  (try simp only at Ra ya)
  clear S10
  go_wp2_with fail
  refine (top21_any (l := []) (o := iO k) S11 m0 ⟨#[]⟩ 6 (bytes_not _ _ rfl)).mono ?_
  rintro r w12 ⟨rfl, S12⟩
  have S13 := S12.alloc (obox (iO k))
  have mW' := List.mem_cons_of_mem (w12.heap.size, obox (iO k)) mW
  have m8' := List.mem_cons_of_mem (w12.heap.size, obox (iO k)) m8
  clear S11 S12 Ra ya
  go_upto_region 11 with (fail)
  generalize w12.alloc _ = w13 at *
  have HX := hid' S13.chg
  have HLEN := hid' (fun (W' : World) (X : Chg NoB w13 W') => stk_len (S13.pure X))
  have RW := Chg.cells (S := NoB) (S13.box _ mW') id
  have R8 := Chg.cells (S := NoB) (S13.box _ m8') id
  have R13 := Chg.cells (S := NoB) (S13.box _ m0) id
  clear S13 mW mW' m8 m8'
  simp only at RW R8 R13
  go_region_held3 (fun W' => Chg NoB w13 W') (first | (with_reducible assumption) | (with_reducible exact (Chg.refl _ _).drew) | (with_reducible exact Chg.drew (by with_reducible assumption)) | (with_reducible exact Chg.pure (by with_reducible assumption) (by with_reducible assumption)))
    (first | (go_at_call 9; refine (num21_any _ _).mono ?_; rintro r w14 ⟨rfl, X14⟩) | (go_at_call 15; refine (HLEN.out _ (by with_reducible assumption)).mono ?_; rintro r w15 ⟨rfl, rfl⟩))
  go_wp2_with fail
  go_ret
  exact ⟨rfl, HX.out.pure (by with_reducible assumption)⟩
end Go.Proofs.Ythelgahojgdehaa
