/- Parts of the proof: Uxb. -/
import Derived.Test.YtoogmimbmgdflaaGreatY20
import Derived.Test.YtoogmimbmgdflaaGreatY32
namespace Go.Proofs.YtoogmimbmgdflaaGreat
open Go.RowKit
section
def RScp (w0 w : World) (gp : Nat) (M : List (Nat × List C)) (K : List (Nat × Obj)) (L : List C) (sp : Nat) (ds : List O) : Prop :=
 ∃ g cap cur, ds.length ≤ cap ∧ cap ≤ maxLen ∧ cur.size = cap * 6 ∧ cur.toList.take (ds.length * 6) = ds.flatMap O.cells ∧
  RS [] w0 gp M ((g, .cells cur 39) :: (sp, .cells #[ptr gp, .slice (some ⟨g, 0, none⟩) ds.length cap] 74) :: K) L w
section
variable {J0 : List (Nat × Obj)} {w0 w w' : World} {gp : Nat} {M : List (Nat × List C)} {K : List (Nat × Obj)} {L : List C}
theorem RS.forget (T : RS J0 w0 gp M K L w) : RS [] w0 gp M K L w := by
 obtain ⟨E, ⟨J, R, lv, rows, -, h⟩, A⟩ := T; exact ⟨E, ⟨J, R, lv, rows, fun _ h => absurd h (List.not_mem_nil), h⟩, A⟩
theorem rs_setK (T : RS J0 w0 gp M K L w) (N : Nat) (ps : List (O × O)) (room : Nat) (D : DicAt L N (dcell ps room)) (h : ps.length < room) (hr : room ≤ 1000) (k v : O) {key : O} (hk : keyD L k = (key, 0)) (hmv : mayH L v = true) :
 Calls Tryz.prog 34 #[ptr gp, (dicO N).val, k.val, v.val] w fun r w' => r = .returned (.int .i64 0) ∧ RS J0 w0 gp M K (L.set N (dcell (setK ps key v) room)) w' := by
 obtain ⟨i, hF, hR⟩ := found_at ps key v
 rcases hR with ⟨hi, kk', u2, h3, h4, -, -⟩ | ⟨hi, -, h4, -⟩
 · rw [← h4]; exact rset12_any T N ps room D (by omega) hr k v hk hmv (keyD_may hk) i hF (.inl ⟨hi, rfl, kk', u2, h3, rfl⟩)
 · rw [h4]; exact rset12_any T N ps room D (by omega) hr k v hk hmv (keyD_may hk) i hF (.inr (.inl ⟨hi, h, rfl, rfl⟩))
theorem rs_nameE (k : Int) (h1 : 1 ≤ k) (h2 : k ≤ 162) (T : RS J0 w0 gp M K L w) : Calls Tryz.prog 35 #[.int .i64 k] w fun r w' => r = .returned (.string (opN k)) ∧ RS J0 w0 gp M K L w' := T.ask fun _ _ A => name15_ex A k h1 h2
end
set_option maxRecDepth 100000 in
set_option maxHeartbeats 4000000 in
theorem rnew16_ex {w0 w : World} {M : List (Nat × List C)} {K : List (Nat × Obj)} {gp : Nat} (T : RS [] w0 gp M K [] w) : Calls Tryz.prog 7 #[ptr gp] w fun r w' => ∃ sp, r = .returned (.tuple #[ptr sp, .int .i64 0]) ∧ RScp w0 w' gp M K (hQ sysQ) sp (dsQ 2) := by
 obtain ⟨E0, H0, A0⟩ := T; go_enter Tryz.func7, Tryz.ntmps7
 go_wp2_with fail
 refine (rcopy_any H0 A0).mono ?_; rintro r w1 ⟨vp, rfl, J, E2, H1, -, -, A1⟩; have A2 := A1.keep (List.sublist_append_right E2 _); clear A1 H0 A0; go_wp2_with fail
 refine (count15_ex A2).mono ?_; rintro r w2 ⟨rfl, A3⟩
 have T3 : RS J w0 gp M K [] w2 := ⟨_, H1, A3⟩
 clear A2 A3 H1; go_wp2_with fail
 refine (rs_dict _ sys_1 T3).mono ?_; rintro r w3 ⟨rfl, T4⟩; have T5 := T4.alloc (Obj.cells #[.int .i64 10, .bool false, .int .i64 0, .int .i64 0, .int .i64 0, .string ⟨#[]⟩] 39); clear T3 T4; go_wp2_with fail
 refine (rs_dict _ sys_2 T5).mono ?_; rintro r w4 ⟨rfl, T6⟩; have T7 := T6.alloc (Obj.cells #[.int .i64 10, .bool false, .int .i64 1, .int .i64 0, .int .i64 0, .string ⟨#[]⟩] 39); clear T5 T6
 go_upto_region 10 with (fail)
 generalize w3.heap.size = da at *; generalize w4.heap.size = db at *; generalize World.alloc _ _ = w5 at *
 obtain ⟨KB, hKB⟩ : ∃ KB, KB = (db, Obj.cells #[.int .i64 10, .bool false, .int .i64 1, .int .i64 0, .int .i64 0, .string ⟨#[]⟩] 39) :: (da, Obj.cells #[.int .i64 10, .bool false, .int .i64 0, .int .i64 0, .int .i64 0, .string ⟨#[]⟩] 39) :: K := ⟨_, rfl⟩
 have na : (da, Obj.cells #[.int .i64 10, .bool false, .int .i64 0, .int .i64 0, .int .i64 0, .string ⟨#[]⟩] 39) ∈ KB := by rw [hKB]; exact m1
 have nb : (db, Obj.cells #[.int .i64 10, .bool false, .int .i64 1, .int .i64 0, .int .i64 0, .string ⟨#[]⟩] 39) ∈ KB := by rw [hKB]; exact m0
 rw [← hKB] at T7; have HKB := hid' hKB; clear hKB; go_wp2_with fail
 go_loopw [9] (fun nv wr => ∃ (k : Nat), k ≤ 162 ∧ nv = .int .i64 ((k : Int) + 1) ∧ RS J w0 gp M KB (sysH k) wr) (fun nv _ => 163 - (intOf nv).toNat)
 case atStart => exact ⟨0, by omega, rfl, T7⟩
 case round =>
  obtain ⟨k, hk, rfl, T8⟩ := hrel; clear T7
  by_cases hlt : k < 162
  · have hlt' : (k : Int) < 162 := by omega
    have RC := RSx.cells (J0 := J) (w0 := w0) (gp := gp) (M := M) na; have la := blk_lt (T8.box _ na); simp only at la; have hS1 := RSx.of T8; have HT := hid' T8; have HN := hid' (fun W (T : RS J w0 gp M KB (sysH k) W) => rs_nameE ((k : Int) + 1) (by omega) (by omega) T); have HST := hid' (fun W (T : RS J w0 gp M KB (sysH k) W) => rs_setK T 0 (sysK k) 162 (sys_D k hk) (by rw [sysK_length]; exact hlt) (by decide) (nameO (opN ((k : Int) + 1))) (opO ((k : Int) + 1)) (key_self _ _ (opN_size k)) (may_op _ _ (by omega) (by omega))); rw [sysK_set k hlt, show (sysH k).set 0 (dcell (sysK (k + 1)) 162) = sysH (k + 1) from rfl] at HST
    obtain ⟨onm, hon⟩ : ∃ onm, opN ((k : Int) + 1) = onm := ⟨_, rfl⟩
    rw [hon] at HN HST
    obtain ⟨LK, hLK⟩ : ∃ LK, LK = sysH k := ⟨_, rfl⟩
    rw [← hLK] at HT HN HST; clear T8 hon hLK
    go_upto_region 13 with (fail)
    go_region_held3 (fun W' => RSx J w0 gp M KB W') (first | (with_reducible assumption) | (with_reducible exact RSx.of T6) | (with_reducible exact RSx.of T7) | (with_reducible exact RSx.drew (by with_reducible assumption)))
     (first
      | (go_at_call 35; refine (HN.out _ (by first | (with_reducible exact HT.out) | (with_reducible exact HT.out.drew))).mono ?_; rintro r w6 ⟨rfl, T6⟩)
      | (go_at_call 34; refine (HST.out _ T6).mono ?_; rintro r w7 ⟨rfl, T7⟩))
    have T9 : RS J w0 gp M KB (sysH (k + 1)) w7 := by
     have h := T7; exact h
    clear T7 HT HST HN; go_wp2_with fail
    go_roundw
    case rel => exact ⟨k + 1, by omega, by go_num, T9⟩
    case measure => simp [intOf]; omega
  · obtain rfl : k = 162 := by omega
    (try clear Ra); (try clear ya); (try clear Za)
    have Ra := cells_of (T8.box _ na); have ya := blk_lt (T8.box _ na)
    (try clear Rb); (try clear yb); (try clear Zb)
    have Rb := cells_of (T8.box _ nb); have yb := blk_lt (T8.box _ nb)
    (try simp only at Ra ya Rb yb)
    go_wp2_with fail
    refine (rs_lock _ sys_lock T8).mono ?_; rintro r w7 ⟨rfl, T9⟩
    (try clear Ra); (try clear ya); (try clear Za)
    have Ra := cells_of (T9.box _ na); have ya := blk_lt (T9.box _ na)
    (try clear Rb); (try clear yb); (try clear Zb)
    have Rb := cells_of (T9.box _ nb); have yb := blk_lt (T9.box _ nb)
    (try simp only at Ra ya Rb yb)
    have TK := hid' (T9.forget.keep (K' := K) (by rw [HKB.out]; exact (List.sublist_cons_self _ _).trans (List.sublist_cons_self _ _))); clear T8 T9; go_wp2_with fail
    go_ret2
    have h := ((TK.out.alloc (Obj.cells #[.int .i64 10, .bool false, .int .i64 0, .int .i64 0, .int .i64 0, .string ⟨#[]⟩, .int .i64 10, .bool false, .int .i64 1, .int .i64 0, .int .i64 0, .string ⟨#[]⟩] 39)).alloc (Obj.cells #[ptr gp, .slice (some ⟨w7.heap.size, 0, none⟩) 2 2] 74)).perm (List.Perm.swap _ _ _); rw [World.size_alloc] at h; exact ⟨_, rfl, w7.heap.size, 2, #[.int .i64 10, .bool false, .int .i64 0, .int .i64 0, .int .i64 0, .string ⟨#[]⟩, .int .i64 10, .bool false, .int .i64 1, .int .i64 0, .int .i64 0, .string ⟨#[]⟩], Nat.le_refl _, by decide, rfl, rfl, h⟩
end
end Go.Proofs.YtoogmimbmgdflaaGreat
