/- Parts of the proof: Uxf. -/
import Derived.Test.YtoogmimbmgdflaaGreatY36
import Derived.Test.YtoogmimbmgdflaaGreatY38
namespace Go.Proofs.YtoogmimbmgdflaaGreat
open Go.RowKit
def lookF (Q : List DQ) (s : ByteArray) : O × Int := ((lookN Q (nameO s) 2).1, (lookN Q (nameO s) 2).2.2)
def lookL (Q : List DQ) (_ : List C) (s : ByteArray) : O × Int := lookF Q s
set_option maxRecDepth 100000 in
set_option maxHeartbeats 8000000 in
theorem rplain22_any {w0 w : World} {M : List (Nat × List C)} {K : List (Nat × Obj)} {gp cp : Nat} (Q : List DQ) (hQ1 : OKQ Q) (hQ2 : 2 ≤ Q.length) (X : List C) (S : RScp w0 w gp M K (hQ Q ++ X) cp (dsQ 2)) (t : Tok) (hm : mayT t = true) (h7 : t.kind ≠ 7) (h8 : t.kind ≠ 8) {L' : List C} {o : O} {e : Int} (hres : leafB (lookL Q) (hQ Q ++ X) t = (L', o, e)) :
 Calls Tryz.prog 46 #[ptr gp, ptr cp, t.val] w fun r w' => r = .returned (.tuple #[o.val, .int .i64 e]) ∧ (∃ X', L' = hQ Q ++ X') ∧ RScp w0 w' gp M K L' cp (dsQ 2) := by
 obtain ⟨tk, tn, ts, tp⟩ := t; have hk := may_kinds hm; simp only at hk h7 h8
 have hc : tk = 1 ∨ tk = 2 ∨ tk = 3 ∨ tk = 4 ∨ tk = 5 ∨ tk = 6 ∨ tk = 9 ∨ tk = 10 ∨ tk = 11 ∨ tk = 12 := by omega
 have S1 := (S.alloc (tokBox tk tn ts tp)).alloc (Obj.cells #[.int .i64 0, .bool false, .int .i64 0, .int .i64 0, .int .i64 0, .string ⟨#[]⟩] 39); simp only [World.size_alloc] at S1
 have hsz : tk = 5 → ts.size ≤ 100 := fun h => by
  subst h; obtain rfl := may_zero hm (by decide) (by decide); unfold mayT at hm; simp only [or_true, if_true, Bool.and_eq_true, decide_eq_true_eq, show ¬ (5 : Int) = 1 by decide, show ¬ (5 : Int) = 2 by decide, show ¬ (5 : Int) = 3 by decide, if_false, ne_eq, not_true_eq_false] at hm; exact hm.1
 clear hk h7 h8 S hm
 rcases hc with rfl | rfl | rfl | rfl | rfl | rfl | rfl | rfl | rfl | rfl
 · have hl := leaf_1 (F := lookL Q) (L := hQ Q ++ X) (tv := tn) (ts := ts) (tp := tp); rw [hl] at hres; simp only [Prod.mk.injEq] at hres; obtain ⟨rfl, rfl, rfl⟩ := hres; clear hl hsz; go_enter Tryz.func46, Tryz.ntmps46
   go_upto_region 1 with (fail)
   generalize hg5 : w.heap.size = b5 at *; generalize hW : World.alloc _ _ = w1 at *; clear hW hg5
   (try clear Rb); (try clear yb); (try clear Zb)
   have Rb := cells_of (S1.box _ m0); have yb := blk_lt (S1.box _ m0); have Zb := free_of (S1.box _ m0)
   (try clear Rt); (try clear yt); (try clear Zt)
   have Rt := cells_of (S1.box _ m1); have yt := blk_lt (S1.box _ m1)
   (try simp only at Rb yb Zb Rt yt)
   have S3 := S1.putO 3 false tn 0 0 ⟨#[]⟩; go_wp2_with fail
   have R3 := cells_of (S3.box _ m0); refine bodyPost_ret (v := .tuple #[O.val ⟨3, false, tn, 0, 0, ⟨#[]⟩⟩, .int .i64 0]) ?_ rfl ⟨rfl, ⟨X, rfl⟩, S3.keep ((List.sublist_cons_self _ _).trans (List.sublist_cons_self _ _))⟩; simp [results, Tryz.results46, go_sem, R3]
 · have hl := leaf_2 (F := lookL Q) (L := hQ Q ++ X) (tv := tn) (ts := ts) (tp := tp); rw [hl] at hres; simp only [Prod.mk.injEq] at hres; obtain ⟨rfl, rfl, rfl⟩ := hres; clear hl hsz; go_enter Tryz.func46, Tryz.ntmps46
   go_upto_region 1 with (fail)
   generalize hg5 : w.heap.size = b5 at *; generalize hW : World.alloc _ _ = w1 at *; clear hW hg5
   (try clear Rb); (try clear yb); (try clear Zb)
   have Rb := cells_of (S1.box _ m0); have yb := blk_lt (S1.box _ m0); have Zb := free_of (S1.box _ m0)
   (try clear Rt); (try clear yt); (try clear Zt)
   have Rt := cells_of (S1.box _ m1); have yt := blk_lt (S1.box _ m1)
   (try simp only at Rb yb Zb Rt yt)
   have S3 := S1.putO 4 false tn 0 0 ⟨#[]⟩; go_wp2_with fail
   have R3 := cells_of (S3.box _ m0); refine bodyPost_ret (v := .tuple #[O.val ⟨4, false, tn, 0, 0, ⟨#[]⟩⟩, .int .i64 0]) ?_ rfl ⟨rfl, ⟨X, rfl⟩, S3.keep ((List.sublist_cons_self _ _).trans (List.sublist_cons_self _ _))⟩; simp [results, Tryz.results46, go_sem, R3]
 · have hl := leaf_3 (F := lookL Q) (L := hQ Q ++ X) (tv := tn) (ts := ts) (tp := tp); rw [hl] at hres; simp only [Prod.mk.injEq] at hres; obtain ⟨rfl, rfl, rfl⟩ := hres; clear hl hsz; go_enter Tryz.func46, Tryz.ntmps46
   go_upto_region 1 with (fail)
   generalize hg5 : w.heap.size = b5 at *; generalize hW : World.alloc _ _ = w1 at *; clear hW hg5
   (try clear Rb); (try clear yb); (try clear Zb)
   have Rb := cells_of (S1.box _ m0); have yb := blk_lt (S1.box _ m0); have Zb := free_of (S1.box _ m0)
   (try clear Rt); (try clear yt); (try clear Zt)
   have Rt := cells_of (S1.box _ m1); have yt := blk_lt (S1.box _ m1)
   (try simp only at Rb yb Zb Rt yt)
   go_wp2_with fail
   refine (rname22_any _ _).mono ?_; rintro r w2 ⟨rfl, X2⟩; have S2 := S1.pure X2; clear S1 X2 Rb yb Zb Rt yt
   (try clear Rb); (try clear yb); (try clear Zb)
   have Rb := cells_of (S2.box _ m0); have yb := blk_lt (S2.box _ m0); have Zb := free_of (S2.box _ m0)
   (try simp only at Rb yb Zb)
   have S3 := S2.putO 5 true 0 0 0 ts; go_wp2_with fail
   have R3 := cells_of (S3.box _ m0); refine bodyPost_ret (v := .tuple #[O.val ⟨5, true, 0, 0, 0, ts⟩, .int .i64 0]) ?_ rfl ⟨rfl, ⟨X, rfl⟩, S3.keep ((List.sublist_cons_self _ _).trans (List.sublist_cons_self _ _))⟩; simp [results, Tryz.results46, go_sem, R3]
 · have hl := leaf_4 (F := lookL Q) (L := hQ Q ++ X) (tv := tn) (ts := ts) (tp := tp); rw [hl] at hres; simp only [Prod.mk.injEq] at hres; obtain ⟨rfl, rfl, rfl⟩ := hres; clear hl hsz; go_enter Tryz.func46, Tryz.ntmps46
   go_upto_region 1 with (fail)
   generalize hg5 : w.heap.size = b5 at *; generalize hW : World.alloc _ _ = w1 at *; clear hW hg5
   (try clear Rb); (try clear yb); (try clear Zb)
   have Rb := cells_of (S1.box _ m0); have yb := blk_lt (S1.box _ m0); have Zb := free_of (S1.box _ m0)
   (try clear Rt); (try clear yt); (try clear Zt)
   have Rt := cells_of (S1.box _ m1); have yt := blk_lt (S1.box _ m1)
   (try simp only at Rb yb Zb Rt yt)
   have S3 := S1.putO 5 false 0 0 0 ts; go_wp2_with fail
   have R3 := cells_of (S3.box _ m0); refine bodyPost_ret (v := .tuple #[O.val ⟨5, false, 0, 0, 0, ts⟩, .int .i64 0]) ?_ rfl ⟨rfl, ⟨X, rfl⟩, S3.keep ((List.sublist_cons_self _ _).trans (List.sublist_cons_self _ _))⟩; simp [results, Tryz.results46, go_sem, R3]
 · have hl := leaf_5 (F := lookL Q) (L := hQ Q ++ X) (tv := tn) (ts := ts) (tp := tp); rw [hl] at hres; unfold lookL lookF at hres; simp only [Prod.mk.injEq] at hres; obtain ⟨rfl, rfl, rfl⟩ := hres; have HF := hid' (fun (W : World) K' (S : RScp w0 W gp M K' (hQ Q ++ X) cp (dsQ 2)) => rfind16_any Q hQ1 X 2 hQ2 (by decide) S true ts (hsz rfl)); clear hl hsz; generalize lookN Q (nameO ts) 2 = R at *; obtain ⟨v, d0, e⟩ := R; simp only at HF ⊢; obtain ⟨vk, vx, vn, vp, vl, vs⟩ := v; go_enter Tryz.func46, Tryz.ntmps46
   go_upto_region 1 with (fail)
   generalize hg5 : w.heap.size = b5 at *; generalize hW : World.alloc _ _ = w1 at *; clear hW hg5
   (try clear Rb); (try clear yb); (try clear Zb)
   have Rb := cells_of (S1.box _ m0); have yb := blk_lt (S1.box _ m0); have Zb := free_of (S1.box _ m0)
   (try clear Rt); (try clear yt); (try clear Zt)
   have Rt := cells_of (S1.box _ m1); have yt := blk_lt (S1.box _ m1)
   (try simp only at Rb yb Zb Rt yt)
   go_wp2_with fail
   refine (rname22_any _ _).mono ?_; rintro r w2 ⟨rfl, X2⟩; have S2 := S1.pure X2; clear S1 X2 Rb yb Zb Rt yt; go_wp2_with fail
   refine (HF.out _ _ S2).mono ?_; rintro r w3 ⟨⟨d, rfl⟩, S3⟩; obtain ⟨dk, dx, dn, dp, dl, ds⟩ := d; have S4 := (S3.alloc (Obj.cells #[.int .i64 vk, .bool vx, .int .i64 vn, .int .i64 vp, .int .i64 vl, .string vs] 39)).alloc (Obj.cells #[.int .i64 dk, .bool dx, .int .i64 dn, .int .i64 dp, .int .i64 dl, .string ds] 39); simp only [World.size_alloc] at S4; generalize hg8 : w3.heap.size = b8 at *
   go_upto_region 10 with (fail)
   generalize hW : World.alloc _ _ = w4 at *; clear hW hg8 S2 S3 HF
   have S5 := S4.perm (K' := (b5 + 1, Obj.cells #[.int .i64 0, .bool false, .int .i64 0, .int .i64 0, .int .i64 0, .string ⟨#[]⟩] 39) :: (b8, Obj.cells #[.int .i64 vk, .bool vx, .int .i64 vn, .int .i64 vp, .int .i64 vl, .string vs] 39) :: (b8 + 1, Obj.cells #[.int .i64 dk, .bool dx, .int .i64 dn, .int .i64 dp, .int .i64 dl, .string ds] 39) :: (b5, tokBox 5 tn ts tp) :: K) (by
    classical refine List.perm_iff_count.2 fun z => ?_
    simp only [List.count_cons]
    omega)
   clear S4
   (try clear Rb); (try clear yb); (try clear Zb)
   have Rb := cells_of (S5.box _ m0); have yb := blk_lt (S5.box _ m0); have Zb := free_of (S5.box _ m0)
   (try clear Rv); (try clear yv); (try clear Zv)
   have Rv := cells_of (S5.box _ m1); have yv := blk_lt (S5.box _ m1)
   (try simp only at Rb yb Zb Rv yv)
   have S6 := S5.putO vk vx vn vp vl vs; go_wp2_with fail
   have R3 := cells_of (S6.box _ m0); refine bodyPost_ret (v := .tuple #[O.val ⟨vk, vx, vn, vp, vl, vs⟩, .int .i64 e]) ?_ rfl ⟨rfl, ⟨X, rfl⟩, S6.keep ((((List.sublist_cons_self _ _).trans (List.sublist_cons_self _ _)).trans (List.sublist_cons_self _ _)).trans (List.sublist_cons_self _ _))⟩; simp [results, Tryz.results46, go_sem, R3]
 · have hl := leaf_6 (F := lookL Q) (L := hQ Q ++ X) (tv := tn) (ts := ts) (tp := tp); rw [hl] at hres
   have hX : ∃ X', L' = hQ Q ++ X' := by
    unfold stringH makeH at hres; split at hres
    · simp only [Prod.mk.injEq] at hres; exact ⟨X, hres.1.symm⟩
    · split at hres
      · simp only [Prod.mk.injEq] at hres; exact ⟨X, hres.1.symm⟩
      · simp only [Prod.mk.injEq] at hres; exact ⟨X ++ [_], by rw [← hres.1, List.append_assoc]⟩
   have HX := hid' hX; have HS := hid' (fun (W : World) K' (S : RScp w0 W gp M K' (hQ Q ++ X) cp (dsQ 2)) => S.ask fun a b T => rs_string ts hres T); clear hl hsz hres hX; obtain ⟨ok, ox, on, op, ol, os⟩ := o; go_enter Tryz.func46, Tryz.ntmps46
   go_upto_region 1 with (fail)
   generalize hg5 : w.heap.size = b5 at *; generalize hW : World.alloc _ _ = w1 at *; clear hW hg5
   (try clear Rb); (try clear yb); (try clear Zb)
   have Rb := cells_of (S1.box _ m0); have yb := blk_lt (S1.box _ m0); have Zb := free_of (S1.box _ m0)
   (try clear Rt); (try clear yt); (try clear Zt)
   have Rt := cells_of (S1.box _ m1); have yt := blk_lt (S1.box _ m1)
   (try simp only at Rb yb Zb Rt yt)
   go_wp2_with fail
   refine (HS.out _ _ S1).mono ?_; rintro r w2 ⟨rfl, S2⟩; clear S1 Rb yb Zb Rt yt HS
   (try clear Rb); (try clear yb); (try clear Zb)
   have Rb := cells_of (S2.box _ m0); have yb := blk_lt (S2.box _ m0); have Zb := free_of (S2.box _ m0)
   (try simp only at Rb yb Zb)
   have S3 := S2.putO ok ox on op ol os; go_wp2_with fail
   have R3 := cells_of (S3.box _ m0); refine bodyPost_ret (v := .tuple #[O.val ⟨ok, ox, on, op, ol, os⟩, .int .i64 e]) ?_ rfl ⟨rfl, HX.out, S3.keep ((List.sublist_cons_self _ _).trans (List.sublist_cons_self _ _))⟩; simp [results, Tryz.results46, go_sem, R3]
 · have hl := (leaf_o (F := lookL Q) (L := hQ Q ++ X) (tv := tn) (ts := ts) (tp := tp) (tk := 9) (by decide) (by decide) (by decide) (by decide) (by decide) (by decide) : leafB (lookL Q) (hQ Q ++ X) ⟨9, tn, ts, tp⟩ = (hQ Q ++ X, ⟨5, true, 0, 0, 0, ⟨#[91]⟩⟩, 0))
   rw [hl] at hres; simp only [Prod.mk.injEq] at hres; obtain ⟨rfl, rfl, rfl⟩ := hres; clear hl hsz; go_enter Tryz.func46, Tryz.ntmps46
   go_upto_region 1 with (fail)
   generalize hg5 : w.heap.size = b5 at *; generalize hW : World.alloc _ _ = w1 at *; clear hW hg5
   (try clear Rb); (try clear yb); (try clear Zb)
   have Rb := cells_of (S1.box _ m0); have yb := blk_lt (S1.box _ m0); have Zb := free_of (S1.box _ m0)
   (try clear Rt); (try clear yt); (try clear Zt)
   have Rt := cells_of (S1.box _ m1); have yt := blk_lt (S1.box _ m1)
   (try simp only at Rb yb Zb Rt yt)
   go_wp2_with fail
   refine (rname22_any _ _).mono ?_; rintro r w2 ⟨rfl, X2⟩; have S2 := S1.pure X2; clear S1 X2 Rb yb Zb Rt yt
   (try clear Rb); (try clear yb); (try clear Zb)
   have Rb := cells_of (S2.box _ m0); have yb := blk_lt (S2.box _ m0); have Zb := free_of (S2.box _ m0)
   (try simp only at Rb yb Zb)
   have S3 := S2.putO 5 true 0 0 0 ⟨#[91]⟩; go_wp2_with fail
   have R3 := cells_of (S3.box _ m0); refine bodyPost_ret (v := .tuple #[O.val ⟨5, true, 0, 0, 0, ⟨#[91]⟩⟩, .int .i64 0]) ?_ rfl ⟨rfl, ⟨X, rfl⟩, S3.keep ((List.sublist_cons_self _ _).trans (List.sublist_cons_self _ _))⟩; simp [results, Tryz.results46, go_sem, R3]
 · have hl := (leaf_o (F := lookL Q) (L := hQ Q ++ X) (tv := tn) (ts := ts) (tp := tp) (tk := 10) (by decide) (by decide) (by decide) (by decide) (by decide) (by decide) : leafB (lookL Q) (hQ Q ++ X) ⟨10, tn, ts, tp⟩ = (hQ Q ++ X, ⟨5, true, 0, 0, 0, ⟨#[93]⟩⟩, 0))
   rw [hl] at hres; simp only [Prod.mk.injEq] at hres; obtain ⟨rfl, rfl, rfl⟩ := hres; clear hl hsz; go_enter Tryz.func46, Tryz.ntmps46
   go_upto_region 1 with (fail)
   generalize hg5 : w.heap.size = b5 at *; generalize hW : World.alloc _ _ = w1 at *; clear hW hg5
   (try clear Rb); (try clear yb); (try clear Zb)
   have Rb := cells_of (S1.box _ m0); have yb := blk_lt (S1.box _ m0); have Zb := free_of (S1.box _ m0)
   (try clear Rt); (try clear yt); (try clear Zt)
   have Rt := cells_of (S1.box _ m1); have yt := blk_lt (S1.box _ m1)
   (try simp only at Rb yb Zb Rt yt)
   go_wp2_with fail
   refine (rname22_any _ _).mono ?_; rintro r w2 ⟨rfl, X2⟩; have S2 := S1.pure X2; clear S1 X2 Rb yb Zb Rt yt
   (try clear Rb); (try clear yb); (try clear Zb)
   have Rb := cells_of (S2.box _ m0); have yb := blk_lt (S2.box _ m0); have Zb := free_of (S2.box _ m0)
   (try simp only at Rb yb Zb)
   have S3 := S2.putO 5 true 0 0 0 ⟨#[93]⟩; go_wp2_with fail
   have R3 := cells_of (S3.box _ m0); refine bodyPost_ret (v := .tuple #[O.val ⟨5, true, 0, 0, 0, ⟨#[93]⟩⟩, .int .i64 0]) ?_ rfl ⟨rfl, ⟨X, rfl⟩, S3.keep ((List.sublist_cons_self _ _).trans (List.sublist_cons_self _ _))⟩; simp [results, Tryz.results46, go_sem, R3]
 · have hl := (leaf_o (F := lookL Q) (L := hQ Q ++ X) (tv := tn) (ts := ts) (tp := tp) (tk := 11) (by decide) (by decide) (by decide) (by decide) (by decide) (by decide) : leafB (lookL Q) (hQ Q ++ X) ⟨11, tn, ts, tp⟩ = (hQ Q ++ X, ⟨5, true, 0, 0, 0, ⟨#[60, 60]⟩⟩, 0))
   rw [hl] at hres; simp only [Prod.mk.injEq] at hres; obtain ⟨rfl, rfl, rfl⟩ := hres; clear hl hsz; go_enter Tryz.func46, Tryz.ntmps46
   go_upto_region 1 with (fail)
   generalize hg5 : w.heap.size = b5 at *; generalize hW : World.alloc _ _ = w1 at *; clear hW hg5
   (try clear Rb); (try clear yb); (try clear Zb)
   have Rb := cells_of (S1.box _ m0); have yb := blk_lt (S1.box _ m0); have Zb := free_of (S1.box _ m0)
   (try clear Rt); (try clear yt); (try clear Zt)
   have Rt := cells_of (S1.box _ m1); have yt := blk_lt (S1.box _ m1)
   (try simp only at Rb yb Zb Rt yt)
   go_wp2_with fail
   refine (rname22_any _ _).mono ?_; rintro r w2 ⟨rfl, X2⟩; have S2 := S1.pure X2; clear S1 X2 Rb yb Zb Rt yt
   (try clear Rb); (try clear yb); (try clear Zb)
   have Rb := cells_of (S2.box _ m0); have yb := blk_lt (S2.box _ m0); have Zb := free_of (S2.box _ m0)
   (try simp only at Rb yb Zb)
   have S3 := S2.putO 5 true 0 0 0 ⟨#[60, 60]⟩; go_wp2_with fail
   have R3 := cells_of (S3.box _ m0); refine bodyPost_ret (v := .tuple #[O.val ⟨5, true, 0, 0, 0, ⟨#[60, 60]⟩⟩, .int .i64 0]) ?_ rfl ⟨rfl, ⟨X, rfl⟩, S3.keep ((List.sublist_cons_self _ _).trans (List.sublist_cons_self _ _))⟩; simp [results, Tryz.results46, go_sem, R3]
 · have hl := (leaf_o (F := lookL Q) (L := hQ Q ++ X) (tv := tn) (ts := ts) (tp := tp) (tk := 12) (by decide) (by decide) (by decide) (by decide) (by decide) (by decide) : leafB (lookL Q) (hQ Q ++ X) ⟨12, tn, ts, tp⟩ = (hQ Q ++ X, ⟨5, true, 0, 0, 0, ⟨#[62, 62]⟩⟩, 0))
   rw [hl] at hres; simp only [Prod.mk.injEq] at hres; obtain ⟨rfl, rfl, rfl⟩ := hres; clear hl hsz; go_enter Tryz.func46, Tryz.ntmps46
   go_upto_region 1 with (fail)
   generalize hg5 : w.heap.size = b5 at *; generalize hW : World.alloc _ _ = w1 at *; clear hW hg5
   (try clear Rb); (try clear yb); (try clear Zb)
   have Rb := cells_of (S1.box _ m0); have yb := blk_lt (S1.box _ m0); have Zb := free_of (S1.box _ m0)
   (try clear Rt); (try clear yt); (try clear Zt)
   have Rt := cells_of (S1.box _ m1); have yt := blk_lt (S1.box _ m1)
   (try simp only at Rb yb Zb Rt yt)
   go_wp2_with fail
   refine (rname22_any _ _).mono ?_; rintro r w2 ⟨rfl, X2⟩; have S2 := S1.pure X2; clear S1 X2 Rb yb Zb Rt yt
   (try clear Rb); (try clear yb); (try clear Zb)
   have Rb := cells_of (S2.box _ m0); have yb := blk_lt (S2.box _ m0); have Zb := free_of (S2.box _ m0)
   (try simp only at Rb yb Zb)
   have S3 := S2.putO 5 true 0 0 0 ⟨#[62, 62]⟩; go_wp2_with fail
   have R3 := cells_of (S3.box _ m0); refine bodyPost_ret (v := .tuple #[O.val ⟨5, true, 0, 0, 0, ⟨#[62, 62]⟩⟩, .int .i64 0]) ?_ rfl ⟨rfl, ⟨X, rfl⟩, S3.keep ((List.sublist_cons_self _ _).trans (List.sublist_cons_self _ _))⟩; simp [results, Tryz.results46, go_sem, R3]
end Go.Proofs.YtoogmimbmgdflaaGreat
