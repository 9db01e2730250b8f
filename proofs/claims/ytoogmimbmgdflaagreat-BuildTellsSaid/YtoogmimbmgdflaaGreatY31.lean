/- Parts of the proof: Rke, Dpb, Urn. -/
import Derived.Test.YtoogmimbmgdflaaGreatY26
import Derived.Test.YtoogmimbmgdflaaGreatY30
namespace Go.Proofs.YtoogmimbmgdflaaGreat
open Go.RowKit
variable {L : List C}
section
def RS (J0 : List (Nat × Obj)) (w0 : World) (gp : Nat) (M : List (Nat × List C)) (K : List (Nat × Obj)) (L : List C) (W : World) : Prop := ∃ E, RefK J0 gp L E ∧ Ats w0 W M (E ++ K)
def RF (J0 : List (Nat × Obj)) (w0 : World) (gp : Nat) (M : List (Nat × List C)) (E K : List (Nat × Obj)) (L : List C) (W : World) : Prop := RefK J0 gp L E ∧ Ats w0 W M (E ++ K)
section
variable {J0 : List (Nat × Obj)} {w0 w w' : World} {gp : Nat} {M : List (Nat × List C)} {E K : List (Nat × Obj)} {L : List C}
theorem RS.pure (T : RS J0 w0 gp M K L w) (X : Chg NoB w w') : RS J0 w0 gp M K L w' := by obtain ⟨E, H, A⟩ := T; exact ⟨E, H, A.pure X⟩
theorem RS.drew (T : RS J0 w0 gp M K L w) : RS J0 w0 gp M K L w.drew := by obtain ⟨E, H, A⟩ := T; exact ⟨E, H, A.drew⟩
theorem RS.box (T : RS J0 w0 gp M K L w) (q : Nat × Obj) (hq : q ∈ K) : w.heap[q.1]? = some q.2 := by obtain ⟨E, H, A⟩ := T; exact A.box q (List.mem_append_right _ hq)
theorem RS.keep {K' : List (Nat × Obj)} (T : RS J0 w0 gp M K L w) (h : K'.Sublist K) : RS J0 w0 gp M K' L w := by obtain ⟨E, H, A⟩ := T; exact ⟨E, H, A.keep (List.Sublist.append_left h _)⟩
theorem RS.perm {K' : List (Nat × Obj)} (T : RS J0 w0 gp M K L w) (h : K.Perm K') : RS J0 w0 gp M K' L w := by obtain ⟨E, H, A⟩ := T; exact ⟨E, H, A.perm (h.append_left _)⟩
theorem RS.alloc (T : RS J0 w0 gp M K L w) (o : Obj) : RS J0 w0 gp M ((w.heap.size, o) :: K) L (w.alloc o) := by obtain ⟨E, H, A⟩ := T; exact ⟨E, H, (A.alloc o).perm List.perm_middle.symm⟩
theorem RS.putO {b : Nat} {c0 c1 c2 c3 c4 c5 : Value} {T' : TypeId} (T : RS J0 w0 gp M ((b, .cells #[c0, c1, c2, c3, c4, c5] T') :: K) L w) (kk : Int) (kx : Bool) (kn kp kl : Int) (ks : ByteArray) :
 RS J0 w0 gp M ((b, .cells #[.int .i64 kk, .bool kx, .int .i64 kn, .int .i64 kp, .int .i64 kl, .string ks] T') :: K) L ((((((w.setCell ⟨b, 0, none⟩ (.int .i64 kk)).setCell ⟨b, 1, none⟩ (.bool kx)).setCell ⟨b, 2, none⟩ (.int .i64 kn)).setCell ⟨b, 3, none⟩ (.int .i64 kp)).setCell ⟨b, 4, none⟩ (.int .i64 kl)).setCell ⟨b, 5, none⟩ (.string ks)) := by
 obtain ⟨E, H, A⟩ := T; exact ⟨E, H, ((A.perm List.perm_middle).putO kk kx kn kp kl ks).perm List.perm_middle.symm⟩
theorem RS.ask {f : Nat} {args : Array Value} {r : Value} (T : RS J0 w0 gp M K L w) (h : ∀ E, RefK J0 gp L E → Ats w0 w M (E ++ K) → Calls Tryz.prog f args w fun e w' => e = .returned r ∧ Ats w0 w' M (E ++ K)) :
 Calls Tryz.prog f args w fun e w' => e = .returned r ∧ RS J0 w0 gp M K L w' := by
 obtain ⟨E, H, A⟩ := T; exact (h E H A).mono fun e w' ⟨h1, h2⟩ => ⟨h1, E, H, h2⟩
theorem rs_setN (o : O) (i : Int) (x : O) {L' : List C} {e : Int} (hox : o.kind ≠ 8 ∨ x.kind ≠ 3) (hr : setH L o i x = (L', e)) (T : RS J0 w0 gp M K L w) : Calls Tryz.prog 69 #[ptr gp, o.val, .int .i64 i, x.val] w fun r w' => r = .returned (.int .i64 e) ∧ RS J0 w0 gp M K L' w' := by
 obtain ⟨E, H, A⟩ := T; exact (rset_anyN H A o i x hox hr).mono fun e w' ⟨h1, E', h2, h3⟩ => ⟨h1, E', h2, h3⟩
theorem rs_get (o : O) (i : Int) {o' : O} {e : Int} (hr : getH L o i = (o', e)) (T : RS J0 w0 gp M K L w) : Calls Tryz.prog 93 #[ptr gp, o.val, .int .i64 i] w fun r w' => r = .returned (.tuple #[o'.val, .int .i64 e]) ∧ RS J0 w0 gp M K L w' := T.ask fun _ H A => rget_any H A (fun _q hq => List.mem_append_left _ hq) o i hr
theorem RF.drew (h : RF J0 w0 gp M E K L w) : RF J0 w0 gp M E K L w.drew := ⟨h.1, h.2.drew⟩
theorem RF.rs (h : RF J0 w0 gp M E K L w) : RS J0 w0 gp M K L w := ⟨E, h.1, h.2⟩
theorem RF.cells {g : Nat} {cs : Array Value} {T : TypeId} {fz : Nat × Nat} (hm : (g, Obj.cells cs T fz) ∈ K) : ∀ W, RF J0 w0 gp M E K L W → ∀ i, W.cell? ⟨g, i, none⟩ = cs[i]? := fun _W h => cells_of (h.2.box _ (List.mem_append_right _ hm))
theorem RF.cellsE {g : Nat} {cs : Array Value} {T : TypeId} {fz : Nat × Nat} (hm : (g, Obj.cells cs T fz) ∈ E) : ∀ W, RF J0 w0 gp M E K L W → ∀ i, W.cell? ⟨g, i, none⟩ = cs[i]? := fun _W h => cells_of (h.2.box _ (List.mem_append_left _ hm))
theorem rf_may (o : O) {b : Bool} (hr : mayH L o = b) (T : RF J0 w0 gp M E K L w) : Calls Tryz.prog 50 #[ptr gp, o.val] w fun r w' => r = .returned (.bool b) ∧ RF J0 w0 gp M E K L w' := (rhmay_any T.1 T.2 (fun _q hq => List.mem_append_left _ hq) o hr).mono fun _e _w' ⟨h1, h2⟩ => ⟨h1, T.1, h2⟩
end
theorem set_push {N : Nat} {ps : List (O × O)} {room : Nat} (D : DicAt L N (dcell ps room)) (hr : room ≤ 1000) (hlt : ps.length < room) (key v : O) (hmk : mayH L key = true) (hmv : mayH L v = true) :
 ∃ L1 L2, setH L (dicO N) (2 * (ps.length : Int) + 1) key = (L1, 0) ∧ setH L1 (dicO N) 0 (numO ((ps.length : Int) + 1)) = (L2, 0) ∧ setH L2 (dicO N) (2 * (ps.length : Int) + 2) v = (L.set N (dcell (ps ++ [(key, v)]) room), 0) := by
 have hdl := dItems_length ps room (by omega); obtain ⟨s1, D1, m1⟩ := D.step (2 * ps.length + 1) (by simp [hdl]; omega) key hmk; obtain ⟨s2, D2, m2⟩ := D1.step 0 (by simp [hdl]) (numO ((ps.length : Int) + 1)) (may_num _ _ (by omega) (by omega)); obtain ⟨s3, -, -⟩ := D2.step (2 * ps.length + 2) (by simp [hdl]; omega) v (by rw [m2, m1]; exact hmv); rw [show ((2 * ps.length + 1 : Nat) : Int) = 2 * (ps.length : Int) + 1 by omega] at s1; rw [show ((2 * ps.length + 2 : Nat) : Int) = 2 * (ps.length : Int) + 2 by omega] at s3
 have e : ((((dItems ps room).set (2 * ps.length + 1) key).set 0 (numO ((ps.length : Int) + 1))).set (2 * ps.length + 2) v) = dItems (ps ++ [(key, v)]) room := by
  rw [← dItems_push ps room hlt key v]; exact List.set_comm _ _ (by omega)
 simp only [set_set_same, e] at s3; exact ⟨_, _, s1, s2, by rw [set_set_same]; exact s3⟩
set_option maxRecDepth 100000 in
set_option maxHeartbeats 4000000 in
theorem rset12_any {J0 : List (Nat × Obj)} {w0 w : World} {M : List (Nat × List C)} {K : List (Nat × Obj)} {gp : Nat} (T : RS J0 w0 gp M K L w) (N : Nat) (ps : List (O × O)) (room : Nat) (D : DicAt L N (dcell ps room)) (h : ps.length ≤ room) (hr : room ≤ 1000)
 (k v : O) {key : O} (hk : keyD L k = (key, 0)) (hmv : mayH L v = true) (hmk : mayH L key = true) (i : Nat) (hF : FoundAt ps key i) {L' : List C} {e : Int}
 (hc : (i < ps.length ∧ e = 0 ∧ ∃ kk u, ps[i]? = some (kk, u) ∧ L' = L.set N (dcell (ps.set i (kk, v)) room)) ∨ (i = ps.length ∧ ps.length < room ∧ e = 0 ∧ L' = L.set N (dcell (ps ++ [(key, v)]) room)) ∨ (i = ps.length ∧ ps.length = room ∧ e = 20 ∧ L' = L)) :
 Calls Tryz.prog 34 #[ptr gp, (dicO N).val, k.val, v.val] w fun r w' => r = .returned (.int .i64 e) ∧ RS J0 w0 gp M K L' w' := by
 have HF := hid' (fun W K' (T : RS J0 w0 gp M K' L W) => T.ask fun E H A => rfind12_any H A (fun q hq => List.mem_append_left _ hq) N ps room D h hr k hk i hF); have HRM := hid' (fun W K' (T : RS J0 w0 gp M K' L W) => T.ask fun E H A => rroom12_any H A (fun q hq => List.mem_append_left _ hq) N ps room D h hr); have HM := hid' (fun W E K' (T : RF J0 w0 gp M E K' L W) => rf_may v hmv T); have HP := hid' (fun hlt => set_push D hr hlt key v hmk hmv); have HT := hid' (fun kk u (hu : ps[i]? = some (kk, u)) => set_there D h i kk u v hu hmv); have hi1 := hF.1; have hcell := D.cell; obtain ⟨kk, kx, kn, kp, kl, ks⟩ := k; obtain ⟨ck, cx, cn, cp, cl, cs⟩ := key; obtain ⟨vk, vx, vn, vp, vl, vs⟩ := v; have T1 := ((T.alloc (Obj.cells #[.int .i64 10, .bool false, .int .i64 N, .int .i64 0, .int .i64 0, .string ⟨#[]⟩] 39)).alloc (Obj.cells #[.int .i64 kk, .bool kx, .int .i64 kn, .int .i64 kp, .int .i64 kl, .string ks] 39)).alloc (Obj.cells #[.int .i64 vk, .bool vx, .int .i64 vn, .int .i64 vp, .int .i64 vl, .string vs] 39); simp only [World.size_alloc] at T1; have HPS := hid' (rfl : ps.length = ps.length)
 obtain ⟨n, hn⟩ : ∃ n, ps.length = n := ⟨_, rfl⟩
 rw [hn] at HF h hi1 HP hc; have HCC := hid' hc; have HN := hid' hn
 have hn9 : (n : Int) ≤ 1000 := by omega
 have hi9 : (i : Int) ≤ 1000 := by omega
 obtain ⟨b5, hb5⟩ : ∃ b5, w.heap.size = b5 := ⟨_, rfl⟩
 clear hk hmv hmk hF hc D HPS hn T; go_enter Tryz.func34, Tryz.ntmps34
 go_wp2_with fail
 refine (HF.out _ _ T1).mono ?_; rintro r w1 ⟨rfl, T2⟩; clear T1; rw [hb5] at T2; clear hb5; have T2b := T2.perm (List.Perm.swap _ _ _); have T3 := T2b.putO ck cx cn cp cl cs
 (try clear Rk); (try clear yk); (try clear Zk)
 have Rk := cells_of (T2b.box _ m0); have yk := blk_lt (T2b.box _ m0); have Zk := free_of (T2b.box _ m0)
 (try simp only at Rk yk Zk)
 go_upto_region 2 with (fail)
 generalize hW : World.setCell _ _ _ = w4 at *; clear hW T2 T2b Rk yk Zk; obtain ⟨E, H, A⟩ := T3
 obtain ⟨KK, hKK⟩ : ∃ KK, KK = (b5 + 1, Obj.cells #[.int .i64 ck, .bool cx, .int .i64 cn, .int .i64 cp, .int .i64 cl, .string cs] 39) :: (b5 + 1 + 1, Obj.cells #[.int .i64 vk, .bool vx, .int .i64 vn, .int .i64 vp, .int .i64 vl, .string vs] 39) :: (b5, Obj.cells #[.int .i64 10, .bool false, .int .i64 N, .int .i64 0, .int .i64 0, .string ⟨#[]⟩] 39) :: K := ⟨_, rfl⟩
 rw [← hKK] at A
 have mk : (b5 + 1, Obj.cells #[.int .i64 ck, .bool cx, .int .i64 cn, .int .i64 cp, .int .i64 cl, .string cs] 39) ∈ KK := by rw [hKK]; simp
 have mv : (b5 + 1 + 1, Obj.cells #[.int .i64 vk, .bool vx, .int .i64 vn, .int .i64 vp, .int .i64 vl, .string vs] 39) ∈ KK := by rw [hKK]; simp
 have md : (b5, Obj.cells #[.int .i64 10, .bool false, .int .i64 N, .int .i64 0, .int .i64 0, .string ⟨#[]⟩] 39) ∈ KK := by rw [hKK]; simp
 have hsub : K.Sublist KK := by rw [hKK]; exact ((List.sublist_cons_self _ _).trans (List.sublist_cons_self _ _)).trans (List.sublist_cons_self _ _)
 clear hKK; obtain ⟨g, cap, cur, vi, vb, hb, hcap, hg, hi, hcl, v0, v1, v2, v3⟩ := H.cell hcell
 have hcapi : (N : Int) < cap := by omega
 have hnl : (N : Int) < L.length := by omega
 have TF0 : RF J0 w0 gp M E KK L w4 := ⟨H, A⟩
 have HTF := hid' TF0; have QV := RF.cells (J0 := J0) (w0 := w0) (gp := gp) (M := M) (E := E) (L := L) mv; have QD := RF.cells (J0 := J0) (w0 := w0) (gp := gp) (M := M) (E := E) (L := L) md; have QG := RF.cellsE (J0 := J0) (w0 := w0) (gp := gp) (M := M) (K := KK) (L := L) hb; have QR := RF.cellsE (J0 := J0) (w0 := w0) (gp := gp) (M := M) (K := KK) (L := L) hg; clear H A hb hg hcl hcell; generalize L.length = nl at *
 go_upto_region 4 with (fail)
 go_region_held3 (fun W' => RF J0 w0 gp M E KK L W') (first | (with_reducible assumption) | (with_reducible exact RF.drew (by with_reducible assumption)))
  (first
   | (go_at_call 50; with_reducible refine (HM.out _ _ _ (by first | with_reducible assumption | with_reducible exact RF.drew (by with_reducible assumption))).mono ?_; rintro r w5 ⟨rfl, T5⟩))
 clear QV QD QG QR TF0
 have T5 : RF J0 w0 gp M E KK L w5 := by assumption
 have T6 := T5.rs
 (try clear Rk); (try clear yk); (try clear Zk)
 have Rk := cells_of (T6.box _ mk); have yk := blk_lt (T6.box _ mk)
 (try clear Rv); (try clear yv); (try clear Zv)
 have Rv := cells_of (T6.box _ mv); have yv := blk_lt (T6.box _ mv)
 (try clear Rd); (try clear yd); (try clear Zd)
 have Rd := cells_of (T6.box _ md); have yd := blk_lt (T6.box _ md)
 (try simp only at Rk yk Rv yv Rd yd)
 rcases HCC.out with ⟨hlt, rfl, u1, u2, hu, rfl⟩ | ⟨hin, hlt, rfl, rfl⟩ | ⟨hin, heq, rfl, rfl⟩
 · have S := HT.out u1 u2 hu; have hS := hid' S
   have hin : (i : Int) < n := by omega
   have hin2 : ((i : Int) == n) = false := by simp; omega
   have wr1 : IntKind.i64.wrap (2 * (i : Int)) = 2 * i := IntWalk.i64_in _ (by omega); have wr2 : IntKind.i64.wrap (2 * (i : Int) + 2) = 2 * (i : Int) + 2 := IntWalk.i64_in _ (by omega); have HZ := hid' (fun W K' (T : RS J0 w0 gp M K' L W) => rs_setN _ _ _ (.inl (by show ¬ (10 : Int) = 8; decide)) hS.out T); clear S hS; go_wp2_with fail
   refine (HZ.out _ _ T6).mono ?_; rintro r w7 ⟨rfl, T7⟩; go_wp2_with fail
   go_ret; exact ⟨rfl, T7.keep hsub⟩
 · have hin' := hin.symm; subst hin'; obtain ⟨L1, L2, s1, s2, s3⟩ := HP.out hlt; have HZ1 := hid' (fun W K' (T : RS J0 w0 gp M K' L W) => rs_setN _ _ _ (.inl (by show ¬ (10 : Int) = 8; decide)) s1 T); have HZ2 := hid' (fun W K' (T : RS J0 w0 gp M K' L1 W) => rs_setN _ _ _ (.inl (by show ¬ (10 : Int) = 8; decide)) s2 T); have HZ3 := hid' (fun W K' (T : RS J0 w0 gp M K' L2 W) => rs_setN _ _ _ (.inl (by show ¬ (10 : Int) = 8; decide)) s3 T)
   have hlt' : (n : Int) < room := by omega
   have hne : ((n : Int) == room) = false := by simp; omega
   have wr1 : IntKind.i64.wrap (2 * (n : Int)) = 2 * n := IntWalk.i64_in _ (by omega); have wr2 : IntKind.i64.wrap (2 * (n : Int) + 2) = 2 * (n : Int) + 2 := IntWalk.i64_in _ (by omega); have wr3 : IntKind.i64.wrap (2 * (n : Int) + 1) = 2 * (n : Int) + 1 := IntWalk.i64_in _ (by omega); have wr4 : IntKind.i64.wrap ((n : Int) + 1) = (n : Int) + 1 := IntWalk.i64_in _ (by omega); clear s1 s2 s3; go_wp2_with fail
   refine (HRM.out _ _ T6).mono ?_; rintro r w7 ⟨rfl, T7⟩; clear T6 Rk yk Rv yv Rd yd
   (try clear Rk); (try clear yk); (try clear Zk)
   have Rk := cells_of (T7.box _ mk); have yk := blk_lt (T7.box _ mk)
   (try clear Rv); (try clear yv); (try clear Zv)
   have Rv := cells_of (T7.box _ mv); have yv := blk_lt (T7.box _ mv)
   (try clear Rd); (try clear yd); (try clear Zd)
   have Rd := cells_of (T7.box _ md); have yd := blk_lt (T7.box _ md)
   (try simp only at Rk yk Rv yv Rd yd)
   go_wp2_with fail
   refine (HZ1.out _ _ T7).mono ?_; rintro r w8 ⟨rfl, T8⟩; clear T7 Rk yk Rv yv Rd yd
   (try clear Rk); (try clear yk); (try clear Zk)
   have Rk := cells_of (T8.box _ mk); have yk := blk_lt (T8.box _ mk)
   (try clear Rv); (try clear yv); (try clear Zv)
   have Rv := cells_of (T8.box _ mv); have yv := blk_lt (T8.box _ mv)
   (try clear Rd); (try clear yd); (try clear Zd)
   have Rd := cells_of (T8.box _ md); have yd := blk_lt (T8.box _ md)
   (try simp only at Rk yk Rv yv Rd yd)
   go_wp2_with fail
   refine (HZ2.out _ _ T8).mono ?_; rintro r w9 ⟨rfl, T9⟩; clear T8 Rk yk Rv yv Rd yd
   (try clear Rk); (try clear yk); (try clear Zk)
   have Rk := cells_of (T9.box _ mk); have yk := blk_lt (T9.box _ mk)
   (try clear Rv); (try clear yv); (try clear Zv)
   have Rv := cells_of (T9.box _ mv); have yv := blk_lt (T9.box _ mv)
   (try clear Rd); (try clear yd); (try clear Zd)
   have Rd := cells_of (T9.box _ md); have yd := blk_lt (T9.box _ md)
   (try simp only at Rk yk Rv yv Rd yd)
   go_wp2_with fail
   refine (HZ3.out _ _ T9).mono ?_; rintro r w10 ⟨rfl, T10⟩; go_wp2_with fail
   go_ret; exact ⟨rfl, T10.keep hsub⟩
 · clear HP HT; have hin' := hin.symm; subst hin'; subst heq; go_wp2_with fail
   refine (HRM.out _ _ T6).mono ?_; rintro r w7 ⟨rfl, T7⟩; go_wp2_with fail
   go_ret; exact ⟨rfl, T7.keep hsub⟩
end
section
theorem may_un (L : List C) (o : O) : mayH L (unO o) = mayH L o := by
 unfold mayH; rw [mayO_un]; rfl
theorem keyD_may {o key : O} (h : keyD L o = (key, 0)) : mayH L key = true := by
 unfold keyD at h; split at h
 · simp at h
 · split at h
   · simp at h
   · rename_i hm
     split at h
     · split at h
       · simp at h
       · simp only [Prod.mk.injEq, and_true] at h; subst h; exact may_name L _ false (by omega)
     · simp only [Prod.mk.injEq, and_true] at h; subst h; rw [may_un]
       simpa using hm
section
variable {J0 : List (Nat × Obj)} {w0 : World} {hp gp : Nat} {M : List (Nat × List C)}
end
end
theorem ur_info : (Tryz.prog.info? 9).map (fun i => (i.zero, i.size, i.bytes)) = some (some (.string ⟨#[]⟩), 1, 16) := by kernel_rfl
theorem ur_under : Tryz.prog.underlying 130 = some (.slice 9) := by kernel_rfl
end Go.Proofs.YtoogmimbmgdflaaGreat
