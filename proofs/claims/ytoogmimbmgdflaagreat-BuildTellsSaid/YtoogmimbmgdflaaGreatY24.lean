/- Parts of the proof: Rxl, Rxg, Rxb, Rxi. -/
import Derived.Test.YtoogmimbmgdflaaGreatY14
namespace Go.Proofs.YtoogmimbmgdflaaGreat
open Go.RowKit
variable {w w0 : World} {M : List (Nat × List C)} {E J J0 K : List (Nat × Obj)} {gp : Nat} {L : List C} {e : Int} {v : Value}
theorem Ats.storeRow {g : Nat} {cur : Array Value} {T : TypeId} {fz : Nat × Nat} {b : Nat × Obj} (A : Ats w0 w M ((J ++ [(g, .cells cur T fz), b]) ++ K)) (i : Nat) (v : Value) :
 Ats w0 (w.setCell ⟨g, i, none⟩ v) M ((J ++ [(g, .cells (cur.setIfInBounds i v) T fz), b]) ++ K) := by
 have hp : ∀ x : Nat × Obj, ((J ++ [x, b]) ++ K).Perm (x :: (J ++ (b :: K))) := fun x => by
  classical refine List.perm_iff_count.2 fun q => ?_
  simp only [List.count_append, List.count_cons, List.count_nil]; omega
 exact ((A.perm (hp _)).put i v).perm (hp _).symm
set_option maxRecDepth 100000 in
set_option maxHeartbeats 2000000 in
theorem rlock_any (H : RefK J0 gp L E) (A : Ats w0 w M (E ++ K)) (o : O) {L' : List C} {e : Int} (hr : lockH L o = (L', e)) :
 Calls Tryz.prog 36 #[ptr gp, o.val] w fun r w' => r = .returned (.int .i64 e) ∧ ∃ E', RefK J0 gp L' E' ∧ Ats w0 w' M (E' ++ K) := by
 obtain ⟨kk, kx, kn, kp, kl, ks⟩ := o; have hHR := hid' H; have A1 := A.alloc (Obj.cells #[.int .i64 kk, .bool kx, .int .i64 kn, .int .i64 kp, .int .i64 kl, .string ks] 39); have hRM := fun W (A : Ats w0 W M ((w.heap.size, Obj.cells #[.int .i64 kk, .bool kx, .int .i64 kn, .int .i64 kp, .int .i64 kl, .string ks] 39) :: (E ++ K))) a z f (h : roomV L ⟨kk, kx, kn, kp, kl, ks⟩ = (a, z, f)) => rroom_any H A (fun q hq => List.mem_cons_of_mem _ (List.mem_append_left _ hq)) ⟨kk, kx, kn, kp, kl, ks⟩ h; rw [lockH] at hr
 by_cases hf : findE L ⟨kk, kx, kn, kp, kl, ks⟩ = 0
 · obtain ⟨c, hc, hv, hk, n0, n1, a0, l0, hal, hh, hM⟩ := find_cell hf; rw [if_neg (by simp [hf]), hc] at hr; simp only [Prod.mk.injEq] at hr; obtain ⟨rfl, rfl⟩ := hr; have hRM := fun W A => hRM W A _ _ _ hv; simp only at hc n0 n1
   obtain ⟨N, rfl⟩ : ∃ N : Nat, kn = N := ⟨kn.toNat, by omega⟩
   simp only [Int.toNat_natCast] at hc ⊢; obtain ⟨J, g, cap, cur, vi, vb, rfl, hcap, hi, hcell, v0, v1, v2, v3, hup⟩ := H.open hc; have hUP := hup [] { c with locked := true } 3 (.bool true) (by omega) (by obtain ⟨a, b, h1, h2, h3, h4⟩ := hcell; simp only [List.cons.injEq, true_and, and_true] at h1; obtain ⟨rfl, rfl⟩ := h1; exact ⟨_, _, rfl, h2, h3, h4⟩) rfl
   have mg : ∀ x : Nat × Obj, (gp, refBox (.slice (some ⟨g, 0, none⟩) L.length cap)) ∈ x :: ((J ++ [(g, Obj.cells cur 108), (gp, refBox (.slice (some ⟨g, 0, none⟩) L.length cap))]) ++ K) := fun x => by simp
   have mr : ∀ x : Nat × Obj, (g, Obj.cells cur 108) ∈ x :: ((J ++ [(g, Obj.cells cur 108), (gp, refBox (.slice (some ⟨g, 0, none⟩) L.length cap))]) ++ K) := fun x => by simp
   have hcapi : (N : Int) < cap := by omega
   have hRMH := hid' hRM; have HU := hid' hUP; clear hRM hv hM hh hal hf hk H hup hUP hHR hcell; generalize lenOf c _ = lz at *; generalize atOf _ = az at *; generalize hLn : L.length = nl at *; have HLn := hid' hLn; clear hLn; go_enter Tryz.func36, Tryz.ntmps36
   go_wp2_with fail
   refine (hRMH.out _ A1).mono ?_; rintro r w1 ⟨rfl, A2⟩; clear A1
   (try clear Rk); (try clear yk); (try clear Zk)
   have Rk := cells_of (A2.box _ m0); have yk := blk_lt (A2.box _ m0)
   (try clear Rg); (try clear yg); (try clear Zg)
   have Rg := cells_of (A2.box _ (mg _)); have yg := blk_lt (A2.box _ (mg _))
   (try clear Rr); (try clear yr); (try clear Zr)
   have Rr := cells_of (A2.box _ (mr _)); have yr := blk_lt (A2.box _ (mr _)); have Zr := free_of (A2.box _ (mr _))
   (try simp only at Rk yk Rg yg Rr yr Zr)
   go_upto_region 3 with (fail)
   go_still_tail 8, (by kernel_rfl)
   go_wp2_with fail
   go_ret; refine ⟨rfl, _, HU.out, ?_⟩; exact (A2.drew.keep (List.sublist_cons_self _ _)).storeRow _ _
 · rw [if_pos (by simpa using hf)] at hr; simp only [Prod.mk.injEq] at hr; obtain ⟨rfl, rfl⟩ := hr; have hRM := fun W A => hRM W A _ _ _ (by rw [roomV, if_pos (by simpa using hf)])
   have hne : (findE L ⟨kk, kx, kn, kp, kl, ks⟩ != 0) = true := by simpa using hf
   have hne2 : (findE L ⟨kk, kx, kn, kp, kl, ks⟩ == 0) = false := by simpa using hf
   have hRMH := hid' hRM; clear hRM H hf; generalize findE L _ = fe at *; go_enter Tryz.func36, Tryz.ntmps36
   go_wp2_with fail
   refine (hRMH.out _ A1).mono ?_; rintro r w1 ⟨rfl, A2⟩; clear A1; go_wp2_with fail
   go_ret; exact ⟨rfl, E, hHR.out, A2.keep (List.sublist_cons_self _ _)⟩
theorem RowIn.item {l : List O} (h : RowIn J 39 6 v l.length (l.flatMap O.cells)) {i : Nat} {o : O} (ho : l[i]? = some o) :
 ∃ g cap cur fz, v = .slice (some ⟨g, 0, none⟩) l.length cap ∧ (g, Obj.cells cur 39 fz) ∈ J ∧ l.length ≤ cap ∧ cap ≤ maxLen ∧ i < l.length ∧ ∀ j, j < 6 → cur[i * 6 + j]? = o.cells[j]? := by
 have hi := (List.getElem?_eq_some_iff.1 ho).1
 rcases h with ⟨-, h0, -⟩ | ⟨g, cap, cur, fz, h1, h2, h3, h4, h5, h6, h7⟩
 · omega
 · refine ⟨g, cap, cur, fz, h1, h2, h3, h4, hi, fun j hj => ?_⟩; have e := flat_get O.cells 6 cells_length j hj l i; rw [ho] at e; simp only [Option.bind_some] at e; rw [← e, ← h6, List.getElem?_take, if_pos (by omega), Array.getElem?_toList]
theorem RowIn.byte {l : List UInt8} (h : RowIn J 5 1 v l.length (l.map vu8)) {i : Nat} {b : UInt8} (hb : l[i]? = some b) :
 ∃ g cap cur fz, v = .slice (some ⟨g, 0, none⟩) l.length cap ∧ (g, Obj.cells cur 5 fz) ∈ J ∧ l.length ≤ cap ∧ cap ≤ maxLen ∧ i < l.length ∧ cur[i]? = some (vu8 b) := by
 have hi := (List.getElem?_eq_some_iff.1 hb).1
 rcases h with ⟨-, h0, -⟩ | ⟨g, cap, cur, fz, h1, h2, h3, h4, h5, h6, h7⟩
 · omega
 · refine ⟨g, cap, cur, fz, h1, h2, h3, h4, hi, ?_⟩
   have e : (l.map vu8)[i]? = some (vu8 b) := by simp [hb]
   rw [← e, ← h6, List.getElem?_take, if_pos (by omega), Array.getElem?_toList]
set_option maxRecDepth 100000 in
set_option maxHeartbeats 2000000 in
theorem rget_any (H : RefK J0 gp L E) (A : Ats w0 w M K) (hE : ∀ q ∈ E, q ∈ K) (o : O) (i : Int) {o' : O} {e : Int} (hr : getH L o i = (o', e)) :
 Calls Tryz.prog 93 #[ptr gp, o.val, .int .i64 i] w fun r w' => r = .returned (.tuple #[o'.val, .int .i64 e]) ∧ Ats w0 w' M K := by
 obtain ⟨kk, kx, kn, kp, kl, ks⟩ := o; have A1 := (A.alloc (Obj.cells #[.int .i64 kk, .bool kx, .int .i64 kn, .int .i64 kp, .int .i64 kl, .string ks] 39)).alloc (Obj.cells #[.int .i64 0, .bool false, .int .i64 0, .int .i64 0, .int .i64 0, .string ⟨#[]⟩] 39); simp only [World.size_alloc] at A1; have hsub : ∀ a b : Nat × Obj, K.Sublist (a :: b :: K) := fun a b => (List.sublist_cons_self _ _).trans (List.sublist_cons_self _ _); have hKK : ∀ (a b : Nat × Obj), ∀ q ∈ E, q ∈ a :: b :: K := fun a b q hq => List.mem_cons_of_mem _ (List.mem_cons_of_mem _ (hE q hq)); have hRM := fun W (A : Ats w0 W M ((w.heap.size + 1, Obj.cells #[.int .i64 0, .bool false, .int .i64 0, .int .i64 0, .int .i64 0, .string ⟨#[]⟩] 39) :: (w.heap.size, Obj.cells #[.int .i64 kk, .bool kx, .int .i64 kn, .int .i64 kp, .int .i64 kl, .string ks] 39) :: K)) a z f (h : roomV L ⟨kk, kx, kn, kp, kl, ks⟩ = (a, z, f)) => rroom_any H A (hKK _ _) ⟨kk, kx, kn, kp, kl, ks⟩ h; rw [getH] at hr
 by_cases hf : findE L ⟨kk, kx, kn, kp, kl, ks⟩ = 0
 · obtain ⟨c, hc, hv, hk, n0, n1, a0, l0, hal, hh, hM⟩ := find_cell hf; rw [if_neg (by simp [hf]), hc] at hr; simp only at hr; have hRM := fun W A => hRM W A _ _ _ hv; have hsm := cell_le hc H.bounds.2; simp only at hc hk n0 n1
   obtain ⟨N, rfl⟩ : ∃ N : Nat, kn = N := ⟨kn.toNat, by omega⟩
   rw [Int.toNat_natCast] at hc
   have hkt : c.text = true ↔ kk = 8 := by
    rw [← hk, C.kind]
    cases c.text <;> simp
    split <;> simp
   generalize lenOf c _ = lz at *; generalize atOf _ = az at *
   by_cases hx : i < 0 ∨ lz ≤ i
   · rw [if_pos hx] at hr; simp only [Prod.mk.injEq] at hr; obtain ⟨rfl, rfl⟩ := hr; have hRMH := hid' hRM
     have hcs : i < 0 ∨ (0 ≤ i ∧ lz ≤ i) := by omega
     clear hRM hv hM hh hf hk H hc hx hkt
     rcases hcs with i0 | ⟨i0, i1⟩
     · go_enter Tryz.func93, Tryz.ntmps93
       go_wp2_with fail
       refine (hRMH.out _ A1).mono ?_; rintro r w1 ⟨rfl, A2⟩; clear A1
       (try clear Rr); (try clear yr); (try clear Zr)
       have Rr := cells_of (A2.box _ m0); have yr := blk_lt (A2.box _ m0); have Zr := free_of (A2.box _ m0)
       (try clear Rk); (try clear yk); (try clear Zk)
       have Rk := cells_of (A2.box _ m1); have yk := blk_lt (A2.box _ m1)
       (try simp only at Rr yr Zr Rk yk)
       have A7 := A2.putO 0 false 0 0 0 ⟨#[]⟩; go_wp2_with fail
       have R7 := cells_of (A7.box _ m0); refine bodyPost_ret (v := .tuple #[O.nil.val, .int .i64 12]) ?_ rfl ⟨rfl, A7.keep (hsub _ _)⟩; simp [results, Tryz.results93, go_sem, R7, O.nil]
     · go_enter Tryz.func93, Tryz.ntmps93
       go_wp2_with fail
       refine (hRMH.out _ A1).mono ?_; rintro r w1 ⟨rfl, A2⟩; clear A1
       (try clear Rr); (try clear yr); (try clear Zr)
       have Rr := cells_of (A2.box _ m0); have yr := blk_lt (A2.box _ m0); have Zr := free_of (A2.box _ m0)
       (try clear Rk); (try clear yk); (try clear Zk)
       have Rk := cells_of (A2.box _ m1); have yk := blk_lt (A2.box _ m1)
       (try simp only at Rr yr Zr Rk yk)
       have A7 := A2.putO 0 false 0 0 0 ⟨#[]⟩; go_wp2_with fail
       have R7 := cells_of (A7.box _ m0); refine bodyPost_ret (v := .tuple #[O.nil.val, .int .i64 12]) ?_ rfl ⟨rfl, A7.keep (hsub _ _)⟩; simp [results, Tryz.results93, go_sem, R7, O.nil]
   · rw [if_neg hx] at hr
     have i0 : 0 ≤ i := by omega
     have i1 : i < lz := by omega
     obtain ⟨I, hI⟩ : ∃ I : Nat, az + i = I := ⟨(az + i).toNat, by omega⟩
     have hIs : I < c.size := by omega
     have wr : IntKind.i64.wrap (az + i) = I := by rw [IntWalk.i64_in _ (by omega)]; exact hI
     rw [hI, Int.toNat_natCast] at hr; obtain ⟨g, cap, cur, vi, vb, hb, hcap, hg, hi, hcell, v0, v1, v2, v3⟩ := H.cell hc
     have hcapi : (N : Int) < cap := by omega
     have mg : ∀ a b : Nat × Obj, _ ∈ a :: b :: K := fun a b => hKK a b _ hb; have mr : ∀ a b : Nat × Obj, _ ∈ a :: b :: K := fun a b => hKK a b _ hg; obtain ⟨vi', vb', hvs, hi6, hb1, ht1, ht2⟩ := hcell; simp only [List.cons.injEq, true_and, and_true] at hvs; obtain ⟨rfl, rfl⟩ := hvs
     by_cases ht : c.text = true
     · rw [if_pos ht] at hr; simp only [Prod.mk.injEq] at hr; obtain ⟨rfl, rfl⟩ := hr
       have hb8 : I < c.bytes.length := by rw [C.size, if_pos ht] at hIs; exact hIs
       obtain ⟨b, hbb⟩ : ∃ b, c.bytes[I]? = some b := ⟨c.bytes[I], List.getElem?_eq_getElem _⟩
       have hgd : c.bytes.getD I 0 = b := by rw [List.getD_eq_getElem?_getD, hbb]; rfl
       rw [hgd]; obtain ⟨g2, cap2, cur2, fz2, rfl, hg2, q1, q2, q3, q4⟩ := hb1.byte hbb; have mx : ∀ a b : Nat × Obj, _ ∈ a :: b :: K := fun a b => hKK a b _ hg2; have wb := wrap_byte b; have h8 : kk = 8 := hkt.1 ht; subst h8
       have q5 : (I : Int) < c.bytes.length := by omega
       have hRMH := hid' hRM; clear hRM hv hM hh hf hk H hc hx hkt hgd hbb hi6 hb1 ht1 ht2 ht hI hIs hb hg hg2 hE hKK; generalize L.length = nl at *; generalize c.bytes.length = nb at *; generalize c.kind = ck at *; generalize c.locked = clk at *; go_enter Tryz.func93, Tryz.ntmps93
       go_wp2_with fail
       refine (hRMH.out _ A1).mono ?_; rintro r w1 ⟨rfl, A2⟩; clear A1
       (try clear Rr); (try clear yr); (try clear Zr)
       have Rr := cells_of (A2.box _ m0); have yr := blk_lt (A2.box _ m0); have Zr := free_of (A2.box _ m0)
       (try clear Rk); (try clear yk); (try clear Zk)
       have Rk := cells_of (A2.box _ m1); have yk := blk_lt (A2.box _ m1)
       (try clear Rg); (try clear yg); (try clear Zg)
       have Rg := cells_of (A2.box _ (mg _ _)); have yg := blk_lt (A2.box _ (mg _ _))
       (try clear Rc); (try clear yc); (try clear Zc)
       have Rc := cells_of (A2.box _ (mr _ _)); have yc := blk_lt (A2.box _ (mr _ _))
       (try clear Rx); (try clear yx); (try clear Zx)
       have Rx := cells_of (A2.box _ (mx _ _)); have yx := blk_lt (A2.box _ (mx _ _))
       (try simp only at Rr yr Zr Rk yk Rg yg Rc yc Rx yx)
       have A7 := (A2.putO 3 false b.toNat 0 0 ⟨#[]⟩).drew
       go_upto_region 7 with (fail)
       go_still_tail 16, (by kernel_rfl)
       go_wp2_with fail
       rw [wb]; have R7 := cells_of (A7.box _ m0); refine bodyPost_ret (v := .tuple #[O.val (⟨3, false, b.toNat, 0, 0, ⟨#[]⟩⟩ : O), .int .i64 0]) ?_ rfl ⟨rfl, A7.keep (hsub _ _)⟩; simp [results, Tryz.results93, go_sem, R7]
     · rw [if_neg ht] at hr; simp only [Prod.mk.injEq] at hr; obtain ⟨rfl, rfl⟩ := hr
       have hb8 : I < c.items.length := by rw [C.size, if_neg ht] at hIs; exact hIs
       obtain ⟨b, hbb⟩ : ∃ b, c.items[I]? = some b := ⟨c.items[I], List.getElem?_eq_getElem _⟩
       have hgd : c.items.getD I O.nil = b := by rw [List.getD_eq_getElem?_getD, hbb]; rfl
       rw [hgd]; obtain ⟨g2, cap2, cur2, fz2, rfl, hg2, q1, q2, q3, q4⟩ := hi6.item hbb; have mx : ∀ a b : Nat × Obj, _ ∈ a :: b :: K := fun a b => hKK a b _ hg2
       have h8 : (kk == 8) = false := by simpa using fun e => ht (hkt.2 e)
       have q5 : (I : Int) < c.items.length := by omega
       obtain ⟨ok, ox, on, op, ol, os⟩ := b; have u0 := q4 0 (by omega); have u1 := q4 1 (by omega); have u2 := q4 2 (by omega); have u3 := q4 3 (by omega); have u4 := q4 4 (by omega); have u5 := q4 5 (by omega); simp only [O.cells, List.getElem?_cons_zero, List.getElem?_cons_succ, Nat.add_zero] at u0 u1 u2 u3 u4 u5; have hRMH := hid' hRM; clear hRM hv hM hh hf hk H hc hx hkt hgd hbb hi6 hb1 ht1 ht2 ht hI hIs hb hg hg2 hE hKK q4; generalize L.length = nl at *; generalize c.items.length = nb at *; generalize c.kind = ck at *; generalize c.locked = clk at *; go_enter Tryz.func93, Tryz.ntmps93
       go_wp2_with fail
       refine (hRMH.out _ A1).mono ?_; rintro r w1 ⟨rfl, A2⟩; clear A1
       (try clear Rr); (try clear yr); (try clear Zr)
       have Rr := cells_of (A2.box _ m0); have yr := blk_lt (A2.box _ m0); have Zr := free_of (A2.box _ m0)
       (try clear Rk); (try clear yk); (try clear Zk)
       have Rk := cells_of (A2.box _ m1); have yk := blk_lt (A2.box _ m1)
       (try clear Rg); (try clear yg); (try clear Zg)
       have Rg := cells_of (A2.box _ (mg _ _)); have yg := blk_lt (A2.box _ (mg _ _))
       (try clear Rc); (try clear yc); (try clear Zc)
       have Rc := cells_of (A2.box _ (mr _ _)); have yc := blk_lt (A2.box _ (mr _ _))
       (try clear Rx); (try clear yx); (try clear Zx)
       have Rx := cells_of (A2.box _ (mx _ _)); have yx := blk_lt (A2.box _ (mx _ _))
       (try simp only at Rr yr Zr Rk yk Rg yg Rc yc Rx yx)
       have A7 := (A2.putO ok ox on op ol os).drew
       go_upto_region 8 with (fail)
       go_still_tail 14, (by kernel_rfl)
       go_wp2_with fail
       have R7 := cells_of (A7.box _ m0); refine bodyPost_ret (v := .tuple #[O.val (⟨ok, ox, on, op, ol, os⟩ : O), .int .i64 0]) ?_ rfl ⟨rfl, A7.keep (hsub _ _)⟩; simp [results, Tryz.results93, go_sem, R7]
 · rw [if_pos (by simpa using hf)] at hr; simp only [Prod.mk.injEq] at hr; obtain ⟨rfl, rfl⟩ := hr; have hRM := fun W A => hRM W A _ _ _ (by rw [roomV, if_pos (by simpa using hf)])
   have hne : (findE L ⟨kk, kx, kn, kp, kl, ks⟩ != 0) = true := by simpa using hf
   have hne2 : (findE L ⟨kk, kx, kn, kp, kl, ks⟩ == 0) = false := by simpa using hf
   have hRMH := hid' hRM; clear hRM H hf; generalize findE L _ = fe at *; go_enter Tryz.func93, Tryz.ntmps93
   go_wp2_with fail
   refine (hRMH.out _ A1).mono ?_; rintro r w1 ⟨rfl, A2⟩; clear A1
   (try clear Rr); (try clear yr); (try clear Zr)
   have Rr := cells_of (A2.box _ m0); have yr := blk_lt (A2.box _ m0); have Zr := free_of (A2.box _ m0)
   (try clear Rk); (try clear yk); (try clear Zk)
   have Rk := cells_of (A2.box _ m1); have yk := blk_lt (A2.box _ m1)
   (try simp only at Rr yr Zr Rk yk)
   have A7 := A2.putO 0 false 0 0 0 ⟨#[]⟩; go_wp2_with fail
   have R7 := cells_of (A7.box _ m0); refine bodyPost_ret (v := .tuple #[O.nil.val, .int .i64 fe]) ?_ rfl ⟨rfl, A7.keep (hsub _ _)⟩; simp [results, Tryz.results93, go_sem, R7, O.nil]
theorem cut_bytesR {bs : List UInt8} (h : RowIn J 5 1 v bs.length (bs.map vu8)) (p z : Int) (hp : 0 ≤ p) (hz : 0 ≤ z) (hpz : p + z ≤ bs.length) :
 ∃ A c', (∀ W, (Instr.slice 99 v (some (.int .i64 p)) (some (.int .i64 (p + z))) none).run Tryz.prog W = .ok (.slice A z.toNat c') W) ∧
  ∀ W : World, (∀ q ∈ J, W.heap[q.1]? = some q.2) → (convert 99 9 (.slice A z.toNat c')).run Tryz.prog W = .ok (.string ⟨((bs.drop p.toNat).take z.toNat).toArray⟩) W := by
 have hzl : ((bs.drop p.toNat).take z.toNat).length = z.toNat := by simp; omega
 rcases h with ⟨rfl, hn, -⟩ | ⟨g, cap, cur, fz, rfl, hcur, hnc, hcm, hcs, htk, -⟩
 · have hp0 : p = 0 := by omega
   have hz0 : z = 0 := by omega
   subst hp0; subst hz0; refine ⟨none, 0, fun W => ?_, fun W _ => ?_⟩
   · rw [run_slice_lh (w := W) 99 none 0 0 (by rw [Tryz.elemBytes]; exact Tryz.underBytes) .i64 .i64 0 (0 + 0) (by omega) (by omega) (by omega), Tryz.elemBytes, sizeOf_byte]; simp [sliced]
   · rw [run_conv_bytes W _ ⟨_, _, _, rfl⟩]; simp [Conv.bytesToString]; rfl
 · refine ⟨if cap = p.toNat then some ⟨g, 0, none⟩ else some ((⟨g, 0, none⟩ : Addr).add p.toNat), cap - p.toNat, fun W => ?_, fun W hW => ?_⟩
   · rw [run_slice_lh (w := W) 99 (some ⟨g, 0, none⟩) _ cap (by rw [Tryz.elemBytes]; exact Tryz.underBytes) .i64 .i64 p (p + z) hp (by omega) (by omega), Tryz.elemBytes, sizeOf_byte]; simp only [Result.andThen_ok, sliced, Nat.mul_one, Option.map_some]; rw [show (p + z).toNat - p.toNat = z.toNat by omega]
   · have hc' := hW _ hcur
     have hcell : ∀ i, i < bs.length → W.cell? ⟨g, i, none⟩ = some (vu8 (bs.getD i 0)) := fun i hi => by
      rw [cells_of hc' i, ← Array.getElem?_toList]
      have : cur.toList[i]? = (cur.toList.take (bs.length * 1))[i]? := by rw [List.getElem?_take, if_pos (by omega)]
      rw [this, htk]; simp [hi]
     rw [run_conv_bytes W _ ⟨_, _, _, rfl⟩]
     by_cases hz0 : z = 0
     · subst hz0; have := fun a => bytesToString_run Tryz.prog W a [] (cap - p.toNat) (fun i hi => by simp at hi)
       split <;> simpa using this _
     · rw [if_neg (by omega)]
       have := bytesToString_run Tryz.prog W ((⟨g, 0, none⟩ : Addr).add p.toNat) ((bs.drop p.toNat).take z.toNat) (cap - p.toNat) (fun i hi => by
        rw [add_add, hcell _ (by omega)]
        have : p.toNat + i < bs.length := by omega
        simp [this])
       rw [hzl] at this; exact this
set_option maxRecDepth 100000 in
set_option maxHeartbeats 1000000 in
theorem rbytes_any (H : RefK J0 gp L E) (A : Ats w0 w M K) (hE : ∀ q ∈ E, q ∈ K) (o : O) {s : ByteArray} {e : Int} (hr : bytesH L o = (s, e)) :
 Calls Tryz.prog 136 #[ptr gp, o.val] w fun r w' => r = .returned (.tuple #[.string s, .int .i64 e]) ∧ Ats w0 w' M K := by
 obtain ⟨kk, kx, kn, kp, kl, ks⟩ := o
 obtain ⟨KL, A1, mk, hKK, hsub⟩ : ∃ KL, Ats w0 (w.alloc (Obj.cells #[.int .i64 kk, .bool kx, .int .i64 kn, .int .i64 kp, .int .i64 kl, .string ks] 39)) M KL ∧ (w.heap.size, Obj.cells #[.int .i64 kk, .bool kx, .int .i64 kn, .int .i64 kp, .int .i64 kl, .string ks] 39) ∈ KL ∧ (∀ q ∈ K, q ∈ KL) ∧ K.Sublist KL := ⟨_, A.alloc _, m0, fun q hq => List.mem_cons_of_mem _ hq, List.sublist_cons_self _ _⟩
 have hRM := fun W (A : Ats w0 W M KL) a z f (h : roomV L ⟨kk, kx, kn, kp, kl, ks⟩ = (a, z, f)) => rroom_any H A (fun q hq => hKK q (hE q hq)) ⟨kk, kx, kn, kp, kl, ks⟩ h; rw [bytesH] at hr
 by_cases hf : findE L ⟨kk, kx, kn, kp, kl, ks⟩ = 0
 · obtain ⟨c, hc, hv, hk, n0, n1, a0, l0, hal, hh, hM⟩ := find_cell hf; rw [if_neg (by simp [hf]), hc] at hr; simp only at hr; have hRM := fun W A => hRM W A _ _ _ hv; have hsm := cell_le hc H.bounds.2; simp only at hc hk n0 n1
   obtain ⟨N, rfl⟩ : ∃ N : Nat, kn = N := ⟨kn.toNat, by omega⟩
   rw [Int.toNat_natCast] at hc
   have hkt : c.text = true ↔ kk = 8 := by
    rw [← hk, C.kind]
    cases c.text <;> simp
    split <;> simp
   generalize lenOf c _ = lz at *; generalize atOf _ = az at *
   by_cases ht : c.text = true
   · rw [if_pos ht] at hr; simp only [Prod.mk.injEq] at hr; obtain ⟨rfl, rfl⟩ := hr; obtain ⟨g, cap, cur, vi, vb, hb, hcap, hg, hi, hcell, v0, v1, v2, v3⟩ := H.cell hc
     have hcapi : (N : Int) < cap := by omega
     have mg := hKK _ (hE _ hb); have mr := hKK _ (hE _ hg); obtain ⟨vi', vb', hvs, hi6, hb1, ht1, ht2⟩ := hcell; simp only [List.cons.injEq, true_and, and_true] at hvs; obtain ⟨rfl, rfl⟩ := hvs
     have hcs : c.size = c.bytes.length := by rw [C.size, if_pos ht]
     obtain ⟨B, c', e1, e2⟩ := cut_bytesR hb1 az lz a0 l0 (by omega); have h8 : kk = 8 := hkt.1 ht; subst h8; have wr : IntKind.i64.wrap (az + lz) = az + lz := IntWalk.i64_in _ (by omega)
     obtain ⟨s, hs⟩ : ∃ s : ByteArray, s = ⟨((c.bytes.drop az.toNat).take lz.toNat).toArray⟩ := ⟨_, rfl⟩
     rw [← hs] at e2 ⊢
     obtain ⟨ab, nb, cb, rfl⟩ : ∃ ab nb cb, vb = .slice ab nb cb := by obtain ⟨a, q, h, -⟩ := hb1.slice; exact ⟨_, _, _, h⟩
     have e2 : ∀ W, Ats w0 W M KL → _ := fun W AW => e2 W (fun q hq => AW.box _ (hKK _ (hE _ hq))); have hRMH := hid' hRM; have HE2 := hid' e2; clear hRM hv hM hh hf hk H hc hkt hi6 hb1 ht1 ht2 ht hb hg hE hKK e2 hs; generalize L.length = nl at *; generalize c.kind = ck at *; generalize c.locked = clk at *; go_enter Tryz.func136, Tryz.ntmps136
     go_wp2_with fail
     refine (hRMH.out _ A1).mono ?_; rintro r w1 ⟨rfl, A2⟩; clear A1
     (try clear Rk); (try clear yk); (try clear Zk)
     have Rk := cells_of (A2.box _ mk); have yk := blk_lt (A2.box _ mk)
     (try clear Rg); (try clear yg); (try clear Zg)
     have Rg := cells_of (A2.box _ mg); have yg := blk_lt (A2.box _ mg)
     (try clear Rc); (try clear yc); (try clear Zc)
     have Rc := cells_of (A2.box _ mr); have yc := blk_lt (A2.box _ mr)
     (try simp only at Rk yk Rg yg Rc yc)
     have e3 := HE2.out _ A2; have e4 := HE2.out _ A2.drew
     go_upto_region 6 with (fail)
     go_still_tail 14, (by kernel_rfl)
     go_wp2_with fail
     go_ret2
     exact ⟨rfl, A2.drew.keep hsub⟩
   · rw [if_neg ht] at hr; simp only [Prod.mk.injEq] at hr; obtain ⟨rfl, rfl⟩ := hr
     have h8 : (kk == 8) = false := by simpa using fun e => ht (hkt.2 e)
     have h82 : (kk != 8) = true := by simpa using fun e => ht (hkt.2 e)
     have hRMH := hid' hRM; clear hRM hv hM hh hf hk H hc hkt ht; go_enter Tryz.func136, Tryz.ntmps136
     go_wp2_with fail
     refine (hRMH.out _ A1).mono ?_; rintro r w1 ⟨rfl, A2⟩; clear A1
     (try clear Rk); (try clear yk); (try clear Zk)
     have Rk := cells_of (A2.box _ mk); have yk := blk_lt (A2.box _ mk)
     (try simp only at Rk yk)
     go_wp2_with fail
     go_ret2
     exact ⟨rfl, A2.keep hsub⟩
 · rw [if_pos (by simpa using hf)] at hr; simp only [Prod.mk.injEq] at hr; obtain ⟨rfl, rfl⟩ := hr; have hRM := fun W A => hRM W A _ _ _ (by rw [roomV, if_pos (by simpa using hf)])
   have hne : (findE L ⟨kk, kx, kn, kp, kl, ks⟩ != 0) = true := by simpa using hf
   have hne2 : (findE L ⟨kk, kx, kn, kp, kl, ks⟩ == 0) = false := by simpa using hf
   have hRMH := hid' hRM; clear hRM H hf; generalize findE L _ = fe at *; go_enter Tryz.func136, Tryz.ntmps136
   go_wp2_with fail
   refine (hRMH.out _ A1).mono ?_; rintro r w1 ⟨rfl, A2⟩; clear A1; go_wp2_with fail
   go_ret2
   exact ⟨rfl, A2.keep hsub⟩
theorem cut_itemsR {L : List O} (h : RowIn J 39 6 v L.length (L.flatMap O.cells)) (p z : Int) (hp : 0 ≤ p) (hz : 0 ≤ z) (hpz : p + z ≤ L.length) :
 ∃ A c', (∀ W, (Instr.slice 42 v (some (.int .i64 p)) (some (.int .i64 (p + z))) none).run Tryz.prog W = .ok (.slice A z.toNat c') W) ∧
  ((A = none ∧ z = 0 ∧ c' = 0 ∧ p = 0) ∨ ∃ ad, A = some ad ∧ ∀ W : World, (∀ q ∈ J, W.heap[q.1]? = some q.2) → ∀ j u, (((L.drop p.toNat).take z.toNat).flatMap O.cells)[j]? = some u → W.cell? (ad.add j) = some u) := by
 rcases h with ⟨rfl, hn, -⟩ | ⟨g, cap, cur, fz, rfl, hcur, hnc, hcm, hcs, htk, -⟩
 · have hp0 : p = 0 := by omega
   have hz0 : z = 0 := by omega
   subst hp0; subst hz0; refine ⟨none, 0, fun W => ?_, .inl ⟨rfl, rfl, rfl, rfl⟩⟩; rw [run_slice_lh (w := W) 42 none 0 0 (by rw [Tryz.elemObjs]; exact Tryz.underObjs) .i64 .i64 0 (0 + 0) (by omega) (by omega) (by omega), Tryz.elemObjs, sizeOf_obj]; simp [sliced]
 · refine ⟨if cap = p.toNat then some ⟨g, 0, none⟩ else some ((⟨g, 0, none⟩ : Addr).add (p.toNat * 6)), cap - p.toNat, fun W => ?_, .inr ⟨if cap = p.toNat then ⟨g, 0, none⟩ else (⟨g, 0, none⟩ : Addr).add (p.toNat * 6), by split <;> rfl, fun W hW j u hj => ?_⟩⟩
   · rw [run_slice_lh (w := W) 42 (some ⟨g, 0, none⟩) _ cap (by rw [Tryz.elemObjs]; exact Tryz.underObjs) .i64 .i64 p (p + z) hp (by omega) (by omega), Tryz.elemObjs, sizeOf_obj]; simp only [Result.andThen_ok, sliced, Option.map_some]; rw [show (p + z).toNat - p.toNat = z.toNat by omega]
   · have hc' := hW _ hcur; rw [flat_drop_take, List.getElem?_take] at hj; split at hj
     · rename_i hjz
       rw [List.getElem?_drop] at hj
       have hlt : p.toNat * 6 + j < L.length * 6 := by omega
       rw [if_neg (by omega), add_add, cells_of hc', ← Array.getElem?_toList]
       have : cur.toList[p.toNat * 6 + j]? = (cur.toList.take (L.length * 6))[p.toNat * 6 + j]? := by rw [List.getElem?_take, if_pos hlt]
       rw [this, htk]; exact hj
     · simp at hj
theorem Ats.ofOwns {w1 w2 : World} {T : TypeId} {sz : Nat} {n : Nat} {xs : List Value} (A : Ats w0 w1 M K) (X : Chg NoB w1 w2) (own : w2.ownsRow w1.heap.size T sz v n xs) : ∃ R, RowG T sz R v n xs ∧ Ats w0 w2 M (R ++ K) := by
 obtain ⟨hl, ⟨rfl, h0⟩ | ⟨g, cap, cur, rfl, hg0, hg, c1, c2, c3, c4⟩⟩ := own
 · subst h0; exact ⟨[], .inl ⟨rfl, rfl, List.eq_nil_of_length_eq_zero (by omega), rfl⟩, A.pure X⟩
 · exact ⟨[(g, .cells cur T)], .inr ⟨g, cap, cur, rfl, rfl, c1, c2, c3, c4, hl⟩, A.got X hg hg0⟩
set_option maxRecDepth 100000 in
set_option maxHeartbeats 1000000 in
theorem ritems_any (H : RefK J0 gp L E) (A : Ats w0 w M K) (hE : ∀ q ∈ E, q ∈ K) (o : O) {l : List O} {e : Int} (hr : itemsH L o = (l, e)) :
 Calls Tryz.prog 100 #[ptr gp, o.val] w fun r w' => ∃ v, r = .returned (.tuple #[v, .int .i64 e]) ∧ ∃ R, RowG 39 6 R v l.length (l.flatMap O.cells) ∧ Ats w0 w' M (R ++ K) := by
 obtain ⟨kk, kx, kn, kp, kl, ks⟩ := o
 obtain ⟨KL, A1, mk, hKK, hsub⟩ : ∃ KL, Ats w0 (w.alloc (Obj.cells #[.int .i64 kk, .bool kx, .int .i64 kn, .int .i64 kp, .int .i64 kl, .string ks] 39)) M KL ∧ (w.heap.size, Obj.cells #[.int .i64 kk, .bool kx, .int .i64 kn, .int .i64 kp, .int .i64 kl, .string ks] 39) ∈ KL ∧ (∀ q ∈ K, q ∈ KL) ∧ K.Sublist KL := ⟨_, A.alloc _, m0, fun q hq => List.mem_cons_of_mem _ hq, List.sublist_cons_self _ _⟩
 have hRM := fun W (A : Ats w0 W M KL) a z f (h : roomV L ⟨kk, kx, kn, kp, kl, ks⟩ = (a, z, f)) => rroom_any H A (fun q hq => hKK q (hE q hq)) ⟨kk, kx, kn, kp, kl, ks⟩ h; rw [itemsH] at hr
 by_cases hf : findE L ⟨kk, kx, kn, kp, kl, ks⟩ = 0
 · obtain ⟨c, hc, hv, hk, n0, n1, a0, l0, hal, hh, hM⟩ := find_cell hf; rw [if_neg (by simp [hf]), hc] at hr; simp only at hr; have hRM := fun W A => hRM W A _ _ _ hv; have hsm := cell_le hc H.bounds.2; simp only at hc hk n0 n1
   obtain ⟨N, rfl⟩ : ∃ N : Nat, kn = N := ⟨kn.toNat, by omega⟩
   rw [Int.toNat_natCast] at hc
   have hkt : c.text = true ↔ kk = 8 := by
    rw [← hk, C.kind]
    cases c.text <;> simp
    split <;> simp
   generalize lenOf c _ = lz at *; generalize atOf _ = az at *
   by_cases ht : c.text = true
   · rw [if_pos ht] at hr; simp only [Prod.mk.injEq] at hr; obtain ⟨rfl, rfl⟩ := hr; have h8 : kk = 8 := hkt.1 ht; subst h8; have hRMH := hid' hRM; clear hRM hv hM hh hf hk H hc hkt ht; go_enter Tryz.func100, Tryz.ntmps100
     go_wp2_with fail
     refine (hRMH.out _ A1).mono ?_; rintro r w1 ⟨rfl, A2⟩; clear A1
     (try clear Rk); (try clear yk); (try clear Zk)
     have Rk := cells_of (A2.box _ mk); have yk := blk_lt (A2.box _ mk)
     (try simp only at Rk yk)
     go_wp2_with fail
     go_ret2
     exact ⟨_, rfl, [], .inl ⟨rfl, rfl, rfl, rfl⟩, A2.keep hsub⟩
   · rw [if_neg ht] at hr; simp only [Prod.mk.injEq] at hr; obtain ⟨rfl, rfl⟩ := hr; obtain ⟨g, cap, cur, vi, vb, hb, hcap, hg, hi, hcell, v0, v1, v2, v3⟩ := H.cell hc
     have hcapi : (N : Int) < cap := by omega
     have mg := hKK _ (hE _ hb); have mr := hKK _ (hE _ hg); obtain ⟨vi', vb', hvs, hi6, hb1, ht1, ht2⟩ := hcell; simp only [List.cons.injEq, true_and, and_true] at hvs; obtain ⟨rfl, rfl⟩ := hvs
     have hcs : c.size = c.items.length := by rw [C.size, if_neg ht]
     obtain ⟨B, c', e1, e2⟩ := cut_itemsR hi6 az lz a0 l0 (by omega)
     have h8 : (kk == 8) = false := by simpa using fun e => ht (hkt.2 e)
     have wr : IntKind.i64.wrap (az + lz) = az + lz := IntWalk.i64_in _ (by omega)
     obtain ⟨b, hbb⟩ : ∃ b : List O, b = (c.items.drop az.toNat).take lz.toNat := ⟨_, rfl⟩
     have hbl : b.length = lz.toNat := by rw [hbb]; simp; omega
     rw [← hbb] at e2 ⊢; have HBL := hid' hbl
     obtain ⟨ab, nb, cb, rfl⟩ : ∃ ab nb cb, vi = .slice ab nb cb := by obtain ⟨a, q, h, -⟩ := hi6.slice; exact ⟨_, _, _, h⟩
     have hJ : ∀ W, Ats w0 W M KL → ∀ q ∈ E, W.heap[q.1]? = some q.2 := fun W AW q hq => AW.box _ (hKK _ (hE _ hq)); have hRMH := hid' hRM; have HJ := hid' hJ
     have hlz : lz ≤ 40000 := by omega
     clear hRM hv hM hh hf hk H hc hkt hi6 hb1 ht1 ht2 ht hb hg hE hKK hbb hbl hJ hal hcs hsm; generalize L.length = nl at *; generalize c.kind = ck at *; generalize c.locked = clk at *; obtain ⟨i0, hi, hz0, hz1, hz2⟩ := info_parts Tryz.infoObj
     rcases e2 with ⟨rfl, rfl, rfl, rfl⟩ | ⟨ad, rfl, hnews⟩
     · simp only [Int.add_zero, Int.toNat_zero] at e1 wr; go_enter Tryz.func100, Tryz.ntmps100
       go_wp2_with fail
       refine (hRMH.out _ A1).mono ?_; rintro r w1 ⟨rfl, A2⟩; clear A1
       (try clear Rk); (try clear yk); (try clear Zk)
       have Rk := cells_of (A2.box _ mk); have yk := blk_lt (A2.box _ mk)
       (try clear Rg); (try clear yg); (try clear Zg)
       have Rg := cells_of (A2.box _ mg); have yg := blk_lt (A2.box _ mg)
       (try clear Rc); (try clear yc); (try clear Zc)
       have Rc := cells_of (A2.box _ mr); have yc := blk_lt (A2.box _ mr)
       (try simp only at Rk yk Rg yg Rc yc)
       go_upto_region 6 with (fail)
       go_still_tail 14, (by kernel_rfl)
       go_wp2_with (at_builtin; refine wpList_append_own_none rfl _ _ 42 rfl w.heap.size 39 i0 6 Tryz.underObjs hi (.slice none 0 0) 0 [] rfl (World.ownsRow_nil _ _ _ _) rfl ?_)
       go_ret2
       have : b = [] := List.eq_nil_of_length_eq_zero (by rw [HBL.out]; rfl); subst this; exact ⟨_, rfl, [], .inl ⟨rfl, rfl, rfl, rfl⟩, A2.drew.keep hsub⟩
     · have HN := hid' hnews; clear hnews; go_enter Tryz.func100, Tryz.ntmps100
       go_wp2_with fail
       refine (hRMH.out _ A1).mono ?_; rintro r w1 ⟨rfl, A2⟩; clear A1
       (try clear Rk); (try clear yk); (try clear Zk)
       have Rk := cells_of (A2.box _ mk); have yk := blk_lt (A2.box _ mk)
       (try clear Rg); (try clear yg); (try clear Zg)
       have Rg := cells_of (A2.box _ mg); have yg := blk_lt (A2.box _ mg)
       (try clear Rc); (try clear yc); (try clear Zc)
       have Rc := cells_of (A2.box _ mr); have yc := blk_lt (A2.box _ mr)
       (try simp only at Rk yk Rg yg Rc yc)
       go_upto_region 6 with (fail)
       go_still_tail 14, (by kernel_rfl)
       go_wp2_with (at_builtin; refine wpList_append_own _ rfl _ _ 42 rfl w1.heap.size 39 i0 O.nil.val 6 56 Tryz.underObjs hi hz0 hz1 hz2 rfl (by decide) (.slice none 0 0) 0 [] rfl (World.ownsRow_nil _ _ _ _) ad lz.toNat c' (b.flatMap O.cells) rfl (by rw [flat_length O.cells 6 cells_length, HBL.out]) (fun j u hj => HN.out _ (HJ.out _ A2.drew) j u hj) (flat_one b) ?_ ?_ ?_ ?_; (unfold maxLen; omega); omega; (simp); intro v' w2 hown hgr _)
       go_ret2
       obtain ⟨R, hR, A3⟩ := (A2.keep hsub).ofOwns (Chg.grown (Chg.refl NoB w1).drew hgr (fun k hk => by simp [Value.ownBlock] at hk)) hown; rw [Nat.zero_add, List.nil_append] at hR; rw [HBL.out]; exact ⟨_, rfl, R, hR, A3⟩
 · rw [if_pos (by simpa using hf)] at hr; simp only [Prod.mk.injEq] at hr; obtain ⟨rfl, rfl⟩ := hr; have hRM := fun W A => hRM W A _ _ _ (by rw [roomV, if_pos (by simpa using hf)])
   have hne : (findE L ⟨kk, kx, kn, kp, kl, ks⟩ != 0) = true := by simpa using hf
   have hne2 : (findE L ⟨kk, kx, kn, kp, kl, ks⟩ == 0) = false := by simpa using hf
   have hRMH := hid' hRM; clear hRM H hf; generalize findE L _ = fe at *; go_enter Tryz.func100, Tryz.ntmps100
   go_wp2_with fail
   refine (hRMH.out _ A1).mono ?_; rintro r w1 ⟨rfl, A2⟩; clear A1; go_wp2_with fail
   go_ret2
   exact ⟨_, rfl, [], .inl ⟨rfl, rfl, rfl, rfl⟩, A2.keep hsub⟩
end Go.Proofs.YtoogmimbmgdflaaGreat
