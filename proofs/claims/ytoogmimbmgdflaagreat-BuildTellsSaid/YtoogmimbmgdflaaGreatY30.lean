/- Parts of the proof: Rxs, Rxt, Rxq. -/
import Derived.Test.YtoogmimbmgdflaaGreatY24
import Derived.Test.YtoogmimbmgdflaaGreatY29
namespace Go.Proofs.YtoogmimbmgdflaaGreat
open Go.RowKit
variable {w w0 : World} {M : List (Nat × List C)} {gp n : Nat} {cur : Array Value} {E J0 K : List (Nat × Obj)} {L : List C}
def SetCut (w0 : World) (M : List (Nat × List C)) (T : TypeId) (sz n : Nat) (xs : List Value) (J : List (Nat × Obj)) (g : Nat) (cur : Array Value) (j gp cap nl : Nat) (K2 : List (Nat × Obj)) (wx : World) : Prop :=
 ∃ g1 cap1 cur1, n ≤ cap1 ∧ cap1 ≤ maxLen ∧ cur1.size = cap1 * sz ∧ cur1.toList.take (n * sz) = xs ∧ xs.length = n * sz ∧
  Ats w0 wx M ((g1, Obj.cells cur1 T) :: ((J ++ [(g, Obj.cells (cur.setIfInBounds j (.slice (some ⟨g1, 0, none⟩) n cap1)) 108), (gp, refBox (.slice (some ⟨g, 0, none⟩) nl cap))]) ++ K2))
theorem SetCut.of {W : World} {T : TypeId} {sz : Nat} {xs : List Value} {J : List (Nat × Obj)} {g : Nat} {j cap nl : Nat} {K2 R : List (Nat × Obj)} {g1 cap1 : Nat} (_hn : 0 < n) (hR : RowG T sz R (.slice (some ⟨g1, 0, none⟩) n cap1) n xs)
 (A : Ats w0 W M (R ++ ((J ++ [(g, Obj.cells cur 108), (gp, refBox (.slice (some ⟨g, 0, none⟩) nl cap))]) ++ K2))) :
 SetCut w0 M T sz n xs J g cur j gp cap nl K2 (W.setCell ⟨g, j, none⟩ (.slice (some ⟨g1, 0, none⟩) n cap1)) := by
 rcases hR with ⟨h, -⟩ | ⟨g', cap', cur1, hv, rfl, h1, h2, h3, h4, h5⟩
 · simp at h
 · simp only [Value.slice.injEq, Option.some.injEq, Addr.mk.injEq, true_and, and_true] at hv; obtain ⟨rfl, rfl⟩ := hv; refine ⟨g1, cap1, cur1, h1, h2, h3, h4, h5, ?_⟩; have A1 : Ats w0 W M ((((g1, Obj.cells cur1 T) :: J) ++ [(g, Obj.cells cur 108), (gp, refBox (.slice (some ⟨g, 0, none⟩) nl cap))]) ++ K2) := A; exact A1.storeRow j (.slice (some ⟨g1, 0, none⟩) n cap1)
theorem SetCut.any {T : TypeId} {sz : Nat} {xs : List Value} {J : List (Nat × Obj)} {g : Nat} {j cap nl : Nat} {K2 : List (Nat × Obj)} {wx : World} (h : SetCut w0 M T sz n xs J g cur j gp cap nl K2 wx) : AnyA w0 M ((gp, refBox (.slice (some ⟨g, 0, none⟩) nl cap)) :: K2) wx := by
 obtain ⟨g1, cap1, cur1, -, -, -, -, -, A⟩ := h
 have hs : ((gp, refBox (.slice (some ⟨g, 0, none⟩) nl cap)) :: K2).Sublist ((J ++ [(g, Obj.cells (cur.setIfInBounds j (.slice (some ⟨g1, 0, none⟩) n cap1)) 108), (gp, refBox (.slice (some ⟨g, 0, none⟩) nl cap))]) ++ K2) :=
  List.Sublist.append_right ((List.sublist_cons_self (g, Obj.cells (cur.setIfInBounds j (.slice (some ⟨g1, 0, none⟩) n cap1)) 108) [(gp, refBox (.slice (some ⟨g, 0, none⟩) nl cap))]).trans (List.sublist_append_right J _)) K2
 exact A.keep (hs.trans (List.sublist_cons_self _ _))
theorem six_take {I : Nat} {l : List O} (o : O) (h : cur.toList.take (n * 6) = l.flatMap O.cells) (hI : I < l.length) : (six cur (I * 6) o).toList.take (n * 6) = (l.set I o).flatMap O.cells := by
 rw [flat_set O.cells cells_length l I o hI, ← h]; unfold six; simp only [take_setIf]; rfl
set_option maxRecDepth 100000 in
set_option maxHeartbeats 400000 in
theorem rset_item (H : RefK J0 gp L E) (A : Ats w0 w M (E ++ K)) {kk kp kl xk xn xp xl az lz i : Int} {kx xx : Bool} {ks xs : ByteArray} {N I : Nat} {c : C}
 (hc : L[N]? = some c) (hv : roomV L ⟨kk, kx, N, kp, kl, ks⟩ = (az, lz, 0)) (i0 : 0 ≤ i) (i1 : i < lz) (hI : az + i = I) (hlk : c.locked = false) (ht : c.text = false) (hk8 : (kk == 8) = false) (hm : mayH L ⟨xk, xx, xn, xp, xl, xs⟩ = true) (hIs : I < c.items.length) :
 Calls Tryz.prog 69 #[ptr gp, O.val ⟨kk, kx, N, kp, kl, ks⟩, .int .i64 i, O.val ⟨xk, xx, xn, xp, xl, xs⟩] w fun r w' => r = .returned (.int .i64 0) ∧ ∃ E', RefK J0 gp (L.set N { c with items := c.items.set I ⟨xk, xx, xn, xp, xl, xs⟩ }) E' ∧ Ats w0 w' M (E' ++ K) := by
 have hsm := cell_le hc H.bounds.2; have HH := hid' H
 obtain ⟨K2, hK2⟩ : ∃ K2, K2 = (w.heap.size + 1, Obj.cells #[.int .i64 xk, .bool xx, .int .i64 xn, .int .i64 xp, .int .i64 xl, .string xs] 39) :: (w.heap.size, Obj.cells #[.int .i64 kk, .bool kx, .int .i64 N, .int .i64 kp, .int .i64 kl, .string ks] 39) :: K := ⟨_, rfl⟩
 have A1 := (A.alloc (Obj.cells #[.int .i64 kk, .bool kx, .int .i64 N, .int .i64 kp, .int .i64 kl, .string ks] 39)).alloc (Obj.cells #[.int .i64 xk, .bool xx, .int .i64 xn, .int .i64 xp, .int .i64 xl, .string xs] 39); simp only [World.size_alloc] at A1
 have A1 : Ats w0 ((w.alloc (Obj.cells #[.int .i64 kk, .bool kx, .int .i64 N, .int .i64 kp, .int .i64 kl, .string ks] 39)).alloc (Obj.cells #[.int .i64 xk, .bool xx, .int .i64 xn, .int .i64 xp, .int .i64 xl, .string xs] 39)) M (E ++ K2) := A1.perm (by
  rw [hK2]
  classical refine List.perm_iff_count.2 fun q => ?_
  simp only [List.count_append, List.count_cons]
  omega)
 have hKs : K.Sublist K2 := by rw [hK2]; exact (List.sublist_cons_self _ _).trans (List.sublist_cons_self _ _)
 have mk : ∀ E, (w.heap.size, Obj.cells #[.int .i64 kk, .bool kx, .int .i64 N, .int .i64 kp, .int .i64 kl, .string ks] 39) ∈ E ++ K2 := fun E => by rw [hK2]; simp
 have mx : ∀ E, (w.heap.size + 1, Obj.cells #[.int .i64 xk, .bool xx, .int .i64 xn, .int .i64 xp, .int .i64 xl, .string xs] 39) ∈ E ++ K2 := fun E => by rw [hK2]; simp
 clear hK2 A; have hRM := fun W (A : Ats w0 W M (E ++ K2)) => rroom_any H A (fun q hq => List.mem_append_left _ hq) ⟨kk, kx, N, kp, kl, ks⟩ hv; have hMY := fun W (A : Ats w0 W M (E ++ K2)) => rhmay_any H A (fun q hq => List.mem_append_left _ hq) ⟨xk, xx, xn, xp, xl, xs⟩ rfl; obtain ⟨J, g, cap, cur, vi, vb, rfl, hcap, hi, hcell, v0, v1, v2, v3, hup⟩ := H.open hc
 have mg : (gp, refBox (.slice (some ⟨g, 0, none⟩) L.length cap)) ∈ (J ++ [(g, Obj.cells cur 108), (gp, refBox (.slice (some ⟨g, 0, none⟩) L.length cap))]) ++ K2 := by simp
 have mr : (g, Obj.cells cur 108) ∈ (J ++ [(g, Obj.cells cur 108), (gp, refBox (.slice (some ⟨g, 0, none⟩) L.length cap))]) ++ K2 := by simp
 have hcell2 := hcell; obtain ⟨vi', vb', hvs, hi6, hb1, ht1, ht2⟩ := hcell2; simp only [List.cons.injEq, true_and, and_true] at hvs; obtain ⟨rfl, rfl⟩ := hvs; have HUP := hid' hup; have HCELL := hid' hcell; have HIT := hid' hi6
 obtain ⟨g2, cap2, cur2, fz2, hvx, m2, q1, q2, q3, q4⟩ : ∃ g2 cap2 cur2 fz2, vi = .slice (some ⟨g2, 0, none⟩) c.items.length cap2 ∧ (g2, Obj.cells cur2 39 fz2) ∈ J ∧ c.items.length ≤ cap2 ∧ cap2 ≤ maxLen ∧ cur2.toList.take (c.items.length * 6) = c.items.flatMap O.cells ∧ (c.items.flatMap O.cells).length = c.items.length * 6 := by
  rcases hi6 with ⟨-, h0, -⟩ | ⟨g2, cap2, cur2, fz2, h1, h2, h3, h4, h5, h6, h7⟩
  · omega
  · exact ⟨g2, cap2, cur2, fz2, h1, h2, h3, h4, h6, h7⟩
 subst hvx
 have m2' : (g2, Obj.cells cur2 39 fz2) ∈ (J ++ [(g, Obj.cells cur 108), (gp, refBox (.slice (some ⟨g, 0, none⟩) L.length cap))]) ++ K2 := by simp [m2]
 rw [hlk] at v3
 have hcapi : (N : Int) < cap := by omega
 have hcs : c.items.length ≤ 40000 := by rw [C.size, if_neg (by simp [ht])] at hsm; exact hsm
 have wr : IntKind.i64.wrap (az + i) = I := by rw [hI]; exact IntWalk.i64_in _ (by omega)
 rw [hm] at hMY; have HT := hid' q3; have HXL := hid' q4; have HSZ := hid' ht; have HRM := hid' hRM; have HMY := hid' hMY
 have hIi : (I : Int) < c.items.length := by omega
 have hpos : 0 < c.items.length := by omega
 obtain ⟨n, hn⟩ : ∃ n, c.items.length = n := ⟨_, rfl⟩
 obtain ⟨nl, hnl⟩ : ∃ nl, L.length = nl := ⟨_, rfl⟩
 rw [hn] at HT HXL HIT hIi hpos hIs hcs v1; rw [hnl] at mg mr m2' HRM HMY A1 HUP hcap hi
 obtain ⟨XS, hXS⟩ : ∃ XS, c.items.flatMap O.cells = XS := ⟨_, rfl⟩
 have hone : ∀ u ∈ XS, u.oneCell' = true := by rw [← hXS]; exact flat_one _
 have HONE := hid' hone; rw [hXS] at HT HXL; have HXS := hid' hXS; have HN := hid' hn; have HNL := hid' hnl; clear hRM hMY hup hcell hi6 hb1 ht1 ht2 q3 q4 m2 hsm hv hI hlk ht hn hnl H hc hXS hone q1 q2
 obtain ⟨E, hE⟩ : ∃ E, E = J ++ [(g, Obj.cells cur 108), (gp, refBox (.slice (some ⟨g, 0, none⟩) nl cap))] := ⟨_, rfl⟩
 rw [← hE] at mg mr m2' HRM HMY A1; have HE := hid' hE; clear hE; generalize c.kind = ck at *; obtain ⟨iz, hinf, hz0, hz1, hz2⟩ := info_parts Tryz.infoObj; go_enter Tryz.func69, Tryz.ntmps69
 go_wp2_with fail
 refine (HRM.out _ A1).mono ?_; rintro r w1 ⟨rfl, A2⟩; clear A1
 (try clear Rk); (try clear yk); (try clear Zk)
 have Rk := cells_of (A2.box _ (mk E)); have yk := blk_lt (A2.box _ (mk E))
 (try clear Rx); (try clear yx); (try clear Zx)
 have Rx := cells_of (A2.box _ (mx E)); have yx := blk_lt (A2.box _ (mx E))
 (try clear Rg); (try clear yg); (try clear Zg)
 have Rg := cells_of (A2.box _ mg); have yg := blk_lt (A2.box _ mg)
 (try clear Rr); (try clear yr); (try clear Zr)
 have Rr := cells_of (A2.box _ mr); have yr := blk_lt (A2.box _ mr)
 (try simp only at Rk yk Rx yx Rg yg Rr yr)
 go_upto_region 6 with (fail)
 go_quiet (fail)
 have A3 := A2.pure ((Chg.refl NoB w1).drewN nq); clear A2; generalize w1.drewN nq = w2 at *
 (try clear Rk); (try clear yk); (try clear Zk)
 have Rk := cells_of (A3.box _ (mk E)); have yk := blk_lt (A3.box _ (mk E))
 (try clear Rx); (try clear yx); (try clear Zx)
 have Rx := cells_of (A3.box _ (mx E)); have yx := blk_lt (A3.box _ (mx E))
 (try clear Rg); (try clear yg); (try clear Zg)
 have Rg := cells_of (A3.box _ mg); have yg := blk_lt (A3.box _ mg)
 (try clear Rr); (try clear yr); (try clear Zr)
 have Rr := cells_of (A3.box _ mr); have yr := blk_lt (A3.box _ mr)
 (try simp only at Rk yk Rx yx Rg yg Rr yr)
 go_upto_region 16 with (fail)
 go_wp2_with (first | (go_at_call 50; refine (HMY.out _ A3).mono ?_; rintro r w3 ⟨rfl, A3b⟩; clear A3; have A3 := A3b; clear A3b))
 (try clear Rk); (try clear yk); (try clear Zk)
 have Rk := cells_of (A3.box _ (mk E)); have yk := blk_lt (A3.box _ (mk E))
 (try clear Rx); (try clear yx); (try clear Zx)
 have Rx := cells_of (A3.box _ (mx E)); have yx := blk_lt (A3.box _ (mx E))
 (try clear Rg); (try clear yg); (try clear Zg)
 have Rg := cells_of (A3.box _ mg); have yg := blk_lt (A3.box _ mg)
 (try clear Rr); (try clear yr); (try clear Zr)
 have Rr := cells_of (A3.box _ mr); have yr := blk_lt (A3.box _ mr)
 (try simp only at Rk yk Rx yx Rg yg Rr yr)
 go_upto_region 18 with (fail)
 have HA := hid' A3
 go_cut [] (fun wx => SetCut w0 M 39 6 n XS J g cur (N * 4 + 1) gp cap nl K2 wx)
 case first =>
  clear Rg Rk Rx; have Rg := AnyA.cells (w0 := w0) (M := M) (show (gp, refBox (.slice (some ⟨g, 0, none⟩) nl cap)) ∈ (gp, refBox (.slice (some ⟨g, 0, none⟩) nl cap)) :: K2 by simp); have Rk := AnyA.cells (w0 := w0) (M := M) (List.mem_cons_of_mem (gp, refBox (.slice (some ⟨g, 0, none⟩) nl cap)) (mk []))
  have hSub : ((gp, refBox (.slice (some ⟨g, 0, none⟩) nl cap)) :: K2).Sublist (E ++ K2) := by
   rw [HE.out]; exact List.Sublist.append_right ((List.sublist_cons_self (g, Obj.cells cur 108) [(gp, refBox (.slice (some ⟨g, 0, none⟩) nl cap))]).trans (List.sublist_append_right J _)) K2
  refine wp_region_held_drew (S := fun W' => AnyA w0 M ((gp, refBox (.slice (some ⟨g, 0, none⟩) nl cap)) :: K2) W') (by kernel_rfl) (A3.drew.keep hSub) (fun hHeld => ?_); refine wpAnyH_take (i := 0) (oi := { dst := some 107, op := _, type := _, pos := _, after := _, guard := _ }) (v := ?_) rfl (by kernel_rfl) (by kernel_rfl) (by kernel_rfl) (fun _ _ _ h => h) (Or.inl ⟨by rfl, ?_⟩) (by assumption) ?_; rotate_left
  · intro w hSw; go_simp; try with_reducible rfl
  try simp only [Act.put, List.setIfInBounds_toArray, List.set_cons_zero, List.set_cons_succ]
  refine wpAnyH_take (i := 1) (oi := { dst := some 108, op := _, type := _, pos := _, after := _, guard := _ }) (v := ?_) rfl (by kernel_rfl) (by kernel_rfl) (by kernel_rfl) (fun _ _ _ h => h) (Or.inl ⟨by rfl, ?_⟩) (by assumption) ?_; rotate_left
  · intro w hSw; go_simp; try with_reducible rfl
  try simp only [Act.put, List.setIfInBounds_toArray, List.set_cons_zero, List.set_cons_succ]
  refine wpAnyH_take (i := 2) (oi := { dst := some 109, op := _, type := _, pos := _, after := _, guard := _ }) (v := ?_) rfl (by kernel_rfl) (by kernel_rfl) (by kernel_rfl) (fun _ _ _ h => h) (Or.inl ⟨by rfl, ?_⟩) (by assumption) ?_; rotate_left
  · intro w hSw; go_simp; try with_reducible rfl
  try simp only [Act.put, List.setIfInBounds_toArray, List.set_cons_zero, List.set_cons_succ]
  refine wpAnyH_take (i := 3) (oi := { dst := some 110, op := _, type := _, pos := _, after := _, guard := _ }) (v := ?_) rfl (by kernel_rfl) (by kernel_rfl) (by kernel_rfl) (fun _ _ _ h => h) (Or.inl ⟨by rfl, ?_⟩) (by assumption) ?_; rotate_left
  · intro w hSw; go_simp; try with_reducible rfl
  try simp only [Act.put, List.setIfInBounds_toArray, List.set_cons_zero, List.set_cons_succ]
  refine wpAnyH_take (i := 4) (oi := { dst := some 111, op := _, type := _, pos := _, after := _, guard := _ }) (v := ?_) rfl (by kernel_rfl) (by kernel_rfl) (by kernel_rfl) (fun _ _ _ h => h) (Or.inl ⟨by rfl, ?_⟩) (by assumption) ?_; rotate_left
  · intro w hSw; go_simp; try with_reducible rfl
  try simp only [Act.put, List.setIfInBounds_toArray, List.set_cons_zero, List.set_cons_succ]
  refine wpAnyH_take (i := 5) (oi := { dst := some 112, op := _, type := _, pos := _, after := _, guard := _ }) (v := ?_) rfl (by kernel_rfl) (by kernel_rfl) (by kernel_rfl) (fun _ _ _ h => h) (Or.inl ⟨by rfl, ?_⟩) (by assumption) ?_; rotate_left
  · intro w hSw; go_simp; try with_reducible rfl
  try simp only [Act.put, List.setIfInBounds_toArray, List.set_cons_zero, List.set_cons_succ]
  refine wpAnyH_take (i := 6) (oi := { dst := some 113, op := _, type := _, pos := _, after := _, guard := _ }) (v := ?_) rfl (by kernel_rfl) (by kernel_rfl) (by kernel_rfl) (fun _ _ _ h => h) (Or.inl ⟨by rfl, ?_⟩) (by assumption) ?_; rotate_left
  · intro w hSw; go_simp; try with_reducible rfl
  try simp only [Act.put, List.setIfInBounds_toArray, List.set_cons_zero, List.set_cons_succ]
  refine wpAnyH_take (i := 7) (oi := { dst := some 114, op := _, type := _, pos := _, after := _, guard := _ }) (v := ?_) rfl (by kernel_rfl) (by kernel_rfl) (by kernel_rfl) (fun _ _ _ h => h) (Or.inl ⟨by rfl, ?_⟩) (by assumption) ?_; rotate_left
  · intro w hSw; go_simp; try with_reducible rfl
  try simp only [Act.put, List.setIfInBounds_toArray, List.set_cons_zero, List.set_cons_succ]
  refine wpAnyH_take (i := 8) (oi := { dst := some 115, op := _, type := _, pos := _, after := _, guard := _ }) (v := ?_) rfl (by kernel_rfl) (by kernel_rfl) (by kernel_rfl) (fun _ _ _ h => h) (Or.inl ⟨by rfl, ?_⟩) (by assumption) ?_; rotate_left
  · intro w hSw; go_simp; try with_reducible rfl
  try simp only [Act.put, List.setIfInBounds_toArray, List.set_cons_zero, List.set_cons_succ]
  refine wpAnyH_take (i := 9) (oi := { dst := some 116, op := _, type := _, pos := _, after := _, guard := _ }) (v := ?_) rfl (by kernel_rfl) (by kernel_rfl) (by kernel_rfl) (fun _ _ _ h => h) (Or.inl ⟨by rfl, ?_⟩) (by assumption) ?_; rotate_left
  · intro w hSw; go_simp; try with_reducible rfl
  try simp only [Act.put, List.setIfInBounds_toArray, List.set_cons_zero, List.set_cons_succ]
  refine wpAnyH_take (i := 10) (oi := { dst := some 117, op := _, type := _, pos := _, after := _, guard := _ }) (v := ?_) rfl (by kernel_rfl) (by kernel_rfl) (by kernel_rfl) (fun _ _ _ h => h) (Or.inl ⟨by rfl, ?_⟩) (by assumption) ?_; rotate_left
  · intro w hSw; go_simp; try with_reducible rfl
  try simp only [Act.put, List.setIfInBounds_toArray, List.set_cons_zero, List.set_cons_succ]
  refine wpAnyH_take (i := 11) (oi := { dst := some 118, op := _, type := _, pos := _, after := _, guard := _ }) (v := ?_) rfl (by kernel_rfl) (by kernel_rfl) (by kernel_rfl) (fun _ _ _ h => h) (Or.inl ⟨by rfl, ?_⟩) (by assumption) ?_; rotate_left
  · intro w hSw; go_simp; try with_reducible rfl
  try simp only [Act.put, List.setIfInBounds_toArray, List.set_cons_zero, List.set_cons_succ]
  refine wpAnyH_take (i := 12) (oi := { dst := some 119, op := _, type := _, pos := _, after := _, guard := _ }) (v := ?_) rfl (by kernel_rfl) (by kernel_rfl) (by kernel_rfl) (fun _ _ _ h => h) (Or.inl ⟨by rfl, ?_⟩) (by assumption) ?_; rotate_left
  · intro w hSw; go_simp; try with_reducible rfl
  try simp only [Act.put, List.setIfInBounds_toArray, List.set_cons_zero, List.set_cons_succ]
  refine wpAnyH_take (i := 13) (oi := { dst := some 120, op := _, type := _, pos := _, after := _, guard := _ }) (v := ?_) rfl (by kernel_rfl) (by kernel_rfl) (by kernel_rfl) (fun _ _ _ h => h) (Or.inl ⟨by rfl, ?_⟩) (by assumption) ?_; rotate_left
  · intro w hSw; go_simp; try with_reducible rfl
  try simp only [Act.put, List.setIfInBounds_toArray, List.set_cons_zero, List.set_cons_succ]
  refine wpAnyH_ready (rs := [14]) (by kernel_rfl) (by simp) ?_; refine AllReadyH.cons (o := { dst := some 121, op := _, type := _, pos := _, after := _, guard := _ }) rfl (fun K' hK' => ?_) AllReadyH.nil; go_simp
  refine hK'.out _ _ ?_ (fun hHeld2 => ?_)
  · with_reducible assumption
  clear hK' K'
  try simp only [Act.put, List.setIfInBounds_toArray, List.set_cons_zero, List.set_cons_succ]
  refine wpAnyH_ready (rs := [15]) (by kernel_rfl) (by simp) ?_; refine AllReadyH.cons (o := { dst := some 122, op := _, type := _, pos := _, after := _, guard := _ }) rfl (fun K' hK' => ?_) AllReadyH.nil; refine step_app0 rfl (.const (.slice none 0 0)) (.tmp 121) 42 rfl 39 iz O.nil.val 6 56 Tryz.underObjs hinf hz0 hz1 hz2 rfl (by decide) (E ++ K2) (by first | exact HA.out | exact HA.out.drew) rfl ⟨g2, 0, none⟩ n cap2 XS rfl HXL.out (news_take (by first | exact (HA.out.box _ m2') | exact blk_drew (HA.out.box _ m2')) (n * 6) _ HT.out) HONE.out hpos (by unfold maxLen; omega) (by omega) ?_; intro g1 cap1 w7 R7 hR7 A7; have S7 : AnyA w0 M ((gp, refBox (.slice (some ⟨g, 0, none⟩) nl cap)) :: K2) w7 := A7.keep (hSub.trans (List.sublist_append_right _ _)); have HR7 := hid' hR7; have HC8 := hid' (SetCut.of (j := N * 4 + 1) hpos hR7 (HE.out ▸ A7)); have HA7 := hid' A7; clear hR7 A7 yr Rr; have Zr := free_of (HA7.out.box _ (List.mem_append_right R7 mr)); have yr := blk_lt (HA7.out.box _ (List.mem_append_right R7 mr)); have Rr := cells_of (HA7.out.box _ (List.mem_append_right R7 mr)); refine hK'.out _ _ ?_ (fun hHeld2 => ?_)
  · exact S7
  clear hK' K'
  try simp only [Act.put, List.setIfInBounds_toArray, List.set_cons_zero, List.set_cons_succ]
  refine wpAnyH_take (i := 16) (oi := { dst := some 123, op := _, type := _, pos := _, after := _, guard := _ }) (v := ?_) rfl (by kernel_rfl) (by kernel_rfl) (by kernel_rfl) (fun _ _ _ h => h) (Or.inl ⟨by rfl, ?_⟩) (by assumption) ?_; rotate_left
  · intro w hSw; go_simp; try with_reducible rfl
  try simp only [Act.put, List.setIfInBounds_toArray, List.set_cons_zero, List.set_cons_succ]
  refine wpAnyH_take (i := 17) (oi := { dst := some 124, op := _, type := _, pos := _, after := _, guard := _ }) (v := ?_) rfl (by kernel_rfl) (by kernel_rfl) (by kernel_rfl) (fun _ _ _ h => h) (Or.inl ⟨by rfl, ?_⟩) (by assumption) ?_; rotate_left
  · intro w hSw; go_simp; try with_reducible rfl
  try simp only [Act.put, List.setIfInBounds_toArray, List.set_cons_zero, List.set_cons_succ]
  refine wpAnyH_ready (rs := [18]) (by kernel_rfl) (by simp) ?_; refine AllReadyH.cons (o := { dst := none, op := _, type := _, pos := _, after := _, guard := _ }) rfl (fun K' hK' => ?_) AllReadyH.nil; go_simp
  refine hK'.out _ _ ?_ (fun hHeld2 => ?_)
  · exact HC8.out.any
  clear hK' K'
  try simp only [Act.put, List.setIfInBounds_toArray, List.set_cons_zero, List.set_cons_succ]
  refine wpAnyH_done (by kernel_rfl) ?_ _; go_wp2_with fail
  all_goals
   go_meet
   first
    | with_reducible exact HC8.out
    | with_reducible exact HC8.out.drew
 case rest =>
  obtain ⟨g1, cap1, cur1, k1, k2, k3, k4, k5, A4⟩ := hcut; generalize wc = w4 at *; clear Rk yk Rx yx Rg yg Rr yr A3 HA
  have hcur' : (cur.setIfInBounds (N * 4 + 1) (.slice (some ⟨g1, 0, none⟩) n cap1))[N * 4 + 1]? = some (.slice (some ⟨g1, 0, none⟩) n cap1) := by
   have hsz : N * 4 + 1 < cur.size := by
    rcases Nat.lt_or_ge (N * 4 + 1) cur.size with h | h
    · exact h
    · rw [Array.getElem?_eq_none h] at v1; simp at v1
   rw [Array.getElem?_setIfInBounds_self_of_lt hsz]
  generalize hcu : cur.setIfInBounds (N * 4 + 1) (.slice (some ⟨g1, 0, none⟩) n cap1) = cur' at *; have mk' : ∀ a b, _ ∈ a :: ((J ++ [b, (gp, refBox (.slice (some ⟨g, 0, none⟩) nl cap))]) ++ K2) := fun a b => List.mem_cons_of_mem a (mk _); have mx' : ∀ a b, _ ∈ a :: ((J ++ [b, (gp, refBox (.slice (some ⟨g, 0, none⟩) nl cap))]) ++ K2) := fun a b => List.mem_cons_of_mem a (mx _)
  have mg' : ∀ a b : Nat × Obj, (gp, refBox (.slice (some ⟨g, 0, none⟩) nl cap)) ∈ a :: ((J ++ [b, (gp, refBox (.slice (some ⟨g, 0, none⟩) nl cap))]) ++ K2) := fun a b => by simp
  have mr' : ∀ a : Nat × Obj, (g, Obj.cells cur' 108) ∈ a :: ((J ++ [(g, Obj.cells cur' 108), (gp, refBox (.slice (some ⟨g, 0, none⟩) nl cap))]) ++ K2) := fun a => by simp
  (try clear Rn); (try clear yn); (try clear Zn)
  have Rn := cells_of (A4.box _ m0); have yn := blk_lt (A4.box _ m0); have Zn := free_of (A4.box _ m0)
  (try clear Rk); (try clear yk); (try clear Zk)
  have Rk := cells_of (A4.box _ (mk' _ _)); have yk := blk_lt (A4.box _ (mk' _ _))
  (try clear Rx); (try clear yx); (try clear Zx)
  have Rx := cells_of (A4.box _ (mx' _ _)); have yx := blk_lt (A4.box _ (mx' _ _))
  (try clear Rg); (try clear yg); (try clear Zg)
  have Rg := cells_of (A4.box _ (mg' _ _)); have yg := blk_lt (A4.box _ (mg' _ _))
  (try clear Rr); (try clear yr); (try clear Zr)
  have Rr := cells_of (A4.box _ (mr' _)); have yr := blk_lt (A4.box _ (mr' _))
  (try simp only at Rn yn Zn Rk yk Rx yx Rg yg Rr yr)
  obtain ⟨b0, w0c⟩ : ∃ b, cur1[I * 6]? = some b := ⟨_, Array.getElem?_eq_getElem (show I * 6 < cur1.size by rw [k3]; omega)⟩
  obtain ⟨b1, w1c⟩ : ∃ b, cur1[I * 6 + 1]? = some b := ⟨_, Array.getElem?_eq_getElem (show I * 6 + 1 < cur1.size by rw [k3]; omega)⟩
  obtain ⟨b2, w2c⟩ : ∃ b, cur1[I * 6 + 2]? = some b := ⟨_, Array.getElem?_eq_getElem (show I * 6 + 2 < cur1.size by rw [k3]; omega)⟩
  obtain ⟨b3, w3c⟩ : ∃ b, cur1[I * 6 + 3]? = some b := ⟨_, Array.getElem?_eq_getElem (show I * 6 + 3 < cur1.size by rw [k3]; omega)⟩
  obtain ⟨b4, w4c⟩ : ∃ b, cur1[I * 6 + 4]? = some b := ⟨_, Array.getElem?_eq_getElem (show I * 6 + 4 < cur1.size by rw [k3]; omega)⟩
  obtain ⟨b5, w5c⟩ : ∃ b, cur1[I * 6 + 5]? = some b := ⟨_, Array.getElem?_eq_getElem (show I * 6 + 5 < cur1.size by rw [k3]; omega)⟩
  have HXX := hid' hcu
  have hcapj : (I : Int) < cap1 := by omega
  go_upto_region 19 with (fail)
  go_still_tail 14, (by kernel_rfl)
  go_wp2_with fail
  go_ret; refine ⟨rfl, _, HNL.out ▸ HUP.out [(g1, Obj.cells (six cur1 (I * 6) ⟨xk, xx, xn, xp, xl, xs⟩) 39)] { c with items := c.items.set I ⟨xk, xx, xn, xp, xl, xs⟩ } 1 (.slice (some ⟨g1, 0, none⟩) n cap1) (by omega) ?_ ?_, ?_⟩
  · have A5 := ((((((A4.put (I * 6) (.int .i64 xk)).put (I * 6 + 1) (.bool xx)).put (I * 6 + 2) (.int .i64 xn)).put (I * 6 + 3) (.int .i64 xp)).put (I * 6 + 4) (.int .i64 xl)).put (I * 6 + 5) (.string xs)).drew; have A6 := A5.keep (K' := (((g1, Obj.cells (six cur1 (I * 6) ⟨xk, xx, xn, xp, xl, xs⟩) 39) :: J) ++ [(g, Obj.cells cur' 108), (gp, refBox (.slice (some ⟨g, 0, none⟩) nl cap))]) ++ K) (List.Sublist.append_left hKs _); rw [← HXX.out] at A6; rw [HNL.out]; exact A6
  · obtain ⟨vi1, vb1, hvs1, h61, h11, t11, t21⟩ := HCELL.out; simp only [List.cons.injEq, Value.int.injEq, true_and, and_true] at hvs1; obtain ⟨hck, -, rfl⟩ := hvs1
    have hl : (c.items.set I (⟨xk, xx, xn, xp, xl, xs⟩ : O)).length = n := by rw [List.length_set]; exact HN.out
    refine ⟨_, _, by rw [hck]; rfl, ?_, h11.mono (fun q hq => List.mem_append_right _ hq), fun h => absurd (h.symm.trans HSZ.out) (by simp), fun _ => t21 HSZ.out⟩; simp only; rw [hl]; refine .inr ⟨g1, cap1, _, _, rfl, List.mem_append_left _ (List.mem_singleton.2 rfl), k1, k2, by simp [six, k3], six_take _ (k4.trans HXS.out.symm) (by rw [HN.out]; omega), by rw [flat_length O.cells 6 cells_length, hl]⟩
  · simp [C.size, HSZ.out]
set_option maxRecDepth 100000 in
set_option maxHeartbeats 2000000 in
theorem rset_no (H : RefK J0 gp L E) (A : Ats w0 w M (E ++ K)) {kk kp kl xk xn xp xl az lz i e : Int} {kx xx : Bool} {ks xs : ByteArray} {N : Nat} {c : C}
 (hc : L[N]? = some c) (hv : roomV L ⟨kk, kx, N, kp, kl, ks⟩ = (az, lz, 0)) (i0 : 0 ≤ i) (i1 : i < lz)
 (hcs : (c.locked = true ∧ e = 1) ∨ (c.locked = false ∧ kk = 8 ∧ (xk != 3) = true ∧ e = 6) ∨ (c.locked = false ∧ kk = 8 ∧ xk = 3 ∧ xn < 0 ∧ e = 2) ∨ (c.locked = false ∧ kk = 8 ∧ xk = 3 ∧ 0 ≤ xn ∧ 255 < xn ∧ e = 2) ∨ (c.locked = false ∧ (kk == 8) = false ∧ mayH L ⟨xk, xx, xn, xp, xl, xs⟩ = false ∧ e = 1)) :
 Calls Tryz.prog 69 #[ptr gp, O.val ⟨kk, kx, N, kp, kl, ks⟩, .int .i64 i, O.val ⟨xk, xx, xn, xp, xl, xs⟩] w fun r w' => r = .returned (.int .i64 e) ∧ Ats w0 w' M (E ++ K) := by
 have A1 := (A.alloc (Obj.cells #[.int .i64 kk, .bool kx, .int .i64 N, .int .i64 kp, .int .i64 kl, .string ks] 39)).alloc (Obj.cells #[.int .i64 xk, .bool xx, .int .i64 xn, .int .i64 xp, .int .i64 xl, .string xs] 39); simp only [World.size_alloc] at A1
 obtain ⟨KL, hKL⟩ : ∃ KL, KL = (w.heap.size + 1, Obj.cells #[.int .i64 xk, .bool xx, .int .i64 xn, .int .i64 xp, .int .i64 xl, .string xs] 39) :: (w.heap.size, Obj.cells #[.int .i64 kk, .bool kx, .int .i64 N, .int .i64 kp, .int .i64 kl, .string ks] 39) :: (E ++ K) := ⟨_, rfl⟩
 have hsub : (E ++ K).Sublist KL := by rw [hKL]; exact (List.sublist_cons_self _ _).trans (List.sublist_cons_self _ _)
 have mk : (w.heap.size, Obj.cells #[.int .i64 kk, .bool kx, .int .i64 N, .int .i64 kp, .int .i64 kl, .string ks] 39) ∈ KL := by rw [hKL]; simp
 have mx : (w.heap.size + 1, Obj.cells #[.int .i64 xk, .bool xx, .int .i64 xn, .int .i64 xp, .int .i64 xl, .string xs] 39) ∈ KL := by rw [hKL]; simp
 rw [← hKL] at A1; clear hKL A; have hEL : ∀ q ∈ E, q ∈ KL := fun q hq => hsub.subset (List.mem_append_left _ hq); have hRM := fun W (A : Ats w0 W M KL) => rroom_any H A hEL ⟨kk, kx, N, kp, kl, ks⟩ hv; have hMY := fun W (A : Ats w0 W M KL) => rhmay_any H A hEL ⟨xk, xx, xn, xp, xl, xs⟩ rfl; obtain ⟨g, cap, cur, vi, vb, hb, hcap, hg, hi, hcell, v0, v1, v2, v3⟩ := H.cell hc; have hbK := hEL _ hb; have hgK := hEL _ hg
 have hcapi : (N : Int) < cap := by omega
 have hni : (N : Int) < L.length := by omega
 have HRM := hid' hRM; have HMY := hid' hMY; generalize hlk : c.locked = lk at *; clear hRM hMY hv hc hb hg hcell H hEL hlk
 rcases hcs with ⟨rfl, rfl⟩ | ⟨rfl, rfl, hx3, rfl⟩ | ⟨rfl, rfl, rfl, x0, rfl⟩ | ⟨rfl, rfl, rfl, x0, x1, rfl⟩ | ⟨rfl, hk8, hm, rfl⟩
 case inr.inr.inr.inr =>
  rw [hm] at HMY; clear hm; generalize L.length = nl at *; go_enter Tryz.func69, Tryz.ntmps69
  go_wp2_with fail
  refine (HRM.out _ A1).mono ?_; rintro r w1 ⟨rfl, A2⟩; clear A1
  (try clear Rk); (try clear yk); (try clear Zk)
  have Rk := cells_of (A2.box _ mk); have yk := blk_lt (A2.box _ mk)
  (try clear Rx); (try clear yx); (try clear Zx)
  have Rx := cells_of (A2.box _ mx); have yx := blk_lt (A2.box _ mx)
  (try clear Rg); (try clear yg); (try clear Zg)
  have Rg := cells_of (A2.box _ hbK); have yg := blk_lt (A2.box _ hbK)
  (try clear Rr); (try clear yr); (try clear Zr)
  have Rr := cells_of (A2.box _ hgK); have yr := blk_lt (A2.box _ hgK)
  (try simp only at Rk yk Rx yx Rg yg Rr yr)
  go_upto_region 6 with (fail)
  go_quiet (fail)
  have A3 := A2.pure ((Chg.refl NoB w1).drewN nq); clear A2; generalize w1.drewN nq = w2 at *
  (try clear Rk); (try clear yk); (try clear Zk)
  have Rk := cells_of (A3.box _ mk); have yk := blk_lt (A3.box _ mk)
  (try clear Rx); (try clear yx); (try clear Zx)
  have Rx := cells_of (A3.box _ mx); have yx := blk_lt (A3.box _ mx)
  (try clear Rg); (try clear yg); (try clear Zg)
  have Rg := cells_of (A3.box _ hbK); have yg := blk_lt (A3.box _ hbK)
  (try clear Rr); (try clear yr); (try clear Zr)
  have Rr := cells_of (A3.box _ hgK); have yr := blk_lt (A3.box _ hgK)
  (try simp only at Rk yk Rx yx Rg yg Rr yr)
  go_upto_region 16 with (fail)
  go_wp2_with (first | (go_at_call 50; refine (HMY.out _ A3).mono ?_; rintro r w3 ⟨rfl, A3b⟩; clear A3; have A3 := A3b; clear A3b))
  go_wp2_with fail
  go_ret; exact ⟨rfl, A3.keep hsub⟩
 all_goals
  clear HMY; generalize L.length = nl at *; go_enter Tryz.func69, Tryz.ntmps69
  go_wp2_with fail
  refine (HRM.out _ A1).mono ?_; rintro r w1 ⟨rfl, A2⟩; clear A1
  (try clear Rk); (try clear yk); (try clear Zk)
  have Rk := cells_of (A2.box _ mk); have yk := blk_lt (A2.box _ mk)
  (try clear Rx); (try clear yx); (try clear Zx)
  have Rx := cells_of (A2.box _ mx); have yx := blk_lt (A2.box _ mx)
  (try clear Rg); (try clear yg); (try clear Zg)
  have Rg := cells_of (A2.box _ hbK); have yg := blk_lt (A2.box _ hbK)
  (try clear Rr); (try clear yr); (try clear Zr)
  have Rr := cells_of (A2.box _ hgK); have yr := blk_lt (A2.box _ hgK)
  (try simp only at Rk yk Rx yx Rg yg Rr yr)
  go_upto_region 6 with (fail)
  go_quiet (fail)
  have A3 := A2.pure ((Chg.refl NoB w1).drewN nq); clear A2; generalize w1.drewN nq = w2 at *
  (try clear Rk); (try clear yk); (try clear Zk)
  have Rk := cells_of (A3.box _ mk); have yk := blk_lt (A3.box _ mk)
  (try clear Rx); (try clear yx); (try clear Zx)
  have Rx := cells_of (A3.box _ mx); have yx := blk_lt (A3.box _ mx)
  (try clear Rg); (try clear yg); (try clear Zg)
  have Rg := cells_of (A3.box _ hbK); have yg := blk_lt (A3.box _ hbK)
  (try clear Rr); (try clear yr); (try clear Zr)
  have Rr := cells_of (A3.box _ hgK); have yr := blk_lt (A3.box _ hgK)
  (try simp only at Rk yk Rx yx Rg yg Rr yr)
  go_wp2_with fail
  go_ret; exact ⟨rfl, A3.keep hsub⟩
set_option maxRecDepth 100000 in
set_option maxHeartbeats 2000000 in
theorem rset_anyN (H : RefK J0 gp L E) (A : Ats w0 w M (E ++ K)) (o : O) (i : Int) (x : O) {L' : List C} {e : Int} (hox : o.kind ≠ 8 ∨ x.kind ≠ 3) (hr : setH L o i x = (L', e)) :
 Calls Tryz.prog 69 #[ptr gp, o.val, .int .i64 i, x.val] w fun r w' => r = .returned (.int .i64 e) ∧ ∃ E', RefK J0 gp L' E' ∧ Ats w0 w' M (E' ++ K) := by
 obtain ⟨kk, kx, kn, kp, kl, ks⟩ := o; obtain ⟨xk, xx, xn, xp, xl, xs⟩ := x; rw [setH] at hr
 by_cases hf : findE L ⟨kk, kx, kn, kp, kl, ks⟩ = 0
 · obtain ⟨c, hc, hv, hk, n0, n1, a0, l0, hal, hh, hM⟩ := find_cell hf; rw [if_neg (by simp [hf]), hc] at hr; simp only at hc n0 n1 hk hr
   obtain ⟨N, rfl⟩ : ∃ N : Nat, kn = N := ⟨kn.toNat, by omega⟩
   simp only [Int.toNat_natCast] at hc hr
   by_cases hi : i < 0 ∨ lenOf c ⟨kk, kx, N, kp, kl, ks⟩ ≤ i
   · rw [if_pos hi] at hr; simp only [Prod.mk.injEq] at hr; obtain ⟨rfl, rfl⟩ := hr; have A1 := (A.alloc (Obj.cells #[.int .i64 kk, .bool kx, .int .i64 N, .int .i64 kp, .int .i64 kl, .string ks] 39)).alloc (Obj.cells #[.int .i64 xk, .bool xx, .int .i64 xn, .int .i64 xp, .int .i64 xl, .string xs] 39); simp only [World.size_alloc] at A1; have hsub : ∀ a b : Nat × Obj, (E ++ K).Sublist (a :: b :: (E ++ K)) := fun a b => (List.sublist_cons_self _ _).trans (List.sublist_cons_self _ _); have HRM := hid' (rroom_any H A1 (fun q hq => (hsub _ _).subset (List.mem_append_left _ hq)) ⟨kk, kx, N, kp, kl, ks⟩ hv); have HH := hid' H; clear H hv hM hh hal hf hk hc A A1; generalize lenOf c _ = lz at *; generalize atOf _ = az at *
     rcases (show i < 0 ∨ (0 ≤ i ∧ lz ≤ i) by omega) with h | ⟨h, h'⟩
     all_goals
      clear hi; go_enter Tryz.func69, Tryz.ntmps69
      go_wp2_with fail
      refine HRM.out.mono ?_; rintro r w1 ⟨rfl, A2⟩; go_wp2_with fail
      go_ret; exact ⟨rfl, E, HH.out, A2.keep (hsub _ _)⟩
   · rw [if_neg hi] at hr
     have i0 : 0 ≤ i := by omega
     have i1 : i < lenOf c ⟨kk, kx, N, kp, kl, ks⟩ := by omega
     have hkt : c.text = true ↔ kk = 8 := by
      rw [← hk, C.kind]
      cases c.text <;> cases c.dict <;> simp
     by_cases h1 : c.locked = true
     · rw [if_pos h1] at hr; simp only [Prod.mk.injEq] at hr; obtain ⟨rfl, rfl⟩ := hr
       exact (rset_no H A hc hv i0 i1 (.inl ⟨h1, rfl⟩)).mono fun r w' h => ⟨h.1, E, H, h.2⟩
     · rw [if_neg h1] at hr; simp only [Bool.not_eq_true] at h1
       by_cases h2 : c.text = true
       · rw [if_pos h2] at hr; have hk8 := hkt.1 h2
         have h3 : ¬ xk = 3 := by
          rcases hox with h | h
          · exact absurd hk8 h
          · exact h
         · rw [if_pos (by simpa using h3)] at hr; simp only [Prod.mk.injEq] at hr; obtain ⟨rfl, rfl⟩ := hr
           exact (rset_no H A hc hv i0 i1 (.inr (.inl ⟨h1, hk8, by simpa using h3, rfl⟩))).mono fun r w' h => ⟨h.1, E, H, h.2⟩
       · rw [if_neg h2] at hr
         have hk8 : (kk == 8) = false := by simpa using fun h => h2 (hkt.2 h)
         simp only [Bool.not_eq_true] at h2
         by_cases h3 : mayH L ⟨xk, xx, xn, xp, xl, xs⟩ = false
         · rw [if_pos h3] at hr; simp only [Prod.mk.injEq] at hr; obtain ⟨rfl, rfl⟩ := hr
           exact (rset_no H A hc hv i0 i1 (.inr (.inr (.inr (.inr ⟨h1, hk8, h3, rfl⟩))))).mono fun r w' h => ⟨h.1, E, H, h.2⟩
         · rw [if_neg h3] at hr; simp only [Prod.mk.injEq] at hr; obtain ⟨rfl, rfl⟩ := hr
           have hI : atOf ⟨kk, kx, N, kp, kl, ks⟩ + i = ((atOf ⟨kk, kx, N, kp, kl, ks⟩ + i).toNat : Nat) := by omega
           refine rset_item H A hc hv i0 i1 hI h1 h2 hk8 (by simpa using h3) ?_; rw [C.size, if_neg (by simp [h2])] at hal; omega
 · rw [if_pos (by simpa using hf)] at hr; simp only [Prod.mk.injEq] at hr; obtain ⟨rfl, rfl⟩ := hr; have A1 := (A.alloc (Obj.cells #[.int .i64 kk, .bool kx, .int .i64 kn, .int .i64 kp, .int .i64 kl, .string ks] 39)).alloc (Obj.cells #[.int .i64 xk, .bool xx, .int .i64 xn, .int .i64 xp, .int .i64 xl, .string xs] 39); simp only [World.size_alloc] at A1; have hsub : ∀ a b : Nat × Obj, (E ++ K).Sublist (a :: b :: (E ++ K)) := fun a b => (List.sublist_cons_self _ _).trans (List.sublist_cons_self _ _); have HRM := hid' (rroom_any H A1 (fun q hq => (hsub _ _).subset (List.mem_append_left _ hq)) ⟨kk, kx, kn, kp, kl, ks⟩ (by rw [roomV, if_pos (by simpa using hf)]))
   have hne : (findE L ⟨kk, kx, kn, kp, kl, ks⟩ != 0) = true := by simpa using hf
   have hne2 : (findE L ⟨kk, kx, kn, kp, kl, ks⟩ == 0) = false := by simpa using hf
   have HH := hid' H; clear H hf A A1; generalize findE L _ = fe at *; go_enter Tryz.func69, Tryz.ntmps69
   go_wp2_with fail
   refine HRM.out.mono ?_; rintro r w1 ⟨rfl, A2⟩; go_wp2_with fail
   go_ret; exact ⟨rfl, E, HH.out, A2.keep (hsub _ _)⟩
end Go.Proofs.YtoogmimbmgdflaaGreat
