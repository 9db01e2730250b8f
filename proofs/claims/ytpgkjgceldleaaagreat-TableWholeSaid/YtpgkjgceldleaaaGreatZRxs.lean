/- The reference's heap: Set, where it stores. -/
import Derived.Test.YtpgkjgceldleaaaGreatZRefi
import Derived.Test.YtpgkjgceldleaaaGreatZRefj
import Derived.Test.YtpgkjgceldleaaaGreatZHeapc
import Derived.StillTailTactics
namespace Go.Proofs.YtpgkjgceldleaaaGreat
open Go.RowKit

/-- A cell's row was copied; the copy is the cell's. -/
def SetCut (w0 : World) (M : List (Nat × List C)) (T : TypeId) (sz n : Nat) (xs : List Value) (J : List (Nat × Obj)) (g : Nat) (cur : Array Value) (j gp cap nl : Nat) (K2 : List (Nat × Obj)) (wx : World) : Prop :=
  ∃ g1 cap1 cur1, n ≤ cap1 ∧ cap1 ≤ maxLen ∧ cur1.size = cap1 * sz ∧ cur1.toList.take (n * sz) = xs ∧ xs.length = n * sz ∧
    Ats w0 wx M ((g1, Obj.cells cur1 T) :: ((J ++ [(g, Obj.cells (cur.setIfInBounds j (.slice (some ⟨g1, 0, none⟩) n cap1)) 143), (gp, refBox (.slice (some ⟨g, 0, none⟩) nl cap))]) ++ K2))
theorem SetCut.drew {w0 : World} {M : List (Nat × List C)} {T : TypeId} {sz n : Nat} {xs : List Value} {J : List (Nat × Obj)} {g : Nat} {cur : Array Value} {j gp cap nl : Nat} {K2 : List (Nat × Obj)} {wx : World} (h : SetCut w0 M T sz n xs J g cur j gp cap nl K2 wx) : SetCut w0 M T sz n xs J g cur j gp cap nl K2 wx.drew := by
  obtain ⟨g1, cap1, cur1, h1, h2, h3, h4, h5, h6⟩ := h
  exact ⟨g1, cap1, cur1, h1, h2, h3, h4, h5, h6.drew⟩
theorem SetCut.of {w0 W : World} {M : List (Nat × List C)} {T : TypeId} {sz n : Nat} {xs : List Value} {J : List (Nat × Obj)} {g : Nat} {cur : Array Value} {j gp cap nl : Nat} {K2 R : List (Nat × Obj)} {g1 cap1 : Nat} (_hn : 0 < n) (hR : RowG T sz R (.slice (some ⟨g1, 0, none⟩) n cap1) n xs)
    (A : Ats w0 W M (R ++ ((J ++ [(g, Obj.cells cur 143), (gp, refBox (.slice (some ⟨g, 0, none⟩) nl cap))]) ++ K2))) :
    SetCut w0 M T sz n xs J g cur j gp cap nl K2 (W.setCell ⟨g, j, none⟩ (.slice (some ⟨g1, 0, none⟩) n cap1)) := by
  rcases hR with ⟨h, -⟩ | ⟨g', cap', cur1, hv, rfl, h1, h2, h3, h4, h5⟩
  · simp at h
  · simp only [Value.slice.injEq, Option.some.injEq, Addr.mk.injEq, true_and, and_true] at hv
    obtain ⟨rfl, rfl⟩ := hv
    refine ⟨g1, cap1, cur1, h1, h2, h3, h4, h5, ?_⟩
    have A1 : Ats w0 W M ((((g1, Obj.cells cur1 T) :: J) ++ [(g, Obj.cells cur 143), (gp, refBox (.slice (some ⟨g, 0, none⟩) nl cap))]) ++ K2) := A
    exact A1.storeRow j (.slice (some ⟨g1, 0, none⟩) n cap1)
theorem SetCut.any {w0 : World} {M : List (Nat × List C)} {T : TypeId} {sz n : Nat} {xs : List Value} {J : List (Nat × Obj)} {g : Nat} {cur : Array Value} {j gp cap nl : Nat} {K2 : List (Nat × Obj)} {wx : World} (h : SetCut w0 M T sz n xs J g cur j gp cap nl K2 wx) : AnyA w0 M ((gp, refBox (.slice (some ⟨g, 0, none⟩) nl cap)) :: K2) wx := by
  obtain ⟨g1, cap1, cur1, -, -, -, -, -, A⟩ := h
  have hs : ((gp, refBox (.slice (some ⟨g, 0, none⟩) nl cap)) :: K2).Sublist ((J ++ [(g, Obj.cells (cur.setIfInBounds j (.slice (some ⟨g1, 0, none⟩) n cap1)) 143), (gp, refBox (.slice (some ⟨g, 0, none⟩) nl cap))]) ++ K2) :=
    List.Sublist.append_right ((List.sublist_cons_self (g, Obj.cells (cur.setIfInBounds j (.slice (some ⟨g1, 0, none⟩) n cap1)) 143) [(gp, refBox (.slice (some ⟨g, 0, none⟩) nl cap))]).trans (List.sublist_append_right J _)) K2
  exact A.keep (hs.trans (List.sublist_cons_self _ _))
theorem six_take {cur : Array Value} {n I : Nat} {l : List O} (o : O) (h : cur.toList.take (n * 6) = l.flatMap O.cells) (hI : I < l.length) : (six cur (I * 6) o).toList.take (n * 6) = (l.set I o).flatMap O.cells := by
  rw [flat_set O.cells cells_length l I o hI, ← h]
  unfold six
  simp only [take_setIf]
  rfl
set_option maxRecDepth 100000 in
set_option maxHeartbeats 400000 in
theorem rset_text {J0 : List (Nat × Obj)} {w0 w : World} {M : List (Nat × List C)} {E K : List (Nat × Obj)} {gp : Nat} {L : List C} (H : RefK J0 gp L E) (A : Ats w0 w M (E ++ K)) {kk kp kl xk xn xp xl az lz i : Int} {kx xx : Bool} {ks xs : ByteArray} {N I : Nat} {c : C}
    (hc : L[N]? = some c) (hv : roomV L ⟨kk, kx, N, kp, kl, ks⟩ = (az, lz, 0)) (i0 : 0 ≤ i) (i1 : i < lz) (hI : az + i = I) (hlk : c.locked = false) (ht : c.text = true) (hk8 : kk = 8) (hx3 : xk = 3) (x0 : 0 ≤ xn) (x1 : xn ≤ 255) (hIs : I < c.bytes.length) :
    Calls Tryz.prog 115 #[ptr gp, O.val ⟨kk, kx, N, kp, kl, ks⟩, .int .i64 i, O.val ⟨xk, xx, xn, xp, xl, xs⟩] w fun r w' => r = .returned (.int .i64 0) ∧ ∃ E', RefK J0 gp (L.set N { c with bytes := c.bytes.set I (UInt8.ofNat xn.toNat) }) E' ∧ Ats w0 w' M (E' ++ K) := by
  have hsm := cell_le hc H.bounds.2
  have HH := hid' H
  obtain ⟨K2, hK2⟩ : ∃ K2, K2 = (w.heap.size + 1, Obj.cells #[.int .i64 xk, .bool xx, .int .i64 xn, .int .i64 xp, .int .i64 xl, .string xs] 38) :: (w.heap.size, Obj.cells #[.int .i64 kk, .bool kx, .int .i64 N, .int .i64 kp, .int .i64 kl, .string ks] 38) :: K := ⟨_, rfl⟩
  have A1 := (A.alloc (Obj.cells #[.int .i64 kk, .bool kx, .int .i64 N, .int .i64 kp, .int .i64 kl, .string ks] 38)).alloc (Obj.cells #[.int .i64 xk, .bool xx, .int .i64 xn, .int .i64 xp, .int .i64 xl, .string xs] 38)
  simp only [World.size_alloc] at A1
  have A1 : Ats w0 ((w.alloc (Obj.cells #[.int .i64 kk, .bool kx, .int .i64 N, .int .i64 kp, .int .i64 kl, .string ks] 38)).alloc (Obj.cells #[.int .i64 xk, .bool xx, .int .i64 xn, .int .i64 xp, .int .i64 xl, .string xs] 38)) M (E ++ K2) := A1.perm (by
    rw [hK2]
    classical refine List.perm_iff_count.2 fun q => ?_
    simp only [List.count_append, List.count_cons]
    omega)
  have hKs : K.Sublist K2 := by rw [hK2]; exact (List.sublist_cons_self _ _).trans (List.sublist_cons_self _ _)
  have mk : ∀ E, (w.heap.size, Obj.cells #[.int .i64 kk, .bool kx, .int .i64 N, .int .i64 kp, .int .i64 kl, .string ks] 38) ∈ E ++ K2 := fun E => by rw [hK2]; simp
  have mx : ∀ E, (w.heap.size + 1, Obj.cells #[.int .i64 xk, .bool xx, .int .i64 xn, .int .i64 xp, .int .i64 xl, .string xs] 38) ∈ E ++ K2 := fun E => by rw [hK2]; simp
  clear hK2 A
  have hRM := fun W (A : Ats w0 W M (E ++ K2)) => rroom_any H A (fun q hq => List.mem_append_left _ hq) ⟨kk, kx, N, kp, kl, ks⟩ hv
  have hMY := fun W (A : Ats w0 W M (E ++ K2)) => rhmay_any H A (fun q hq => List.mem_append_left _ hq) ⟨xk, xx, xn, xp, xl, xs⟩ rfl
  obtain ⟨J, g, cap, cur, vi, vb, rfl, hcap, hi, hcell, v0, v1, v2, v3, hup⟩ := H.open hc
  have mg : (gp, refBox (.slice (some ⟨g, 0, none⟩) L.length cap)) ∈ (J ++ [(g, Obj.cells cur 143), (gp, refBox (.slice (some ⟨g, 0, none⟩) L.length cap))]) ++ K2 := by simp
  have mr : (g, Obj.cells cur 143) ∈ (J ++ [(g, Obj.cells cur 143), (gp, refBox (.slice (some ⟨g, 0, none⟩) L.length cap))]) ++ K2 := by simp
  have hcell2 := hcell
  obtain ⟨vi', vb', hvs, hi6, hb1, ht1, ht2⟩ := hcell2
  simp only [List.cons.injEq, true_and, and_true] at hvs
  obtain ⟨rfl, rfl⟩ := hvs
  have HUP := hid' hup
  have HCELL := hid' hcell
  have HIT := hid' hb1
  obtain ⟨g2, cap2, cur2, fz2, hvx, m2, q1, q2, q3, q4⟩ : ∃ g2 cap2 cur2 fz2, vb = .slice (some ⟨g2, 0, none⟩) c.bytes.length cap2 ∧ (g2, Obj.cells cur2 5 fz2) ∈ J ∧ c.bytes.length ≤ cap2 ∧ cap2 ≤ maxLen ∧ cur2.toList.take (c.bytes.length * 1) = c.bytes.map vu8 ∧ (c.bytes.map vu8).length = c.bytes.length * 1 := by
    rcases hb1 with ⟨-, h0, -⟩ | ⟨g2, cap2, cur2, fz2, h1, h2, h3, h4, h5, h6, h7⟩
    · omega
    · exact ⟨g2, cap2, cur2, fz2, h1, h2, h3, h4, h6, h7⟩
  subst hvx
  have m2' : (g2, Obj.cells cur2 5 fz2) ∈ (J ++ [(g, Obj.cells cur 143), (gp, refBox (.slice (some ⟨g, 0, none⟩) L.length cap))]) ++ K2 := by simp [m2]
  rw [hlk] at v3
  have hcapi : (N : Int) < cap := by omega
  have hcs : c.bytes.length ≤ 40000 := by rw [C.size, if_pos ht] at hsm; exact hsm
  have wr : IntKind.i64.wrap (az + i) = I := by rw [hI]; exact IntWalk.i64_in _ (by omega)
  subst hx3
  subst hk8
  have hcv : IntKind.u8.wrap xn = xn := by simp [IntKind.wrap, IntKind.bits, IntKind.signed]; omega
  have HT := hid' q3
  have HXL := hid' q4
  have HSZ := hid' ht
  have HRM := hid' hRM
  have HMY := hid' hMY
  have hIi : (I : Int) < c.bytes.length := by omega
  have hpos : 0 < c.bytes.length := by omega
  obtain ⟨n, hn⟩ : ∃ n, c.bytes.length = n := ⟨_, rfl⟩
  obtain ⟨nl, hnl⟩ : ∃ nl, L.length = nl := ⟨_, rfl⟩
  rw [hn] at HT HXL HIT hIi hpos hIs hcs v2
  rw [hnl] at mg mr m2' HRM HMY A1 HUP hcap hi
  obtain ⟨XS, hXS⟩ : ∃ XS, c.bytes.map vu8 = XS := ⟨_, rfl⟩
  have hone : ∀ u ∈ XS, u.oneCell' = true := by rw [← hXS]; exact fun u hu => by obtain ⟨b, -, rfl⟩ := List.mem_map.1 hu; rfl
  have HONE := hid' hone
  rw [hXS] at HT HXL
  have HXS := hid' hXS
  have HN := hid' hn
  have HNL := hid' hnl
  clear hRM hMY hup hcell hi6 hb1 ht1 ht2 q3 q4 m2 hsm hv hI hlk ht hn hnl H hc hXS hone q1 q2
  obtain ⟨E, hE⟩ : ∃ E, E = J ++ [(g, Obj.cells cur 143), (gp, refBox (.slice (some ⟨g, 0, none⟩) nl cap))] := ⟨_, rfl⟩
  rw [← hE] at mg mr m2' HRM HMY A1
  have HE := hid' hE
  clear hE
  generalize c.kind = ck at *
  obtain ⟨iz, hinf, hz0, hz1, hz2⟩ := info_parts Tryz.infoByte
  go_enter Tryz.func115, Tryz.ntmps115
  go_wp2_with fail
  refine (HRM.out _ A1).mono ?_
  rintro r w1 ⟨rfl, A2⟩
  clear A1
  (try clear Rk); (try clear yk); (try clear Zk)
  have Rk := cells_of (A2.box _ (mk E))
  have yk := blk_lt (A2.box _ (mk E))
  (try clear Rx); (try clear yx); (try clear Zx)
  have Rx := cells_of (A2.box _ (mx E))
  have yx := blk_lt (A2.box _ (mx E))
  (try clear Rg); (try clear yg); (try clear Zg)
  have Rg := cells_of (A2.box _ mg)
  have yg := blk_lt (A2.box _ mg)
  (try clear Rr); (try clear yr); (try clear Zr)
  have Rr := cells_of (A2.box _ mr)
  have yr := blk_lt (A2.box _ mr)
  (try simp only at Rk yk Rx yx Rg yg Rr yr)
  go_upto_region 6 with (fail)
  go_quiet (fail)
  have A3 := A2.pure ((Chg.refl NoB w1).drewN nq)
  clear A2
  generalize w1.drewN nq = w2 at *
  (try clear Rk); (try clear yk); (try clear Zk)
  have Rk := cells_of (A3.box _ (mk E))
  have yk := blk_lt (A3.box _ (mk E))
  (try clear Rx); (try clear yx); (try clear Zx)
  have Rx := cells_of (A3.box _ (mx E))
  have yx := blk_lt (A3.box _ (mx E))
  (try clear Rg); (try clear yg); (try clear Zg)
  have Rg := cells_of (A3.box _ mg)
  have yg := blk_lt (A3.box _ mg)
  (try clear Rr); (try clear yr); (try clear Zr)
  have Rr := cells_of (A3.box _ mr)
  have yr := blk_lt (A3.box _ mr)
  (try simp only at Rk yk Rx yx Rg yg Rr yr)

  go_upto_region 13 with (fail)
  have HA := hid' A3
  go_cut [] (fun wx => SetCut w0 M 5 1 n XS J g cur (N * 4 + 2) gp cap nl K2 wx)
  case first =>
    clear Rg Rk Rx
    have Rg := AnyA.cells (w0 := w0) (M := M) (show (gp, refBox (.slice (some ⟨g, 0, none⟩) nl cap)) ∈ (gp, refBox (.slice (some ⟨g, 0, none⟩) nl cap)) :: K2 by simp)
    have Rk := AnyA.cells (w0 := w0) (M := M) (List.mem_cons_of_mem (gp, refBox (.slice (some ⟨g, 0, none⟩) nl cap)) (mk []))
    have hSub : ((gp, refBox (.slice (some ⟨g, 0, none⟩) nl cap)) :: K2).Sublist (E ++ K2) := by
      rw [HE.out]
      exact List.Sublist.append_right ((List.sublist_cons_self (g, Obj.cells cur 143) [(gp, refBox (.slice (some ⟨g, 0, none⟩) nl cap))]).trans (List.sublist_append_right J _)) K2
    refine wp_region_held_drew (S := fun W' => AnyA w0 M ((gp, refBox (.slice (some ⟨g, 0, none⟩) nl cap)) :: K2) W') (by kernel_rfl) (A3.drew.keep hSub) (fun hHeld => ?_)
    refine wpAnyH_take (i := 0) (oi := { dst := some 68, op := _, type := _, pos := _, after := _, guard := _ }) (v := ?_) rfl (by kernel_rfl) (by kernel_rfl) (by kernel_rfl) (fun _ _ _ h => h) (Or.inl ⟨by rfl, ?_⟩) (by assumption) ?_
    rotate_left
    · intro w hSw; go_simp; try with_reducible rfl
    try simp only [Act.put, List.setIfInBounds_toArray, List.set_cons_zero, List.set_cons_succ]
    refine wpAnyH_take (i := 1) (oi := { dst := some 69, op := _, type := _, pos := _, after := _, guard := _ }) (v := ?_) rfl (by kernel_rfl) (by kernel_rfl) (by kernel_rfl) (fun _ _ _ h => h) (Or.inl ⟨by rfl, ?_⟩) (by assumption) ?_
    rotate_left
    · intro w hSw; go_simp; try with_reducible rfl
    try simp only [Act.put, List.setIfInBounds_toArray, List.set_cons_zero, List.set_cons_succ]
    refine wpAnyH_take (i := 2) (oi := { dst := some 70, op := _, type := _, pos := _, after := _, guard := _ }) (v := ?_) rfl (by kernel_rfl) (by kernel_rfl) (by kernel_rfl) (fun _ _ _ h => h) (Or.inl ⟨by rfl, ?_⟩) (by assumption) ?_
    rotate_left
    · intro w hSw; go_simp; try with_reducible rfl
    try simp only [Act.put, List.setIfInBounds_toArray, List.set_cons_zero, List.set_cons_succ]
    refine wpAnyH_take (i := 3) (oi := { dst := some 71, op := _, type := _, pos := _, after := _, guard := _ }) (v := ?_) rfl (by kernel_rfl) (by kernel_rfl) (by kernel_rfl) (fun _ _ _ h => h) (Or.inl ⟨by rfl, ?_⟩) (by assumption) ?_
    rotate_left
    · intro w hSw; go_simp; try with_reducible rfl
    try simp only [Act.put, List.setIfInBounds_toArray, List.set_cons_zero, List.set_cons_succ]
    refine wpAnyH_take (i := 4) (oi := { dst := some 72, op := _, type := _, pos := _, after := _, guard := _ }) (v := ?_) rfl (by kernel_rfl) (by kernel_rfl) (by kernel_rfl) (fun _ _ _ h => h) (Or.inl ⟨by rfl, ?_⟩) (by assumption) ?_
    rotate_left
    · intro w hSw; go_simp; try with_reducible rfl
    try simp only [Act.put, List.setIfInBounds_toArray, List.set_cons_zero, List.set_cons_succ]
    refine wpAnyH_take (i := 5) (oi := { dst := some 73, op := _, type := _, pos := _, after := _, guard := _ }) (v := ?_) rfl (by kernel_rfl) (by kernel_rfl) (by kernel_rfl) (fun _ _ _ h => h) (Or.inl ⟨by rfl, ?_⟩) (by assumption) ?_
    rotate_left
    · intro w hSw; go_simp; try with_reducible rfl
    try simp only [Act.put, List.setIfInBounds_toArray, List.set_cons_zero, List.set_cons_succ]
    refine wpAnyH_take (i := 6) (oi := { dst := some 74, op := _, type := _, pos := _, after := _, guard := _ }) (v := ?_) rfl (by kernel_rfl) (by kernel_rfl) (by kernel_rfl) (fun _ _ _ h => h) (Or.inl ⟨by rfl, ?_⟩) (by assumption) ?_
    rotate_left
    · intro w hSw; go_simp; try with_reducible rfl
    try simp only [Act.put, List.setIfInBounds_toArray, List.set_cons_zero, List.set_cons_succ]
    refine wpAnyH_take (i := 7) (oi := { dst := some 75, op := _, type := _, pos := _, after := _, guard := _ }) (v := ?_) rfl (by kernel_rfl) (by kernel_rfl) (by kernel_rfl) (fun _ _ _ h => h) (Or.inl ⟨by rfl, ?_⟩) (by assumption) ?_
    rotate_left
    · intro w hSw; go_simp; try with_reducible rfl
    try simp only [Act.put, List.setIfInBounds_toArray, List.set_cons_zero, List.set_cons_succ]
    refine wpAnyH_take (i := 8) (oi := { dst := some 76, op := _, type := _, pos := _, after := _, guard := _ }) (v := ?_) rfl (by kernel_rfl) (by kernel_rfl) (by kernel_rfl) (fun _ _ _ h => h) (Or.inl ⟨by rfl, ?_⟩) (by assumption) ?_
    rotate_left
    · intro w hSw; go_simp; try with_reducible rfl
    try simp only [Act.put, List.setIfInBounds_toArray, List.set_cons_zero, List.set_cons_succ]
    refine wpAnyH_take (i := 9) (oi := { dst := some 77, op := _, type := _, pos := _, after := _, guard := _ }) (v := ?_) rfl (by kernel_rfl) (by kernel_rfl) (by kernel_rfl) (fun _ _ _ h => h) (Or.inl ⟨by rfl, ?_⟩) (by assumption) ?_
    rotate_left
    · intro w hSw; go_simp; try with_reducible rfl
    try simp only [Act.put, List.setIfInBounds_toArray, List.set_cons_zero, List.set_cons_succ]
    refine wpAnyH_take (i := 10) (oi := { dst := some 78, op := _, type := _, pos := _, after := _, guard := _ }) (v := ?_) rfl (by kernel_rfl) (by kernel_rfl) (by kernel_rfl) (fun _ _ _ h => h) (Or.inl ⟨by rfl, ?_⟩) (by assumption) ?_
    rotate_left
    · intro w hSw; go_simp; try with_reducible rfl
    try simp only [Act.put, List.setIfInBounds_toArray, List.set_cons_zero, List.set_cons_succ]
    refine wpAnyH_take (i := 11) (oi := { dst := some 79, op := _, type := _, pos := _, after := _, guard := _ }) (v := ?_) rfl (by kernel_rfl) (by kernel_rfl) (by kernel_rfl) (fun _ _ _ h => h) (Or.inl ⟨by rfl, ?_⟩) (by assumption) ?_
    rotate_left
    · intro w hSw; go_simp; try with_reducible rfl
    try simp only [Act.put, List.setIfInBounds_toArray, List.set_cons_zero, List.set_cons_succ]
    refine wpAnyH_take (i := 12) (oi := { dst := some 80, op := _, type := _, pos := _, after := _, guard := _ }) (v := ?_) rfl (by kernel_rfl) (by kernel_rfl) (by kernel_rfl) (fun _ _ _ h => h) (Or.inl ⟨by rfl, ?_⟩) (by assumption) ?_
    rotate_left
    · intro w hSw; go_simp; try with_reducible rfl
    try simp only [Act.put, List.setIfInBounds_toArray, List.set_cons_zero, List.set_cons_succ]
    refine wpAnyH_take (i := 13) (oi := { dst := some 81, op := _, type := _, pos := _, after := _, guard := _ }) (v := ?_) rfl (by kernel_rfl) (by kernel_rfl) (by kernel_rfl) (fun _ _ _ h => h) (Or.inl ⟨by rfl, ?_⟩) (by assumption) ?_
    rotate_left
    · intro w hSw; go_simp; try with_reducible rfl
    try simp only [Act.put, List.setIfInBounds_toArray, List.set_cons_zero, List.set_cons_succ]
    refine wpAnyH_ready (rs := [14]) (by kernel_rfl) (by simp) ?_
    refine AllReadyH.cons (o := { dst := some 82, op := _, type := _, pos := _, after := _, guard := _ }) rfl (fun K' hK' => ?_) AllReadyH.nil
    go_simp
    refine hK'.out _ _ ?_ (fun hHeld2 => ?_)
    · with_reducible assumption
    clear hK' K'
    try simp only [Act.put, List.setIfInBounds_toArray, List.set_cons_zero, List.set_cons_succ]
    refine wpAnyH_ready (rs := [15]) (by kernel_rfl) (by simp) ?_
    refine AllReadyH.cons (o := { dst := some 83, op := _, type := _, pos := _, after := _, guard := _ }) rfl (fun K' hK' => ?_) AllReadyH.nil
    refine step_app0 rfl (.const (.slice none 0 0)) (.tmp 82) 44 rfl 5 iz (.int .u8 0) 1 1 Tryz.underBytes hinf hz0 hz1 hz2 rfl (by decide) (E ++ K2) (by first | exact HA.out | exact HA.out.drew) rfl ⟨g2, 0, none⟩ n cap2 XS rfl HXL.out (news_take (by first | exact (HA.out.box _ m2') | exact blk_drew (HA.out.box _ m2')) (n * 1) _ HT.out) HONE.out hpos (by unfold maxLen; omega) (by omega) ?_
    intro g1 cap1 w7 R7 hR7 A7
    have S7 : AnyA w0 M ((gp, refBox (.slice (some ⟨g, 0, none⟩) nl cap)) :: K2) w7 := A7.keep (hSub.trans (List.sublist_append_right _ _))
    have HR7 := hid' hR7
    have HC8 := hid' (SetCut.of (j := N * 4 + 2) hpos hR7 (HE.out ▸ A7))
    have HA7 := hid' A7
    clear hR7 A7 yr Rr
    have Zr := free_of (HA7.out.box _ (List.mem_append_right R7 mr))
    have yr := blk_lt (HA7.out.box _ (List.mem_append_right R7 mr))
    have Rr := cells_of (HA7.out.box _ (List.mem_append_right R7 mr))
    refine hK'.out _ _ ?_ (fun hHeld2 => ?_)
    · exact S7
    clear hK' K'
    try simp only [Act.put, List.setIfInBounds_toArray, List.set_cons_zero, List.set_cons_succ]
    refine wpAnyH_take (i := 16) (oi := { dst := some 84, op := _, type := _, pos := _, after := _, guard := _ }) (v := ?_) rfl (by kernel_rfl) (by kernel_rfl) (by kernel_rfl) (fun _ _ _ h => h) (Or.inl ⟨by rfl, ?_⟩) (by assumption) ?_
    rotate_left
    · intro w hSw; go_simp; try with_reducible rfl
    try simp only [Act.put, List.setIfInBounds_toArray, List.set_cons_zero, List.set_cons_succ]
    refine wpAnyH_take (i := 17) (oi := { dst := some 85, op := _, type := _, pos := _, after := _, guard := _ }) (v := ?_) rfl (by kernel_rfl) (by kernel_rfl) (by kernel_rfl) (fun _ _ _ h => h) (Or.inl ⟨by rfl, ?_⟩) (by assumption) ?_
    rotate_left
    · intro w hSw; go_simp; try with_reducible rfl
    try simp only [Act.put, List.setIfInBounds_toArray, List.set_cons_zero, List.set_cons_succ]
    refine wpAnyH_ready (rs := [18]) (by kernel_rfl) (by simp) ?_
    refine AllReadyH.cons (o := { dst := none, op := _, type := _, pos := _, after := _, guard := _ }) rfl (fun K' hK' => ?_) AllReadyH.nil
    go_simp
    refine hK'.out _ _ ?_ (fun hHeld2 => ?_)
    · exact HC8.out.any
    clear hK' K'
    try simp only [Act.put, List.setIfInBounds_toArray, List.set_cons_zero, List.set_cons_succ]
    refine wpAnyH_done (by kernel_rfl) ?_ _
    go_wp2_with fail
    all_goals
      go_meet
      first
        | with_reducible exact HC8.out
        | with_reducible exact HC8.out.drew
  case rest =>
    obtain ⟨g1, cap1, cur1, k1, k2, k3, k4, k5, A4⟩ := hcut
    generalize wc = w4 at *
    clear Rk yk Rx yx Rg yg Rr yr A3 HA
    have hcur' : (cur.setIfInBounds (N * 4 + 2) (.slice (some ⟨g1, 0, none⟩) n cap1))[N * 4 + 2]? = some (.slice (some ⟨g1, 0, none⟩) n cap1) := by
      have hsz : N * 4 + 2 < cur.size := by
        rcases Nat.lt_or_ge (N * 4 + 2) cur.size with h | h
        · exact h
        · rw [Array.getElem?_eq_none h] at v2; simp at v2
      rw [Array.getElem?_setIfInBounds_self_of_lt hsz]
    generalize hcu : cur.setIfInBounds (N * 4 + 2) (.slice (some ⟨g1, 0, none⟩) n cap1) = cur' at *
    have mk' : ∀ a b, _ ∈ a :: ((J ++ [b, (gp, refBox (.slice (some ⟨g, 0, none⟩) nl cap))]) ++ K2) := fun a b => List.mem_cons_of_mem a (mk _)
    have mx' : ∀ a b, _ ∈ a :: ((J ++ [b, (gp, refBox (.slice (some ⟨g, 0, none⟩) nl cap))]) ++ K2) := fun a b => List.mem_cons_of_mem a (mx _)
    have mg' : ∀ a b : Nat × Obj, (gp, refBox (.slice (some ⟨g, 0, none⟩) nl cap)) ∈ a :: ((J ++ [b, (gp, refBox (.slice (some ⟨g, 0, none⟩) nl cap))]) ++ K2) := fun a b => by simp
    have mr' : ∀ a : Nat × Obj, (g, Obj.cells cur' 143) ∈ a :: ((J ++ [(g, Obj.cells cur' 143), (gp, refBox (.slice (some ⟨g, 0, none⟩) nl cap))]) ++ K2) := fun a => by simp
    (try clear Rn); (try clear yn); (try clear Zn)
    have Rn := cells_of (A4.box _ m0)
    have yn := blk_lt (A4.box _ m0)
    have Zn := free_of (A4.box _ m0)
    (try clear Rk); (try clear yk); (try clear Zk)
    have Rk := cells_of (A4.box _ (mk' _ _))
    have yk := blk_lt (A4.box _ (mk' _ _))
    (try clear Rx); (try clear yx); (try clear Zx)
    have Rx := cells_of (A4.box _ (mx' _ _))
    have yx := blk_lt (A4.box _ (mx' _ _))
    (try clear Rg); (try clear yg); (try clear Zg)
    have Rg := cells_of (A4.box _ (mg' _ _))
    have yg := blk_lt (A4.box _ (mg' _ _))
    (try clear Rr); (try clear yr); (try clear Zr)
    have Rr := cells_of (A4.box _ (mr' _))
    have yr := blk_lt (A4.box _ (mr' _))
    (try simp only at Rn yn Zn Rk yk Rx yx Rg yg Rr yr)
    obtain ⟨ob, hob⟩ : ∃ ob, cur1[I]? = some ob := ⟨_, Array.getElem?_eq_getElem (show I < cur1.size by rw [k3]; omega)⟩
    have HXX := hid' hcu
    have hcapj : (I : Int) < cap1 := by omega
    go_upto_region 14 with (fail)
    go_still_tail 16, (by kernel_rfl)
    go_wp2_with fail
    go_ret
    refine ⟨rfl, _, HNL.out ▸ HUP.out [(g1, Obj.cells (cur1.setIfInBounds I (.int .u8 xn)) 5)] { c with bytes := c.bytes.set I (UInt8.ofNat xn.toNat) } 2 (.slice (some ⟨g1, 0, none⟩) n cap1) (by omega) ?_ ?_, ?_⟩
    · have A5 := (A4.put I (.int .u8 xn)).drew
      have A6 := A5.keep (K' := (((g1, Obj.cells (cur1.setIfInBounds I (.int .u8 xn)) 5) :: J) ++ [(g, Obj.cells cur' 143), (gp, refBox (.slice (some ⟨g, 0, none⟩) nl cap))]) ++ K) (List.Sublist.append_left hKs _)
      rw [← HXX.out] at A6
      rw [HNL.out]
      exact A6
    · obtain ⟨vi1, vb1, hvs1, h61, h11, t11, t21⟩ := HCELL.out
      simp only [List.cons.injEq, Value.int.injEq, true_and, and_true] at hvs1
      obtain ⟨hck, rfl, -⟩ := hvs1
      have hl : (c.bytes.set I (UInt8.ofNat xn.toNat)).length = n := by rw [List.length_set]; exact HN.out
      have e : vu8 (UInt8.ofNat xn.toNat) = .int .u8 xn := by
        simp [vu8, UInt8.toNat_ofNat']; omega
      refine ⟨_, _, by rw [hck]; rfl, h61.mono (fun q hq => List.mem_append_right _ hq), ?_, t11, fun h => absurd (h.symm.trans HSZ.out) (by simp)⟩
      simp only
      rw [hl]
      refine .inr ⟨g1, cap1, _, _, rfl, List.mem_append_left _ (List.mem_singleton.2 rfl), k1, k2, by rw [Array.size_setIfInBounds, k3], ?_, by rw [List.length_map, hl, Nat.mul_one]⟩
      rw [take_setIf, k4, List.map_set, HXS.out, e]
    · simp [C.size, HSZ.out]
set_option maxRecDepth 100000 in
set_option maxHeartbeats 400000 in
theorem rset_item {J0 : List (Nat × Obj)} {w0 w : World} {M : List (Nat × List C)} {E K : List (Nat × Obj)} {gp : Nat} {L : List C} (H : RefK J0 gp L E) (A : Ats w0 w M (E ++ K)) {kk kp kl xk xn xp xl az lz i : Int} {kx xx : Bool} {ks xs : ByteArray} {N I : Nat} {c : C}
    (hc : L[N]? = some c) (hv : roomV L ⟨kk, kx, N, kp, kl, ks⟩ = (az, lz, 0)) (i0 : 0 ≤ i) (i1 : i < lz) (hI : az + i = I) (hlk : c.locked = false) (ht : c.text = false) (hk8 : (kk == 8) = false) (hm : mayH L ⟨xk, xx, xn, xp, xl, xs⟩ = true) (hIs : I < c.items.length) :
    Calls Tryz.prog 115 #[ptr gp, O.val ⟨kk, kx, N, kp, kl, ks⟩, .int .i64 i, O.val ⟨xk, xx, xn, xp, xl, xs⟩] w fun r w' => r = .returned (.int .i64 0) ∧ ∃ E', RefK J0 gp (L.set N { c with items := c.items.set I ⟨xk, xx, xn, xp, xl, xs⟩ }) E' ∧ Ats w0 w' M (E' ++ K) := by
  have hsm := cell_le hc H.bounds.2
  have HH := hid' H
  obtain ⟨K2, hK2⟩ : ∃ K2, K2 = (w.heap.size + 1, Obj.cells #[.int .i64 xk, .bool xx, .int .i64 xn, .int .i64 xp, .int .i64 xl, .string xs] 38) :: (w.heap.size, Obj.cells #[.int .i64 kk, .bool kx, .int .i64 N, .int .i64 kp, .int .i64 kl, .string ks] 38) :: K := ⟨_, rfl⟩
  have A1 := (A.alloc (Obj.cells #[.int .i64 kk, .bool kx, .int .i64 N, .int .i64 kp, .int .i64 kl, .string ks] 38)).alloc (Obj.cells #[.int .i64 xk, .bool xx, .int .i64 xn, .int .i64 xp, .int .i64 xl, .string xs] 38)
  simp only [World.size_alloc] at A1
  have A1 : Ats w0 ((w.alloc (Obj.cells #[.int .i64 kk, .bool kx, .int .i64 N, .int .i64 kp, .int .i64 kl, .string ks] 38)).alloc (Obj.cells #[.int .i64 xk, .bool xx, .int .i64 xn, .int .i64 xp, .int .i64 xl, .string xs] 38)) M (E ++ K2) := A1.perm (by
    rw [hK2]
    classical refine List.perm_iff_count.2 fun q => ?_
    simp only [List.count_append, List.count_cons]
    omega)
  have hKs : K.Sublist K2 := by rw [hK2]; exact (List.sublist_cons_self _ _).trans (List.sublist_cons_self _ _)
  have mk : ∀ E, (w.heap.size, Obj.cells #[.int .i64 kk, .bool kx, .int .i64 N, .int .i64 kp, .int .i64 kl, .string ks] 38) ∈ E ++ K2 := fun E => by rw [hK2]; simp
  have mx : ∀ E, (w.heap.size + 1, Obj.cells #[.int .i64 xk, .bool xx, .int .i64 xn, .int .i64 xp, .int .i64 xl, .string xs] 38) ∈ E ++ K2 := fun E => by rw [hK2]; simp
  clear hK2 A
  have hRM := fun W (A : Ats w0 W M (E ++ K2)) => rroom_any H A (fun q hq => List.mem_append_left _ hq) ⟨kk, kx, N, kp, kl, ks⟩ hv
  have hMY := fun W (A : Ats w0 W M (E ++ K2)) => rhmay_any H A (fun q hq => List.mem_append_left _ hq) ⟨xk, xx, xn, xp, xl, xs⟩ rfl
  obtain ⟨J, g, cap, cur, vi, vb, rfl, hcap, hi, hcell, v0, v1, v2, v3, hup⟩ := H.open hc
  have mg : (gp, refBox (.slice (some ⟨g, 0, none⟩) L.length cap)) ∈ (J ++ [(g, Obj.cells cur 143), (gp, refBox (.slice (some ⟨g, 0, none⟩) L.length cap))]) ++ K2 := by simp
  have mr : (g, Obj.cells cur 143) ∈ (J ++ [(g, Obj.cells cur 143), (gp, refBox (.slice (some ⟨g, 0, none⟩) L.length cap))]) ++ K2 := by simp
  have hcell2 := hcell
  obtain ⟨vi', vb', hvs, hi6, hb1, ht1, ht2⟩ := hcell2
  simp only [List.cons.injEq, true_and, and_true] at hvs
  obtain ⟨rfl, rfl⟩ := hvs
  have HUP := hid' hup
  have HCELL := hid' hcell
  have HIT := hid' hi6
  obtain ⟨g2, cap2, cur2, fz2, hvx, m2, q1, q2, q3, q4⟩ : ∃ g2 cap2 cur2 fz2, vi = .slice (some ⟨g2, 0, none⟩) c.items.length cap2 ∧ (g2, Obj.cells cur2 38 fz2) ∈ J ∧ c.items.length ≤ cap2 ∧ cap2 ≤ maxLen ∧ cur2.toList.take (c.items.length * 6) = c.items.flatMap O.cells ∧ (c.items.flatMap O.cells).length = c.items.length * 6 := by
    rcases hi6 with ⟨-, h0, -⟩ | ⟨g2, cap2, cur2, fz2, h1, h2, h3, h4, h5, h6, h7⟩
    · omega
    · exact ⟨g2, cap2, cur2, fz2, h1, h2, h3, h4, h6, h7⟩
  subst hvx
  have m2' : (g2, Obj.cells cur2 38 fz2) ∈ (J ++ [(g, Obj.cells cur 143), (gp, refBox (.slice (some ⟨g, 0, none⟩) L.length cap))]) ++ K2 := by simp [m2]
  rw [hlk] at v3
  have hcapi : (N : Int) < cap := by omega
  have hcs : c.items.length ≤ 40000 := by rw [C.size, if_neg (by simp [ht])] at hsm; exact hsm
  have wr : IntKind.i64.wrap (az + i) = I := by rw [hI]; exact IntWalk.i64_in _ (by omega)
  rw [hm] at hMY
  have HT := hid' q3
  have HXL := hid' q4
  have HSZ := hid' ht
  have HRM := hid' hRM
  have HMY := hid' hMY
  have hIi : (I : Int) < c.items.length := by omega
  have hpos : 0 < c.items.length := by omega
  obtain ⟨n, hn⟩ : ∃ n, c.items.length = n := ⟨_, rfl⟩
  obtain ⟨nl, hnl⟩ : ∃ nl, L.length = nl := ⟨_, rfl⟩
  rw [hn] at HT HXL HIT hIi hpos hIs hcs v1
  rw [hnl] at mg mr m2' HRM HMY A1 HUP hcap hi
  obtain ⟨XS, hXS⟩ : ∃ XS, c.items.flatMap O.cells = XS := ⟨_, rfl⟩
  have hone : ∀ u ∈ XS, u.oneCell' = true := by rw [← hXS]; exact flat_one _
  have HONE := hid' hone
  rw [hXS] at HT HXL
  have HXS := hid' hXS
  have HN := hid' hn
  have HNL := hid' hnl
  clear hRM hMY hup hcell hi6 hb1 ht1 ht2 q3 q4 m2 hsm hv hI hlk ht hn hnl H hc hXS hone q1 q2
  obtain ⟨E, hE⟩ : ∃ E, E = J ++ [(g, Obj.cells cur 143), (gp, refBox (.slice (some ⟨g, 0, none⟩) nl cap))] := ⟨_, rfl⟩
  rw [← hE] at mg mr m2' HRM HMY A1
  have HE := hid' hE
  clear hE
  generalize c.kind = ck at *
  obtain ⟨iz, hinf, hz0, hz1, hz2⟩ := info_parts Tryz.infoObj
  go_enter Tryz.func115, Tryz.ntmps115
  go_wp2_with fail
  refine (HRM.out _ A1).mono ?_
  rintro r w1 ⟨rfl, A2⟩
  clear A1
  (try clear Rk); (try clear yk); (try clear Zk)
  have Rk := cells_of (A2.box _ (mk E))
  have yk := blk_lt (A2.box _ (mk E))
  (try clear Rx); (try clear yx); (try clear Zx)
  have Rx := cells_of (A2.box _ (mx E))
  have yx := blk_lt (A2.box _ (mx E))
  (try clear Rg); (try clear yg); (try clear Zg)
  have Rg := cells_of (A2.box _ mg)
  have yg := blk_lt (A2.box _ mg)
  (try clear Rr); (try clear yr); (try clear Zr)
  have Rr := cells_of (A2.box _ mr)
  have yr := blk_lt (A2.box _ mr)
  (try simp only at Rk yk Rx yx Rg yg Rr yr)
  go_upto_region 6 with (fail)
  go_quiet (fail)
  have A3 := A2.pure ((Chg.refl NoB w1).drewN nq)
  clear A2
  generalize w1.drewN nq = w2 at *
  (try clear Rk); (try clear yk); (try clear Zk)
  have Rk := cells_of (A3.box _ (mk E))
  have yk := blk_lt (A3.box _ (mk E))
  (try clear Rx); (try clear yx); (try clear Zx)
  have Rx := cells_of (A3.box _ (mx E))
  have yx := blk_lt (A3.box _ (mx E))
  (try clear Rg); (try clear yg); (try clear Zg)
  have Rg := cells_of (A3.box _ mg)
  have yg := blk_lt (A3.box _ mg)
  (try clear Rr); (try clear yr); (try clear Zr)
  have Rr := cells_of (A3.box _ mr)
  have yr := blk_lt (A3.box _ mr)
  (try simp only at Rk yk Rx yx Rg yg Rr yr)
  go_upto_region 16 with (fail)
  go_wp2_with (first | (go_at_call 78; refine (HMY.out _ A3).mono ?_; rintro r w3 ⟨rfl, A3b⟩; clear A3; have A3 := A3b; clear A3b))
  (try clear Rk); (try clear yk); (try clear Zk)
  have Rk := cells_of (A3.box _ (mk E))
  have yk := blk_lt (A3.box _ (mk E))
  (try clear Rx); (try clear yx); (try clear Zx)
  have Rx := cells_of (A3.box _ (mx E))
  have yx := blk_lt (A3.box _ (mx E))
  (try clear Rg); (try clear yg); (try clear Zg)
  have Rg := cells_of (A3.box _ mg)
  have yg := blk_lt (A3.box _ mg)
  (try clear Rr); (try clear yr); (try clear Zr)
  have Rr := cells_of (A3.box _ mr)
  have yr := blk_lt (A3.box _ mr)
  (try simp only at Rk yk Rx yx Rg yg Rr yr)

  go_upto_region 18 with (fail)
  have HA := hid' A3
  go_cut [] (fun wx => SetCut w0 M 38 6 n XS J g cur (N * 4 + 1) gp cap nl K2 wx)
  case first =>
    clear Rg Rk Rx
    have Rg := AnyA.cells (w0 := w0) (M := M) (show (gp, refBox (.slice (some ⟨g, 0, none⟩) nl cap)) ∈ (gp, refBox (.slice (some ⟨g, 0, none⟩) nl cap)) :: K2 by simp)
    have Rk := AnyA.cells (w0 := w0) (M := M) (List.mem_cons_of_mem (gp, refBox (.slice (some ⟨g, 0, none⟩) nl cap)) (mk []))
    have hSub : ((gp, refBox (.slice (some ⟨g, 0, none⟩) nl cap)) :: K2).Sublist (E ++ K2) := by
      rw [HE.out]
      exact List.Sublist.append_right ((List.sublist_cons_self (g, Obj.cells cur 143) [(gp, refBox (.slice (some ⟨g, 0, none⟩) nl cap))]).trans (List.sublist_append_right J _)) K2
    refine wp_region_held_drew (S := fun W' => AnyA w0 M ((gp, refBox (.slice (some ⟨g, 0, none⟩) nl cap)) :: K2) W') (by kernel_rfl) (A3.drew.keep hSub) (fun hHeld => ?_)
    refine wpAnyH_take (i := 0) (oi := { dst := some 107, op := _, type := _, pos := _, after := _, guard := _ }) (v := ?_) rfl (by kernel_rfl) (by kernel_rfl) (by kernel_rfl) (fun _ _ _ h => h) (Or.inl ⟨by rfl, ?_⟩) (by assumption) ?_
    rotate_left
    · intro w hSw; go_simp; try with_reducible rfl
    try simp only [Act.put, List.setIfInBounds_toArray, List.set_cons_zero, List.set_cons_succ]
    refine wpAnyH_take (i := 1) (oi := { dst := some 108, op := _, type := _, pos := _, after := _, guard := _ }) (v := ?_) rfl (by kernel_rfl) (by kernel_rfl) (by kernel_rfl) (fun _ _ _ h => h) (Or.inl ⟨by rfl, ?_⟩) (by assumption) ?_
    rotate_left
    · intro w hSw; go_simp; try with_reducible rfl
    try simp only [Act.put, List.setIfInBounds_toArray, List.set_cons_zero, List.set_cons_succ]
    refine wpAnyH_take (i := 2) (oi := { dst := some 109, op := _, type := _, pos := _, after := _, guard := _ }) (v := ?_) rfl (by kernel_rfl) (by kernel_rfl) (by kernel_rfl) (fun _ _ _ h => h) (Or.inl ⟨by rfl, ?_⟩) (by assumption) ?_
    rotate_left
    · intro w hSw; go_simp; try with_reducible rfl
    try simp only [Act.put, List.setIfInBounds_toArray, List.set_cons_zero, List.set_cons_succ]
    refine wpAnyH_take (i := 3) (oi := { dst := some 110, op := _, type := _, pos := _, after := _, guard := _ }) (v := ?_) rfl (by kernel_rfl) (by kernel_rfl) (by kernel_rfl) (fun _ _ _ h => h) (Or.inl ⟨by rfl, ?_⟩) (by assumption) ?_
    rotate_left
    · intro w hSw; go_simp; try with_reducible rfl
    try simp only [Act.put, List.setIfInBounds_toArray, List.set_cons_zero, List.set_cons_succ]
    refine wpAnyH_take (i := 4) (oi := { dst := some 111, op := _, type := _, pos := _, after := _, guard := _ }) (v := ?_) rfl (by kernel_rfl) (by kernel_rfl) (by kernel_rfl) (fun _ _ _ h => h) (Or.inl ⟨by rfl, ?_⟩) (by assumption) ?_
    rotate_left
    · intro w hSw; go_simp; try with_reducible rfl
    try simp only [Act.put, List.setIfInBounds_toArray, List.set_cons_zero, List.set_cons_succ]
    refine wpAnyH_take (i := 5) (oi := { dst := some 112, op := _, type := _, pos := _, after := _, guard := _ }) (v := ?_) rfl (by kernel_rfl) (by kernel_rfl) (by kernel_rfl) (fun _ _ _ h => h) (Or.inl ⟨by rfl, ?_⟩) (by assumption) ?_
    rotate_left
    · intro w hSw; go_simp; try with_reducible rfl
    try simp only [Act.put, List.setIfInBounds_toArray, List.set_cons_zero, List.set_cons_succ]
    refine wpAnyH_take (i := 6) (oi := { dst := some 113, op := _, type := _, pos := _, after := _, guard := _ }) (v := ?_) rfl (by kernel_rfl) (by kernel_rfl) (by kernel_rfl) (fun _ _ _ h => h) (Or.inl ⟨by rfl, ?_⟩) (by assumption) ?_
    rotate_left
    · intro w hSw; go_simp; try with_reducible rfl
    try simp only [Act.put, List.setIfInBounds_toArray, List.set_cons_zero, List.set_cons_succ]
    refine wpAnyH_take (i := 7) (oi := { dst := some 114, op := _, type := _, pos := _, after := _, guard := _ }) (v := ?_) rfl (by kernel_rfl) (by kernel_rfl) (by kernel_rfl) (fun _ _ _ h => h) (Or.inl ⟨by rfl, ?_⟩) (by assumption) ?_
    rotate_left
    · intro w hSw; go_simp; try with_reducible rfl
    try simp only [Act.put, List.setIfInBounds_toArray, List.set_cons_zero, List.set_cons_succ]
    refine wpAnyH_take (i := 8) (oi := { dst := some 115, op := _, type := _, pos := _, after := _, guard := _ }) (v := ?_) rfl (by kernel_rfl) (by kernel_rfl) (by kernel_rfl) (fun _ _ _ h => h) (Or.inl ⟨by rfl, ?_⟩) (by assumption) ?_
    rotate_left
    · intro w hSw; go_simp; try with_reducible rfl
    try simp only [Act.put, List.setIfInBounds_toArray, List.set_cons_zero, List.set_cons_succ]
    refine wpAnyH_take (i := 9) (oi := { dst := some 116, op := _, type := _, pos := _, after := _, guard := _ }) (v := ?_) rfl (by kernel_rfl) (by kernel_rfl) (by kernel_rfl) (fun _ _ _ h => h) (Or.inl ⟨by rfl, ?_⟩) (by assumption) ?_
    rotate_left
    · intro w hSw; go_simp; try with_reducible rfl
    try simp only [Act.put, List.setIfInBounds_toArray, List.set_cons_zero, List.set_cons_succ]
    refine wpAnyH_take (i := 10) (oi := { dst := some 117, op := _, type := _, pos := _, after := _, guard := _ }) (v := ?_) rfl (by kernel_rfl) (by kernel_rfl) (by kernel_rfl) (fun _ _ _ h => h) (Or.inl ⟨by rfl, ?_⟩) (by assumption) ?_
    rotate_left
    · intro w hSw; go_simp; try with_reducible rfl
    try simp only [Act.put, List.setIfInBounds_toArray, List.set_cons_zero, List.set_cons_succ]
    refine wpAnyH_take (i := 11) (oi := { dst := some 118, op := _, type := _, pos := _, after := _, guard := _ }) (v := ?_) rfl (by kernel_rfl) (by kernel_rfl) (by kernel_rfl) (fun _ _ _ h => h) (Or.inl ⟨by rfl, ?_⟩) (by assumption) ?_
    rotate_left
    · intro w hSw; go_simp; try with_reducible rfl
    try simp only [Act.put, List.setIfInBounds_toArray, List.set_cons_zero, List.set_cons_succ]
    refine wpAnyH_take (i := 12) (oi := { dst := some 119, op := _, type := _, pos := _, after := _, guard := _ }) (v := ?_) rfl (by kernel_rfl) (by kernel_rfl) (by kernel_rfl) (fun _ _ _ h => h) (Or.inl ⟨by rfl, ?_⟩) (by assumption) ?_
    rotate_left
    · intro w hSw; go_simp; try with_reducible rfl
    try simp only [Act.put, List.setIfInBounds_toArray, List.set_cons_zero, List.set_cons_succ]
    refine wpAnyH_take (i := 13) (oi := { dst := some 120, op := _, type := _, pos := _, after := _, guard := _ }) (v := ?_) rfl (by kernel_rfl) (by kernel_rfl) (by kernel_rfl) (fun _ _ _ h => h) (Or.inl ⟨by rfl, ?_⟩) (by assumption) ?_
    rotate_left
    · intro w hSw; go_simp; try with_reducible rfl
    try simp only [Act.put, List.setIfInBounds_toArray, List.set_cons_zero, List.set_cons_succ]
    refine wpAnyH_ready (rs := [14]) (by kernel_rfl) (by simp) ?_
    refine AllReadyH.cons (o := { dst := some 121, op := _, type := _, pos := _, after := _, guard := _ }) rfl (fun K' hK' => ?_) AllReadyH.nil
    go_simp
    refine hK'.out _ _ ?_ (fun hHeld2 => ?_)
    · with_reducible assumption
    clear hK' K'
    try simp only [Act.put, List.setIfInBounds_toArray, List.set_cons_zero, List.set_cons_succ]
    refine wpAnyH_ready (rs := [15]) (by kernel_rfl) (by simp) ?_
    refine AllReadyH.cons (o := { dst := some 122, op := _, type := _, pos := _, after := _, guard := _ }) rfl (fun K' hK' => ?_) AllReadyH.nil
    refine step_app0 rfl (.const (.slice none 0 0)) (.tmp 121) 48 rfl 38 iz O.nil.val 6 56 Tryz.underObjs hinf hz0 hz1 hz2 rfl (by decide) (E ++ K2) (by first | exact HA.out | exact HA.out.drew) rfl ⟨g2, 0, none⟩ n cap2 XS rfl HXL.out (news_take (by first | exact (HA.out.box _ m2') | exact blk_drew (HA.out.box _ m2')) (n * 6) _ HT.out) HONE.out hpos (by unfold maxLen; omega) (by omega) ?_
    intro g1 cap1 w7 R7 hR7 A7
    have S7 : AnyA w0 M ((gp, refBox (.slice (some ⟨g, 0, none⟩) nl cap)) :: K2) w7 := A7.keep (hSub.trans (List.sublist_append_right _ _))
    have HR7 := hid' hR7
    have HC8 := hid' (SetCut.of (j := N * 4 + 1) hpos hR7 (HE.out ▸ A7))
    have HA7 := hid' A7
    clear hR7 A7 yr Rr
    have Zr := free_of (HA7.out.box _ (List.mem_append_right R7 mr))
    have yr := blk_lt (HA7.out.box _ (List.mem_append_right R7 mr))
    have Rr := cells_of (HA7.out.box _ (List.mem_append_right R7 mr))
    refine hK'.out _ _ ?_ (fun hHeld2 => ?_)
    · exact S7
    clear hK' K'
    try simp only [Act.put, List.setIfInBounds_toArray, List.set_cons_zero, List.set_cons_succ]
    refine wpAnyH_take (i := 16) (oi := { dst := some 123, op := _, type := _, pos := _, after := _, guard := _ }) (v := ?_) rfl (by kernel_rfl) (by kernel_rfl) (by kernel_rfl) (fun _ _ _ h => h) (Or.inl ⟨by rfl, ?_⟩) (by assumption) ?_
    rotate_left
    · intro w hSw; go_simp; try with_reducible rfl
    try simp only [Act.put, List.setIfInBounds_toArray, List.set_cons_zero, List.set_cons_succ]
    refine wpAnyH_take (i := 17) (oi := { dst := some 124, op := _, type := _, pos := _, after := _, guard := _ }) (v := ?_) rfl (by kernel_rfl) (by kernel_rfl) (by kernel_rfl) (fun _ _ _ h => h) (Or.inl ⟨by rfl, ?_⟩) (by assumption) ?_
    rotate_left
    · intro w hSw; go_simp; try with_reducible rfl
    try simp only [Act.put, List.setIfInBounds_toArray, List.set_cons_zero, List.set_cons_succ]
    refine wpAnyH_ready (rs := [18]) (by kernel_rfl) (by simp) ?_
    refine AllReadyH.cons (o := { dst := none, op := _, type := _, pos := _, after := _, guard := _ }) rfl (fun K' hK' => ?_) AllReadyH.nil
    go_simp
    refine hK'.out _ _ ?_ (fun hHeld2 => ?_)
    · exact HC8.out.any
    clear hK' K'
    try simp only [Act.put, List.setIfInBounds_toArray, List.set_cons_zero, List.set_cons_succ]
    refine wpAnyH_done (by kernel_rfl) ?_ _
    go_wp2_with fail
    all_goals
      go_meet
      first
        | with_reducible exact HC8.out
        | with_reducible exact HC8.out.drew
  case rest =>
    obtain ⟨g1, cap1, cur1, k1, k2, k3, k4, k5, A4⟩ := hcut
    generalize wc = w4 at *
    clear Rk yk Rx yx Rg yg Rr yr A3 HA
    have hcur' : (cur.setIfInBounds (N * 4 + 1) (.slice (some ⟨g1, 0, none⟩) n cap1))[N * 4 + 1]? = some (.slice (some ⟨g1, 0, none⟩) n cap1) := by
      have hsz : N * 4 + 1 < cur.size := by
        rcases Nat.lt_or_ge (N * 4 + 1) cur.size with h | h
        · exact h
        · rw [Array.getElem?_eq_none h] at v1; simp at v1
      rw [Array.getElem?_setIfInBounds_self_of_lt hsz]
    generalize hcu : cur.setIfInBounds (N * 4 + 1) (.slice (some ⟨g1, 0, none⟩) n cap1) = cur' at *
    have mk' : ∀ a b, _ ∈ a :: ((J ++ [b, (gp, refBox (.slice (some ⟨g, 0, none⟩) nl cap))]) ++ K2) := fun a b => List.mem_cons_of_mem a (mk _)
    have mx' : ∀ a b, _ ∈ a :: ((J ++ [b, (gp, refBox (.slice (some ⟨g, 0, none⟩) nl cap))]) ++ K2) := fun a b => List.mem_cons_of_mem a (mx _)
    have mg' : ∀ a b : Nat × Obj, (gp, refBox (.slice (some ⟨g, 0, none⟩) nl cap)) ∈ a :: ((J ++ [b, (gp, refBox (.slice (some ⟨g, 0, none⟩) nl cap))]) ++ K2) := fun a b => by simp
    have mr' : ∀ a : Nat × Obj, (g, Obj.cells cur' 143) ∈ a :: ((J ++ [(g, Obj.cells cur' 143), (gp, refBox (.slice (some ⟨g, 0, none⟩) nl cap))]) ++ K2) := fun a => by simp
    (try clear Rn); (try clear yn); (try clear Zn)
    have Rn := cells_of (A4.box _ m0)
    have yn := blk_lt (A4.box _ m0)
    have Zn := free_of (A4.box _ m0)
    (try clear Rk); (try clear yk); (try clear Zk)
    have Rk := cells_of (A4.box _ (mk' _ _))
    have yk := blk_lt (A4.box _ (mk' _ _))
    (try clear Rx); (try clear yx); (try clear Zx)
    have Rx := cells_of (A4.box _ (mx' _ _))
    have yx := blk_lt (A4.box _ (mx' _ _))
    (try clear Rg); (try clear yg); (try clear Zg)
    have Rg := cells_of (A4.box _ (mg' _ _))
    have yg := blk_lt (A4.box _ (mg' _ _))
    (try clear Rr); (try clear yr); (try clear Zr)
    have Rr := cells_of (A4.box _ (mr' _))
    have yr := blk_lt (A4.box _ (mr' _))
    (try simp only at Rn yn Zn Rk yk Rx yx Rg yg Rr yr)
    obtain ⟨b0, w0c⟩ : ∃ b, cur1[I * 6]? = some b := ⟨_, Array.getElem?_eq_getElem (show I * 6 < cur1.size by rw [k3]; omega)⟩
    obtain ⟨b1, w1c⟩ : ∃ b, cur1[I * 6 + 1]? = some b := ⟨_, Array.getElem?_eq_getElem (show I * 6 + 1 < cur1.size by rw [k3]; omega)⟩
    obtain ⟨b2, w2c⟩ : ∃ b, cur1[I * 6 + 2]? = some b := ⟨_, Array.getElem?_eq_getElem (show I * 6 + 2 < cur1.size by rw [k3]; omega)⟩
    obtain ⟨b3, w3c⟩ : ∃ b, cur1[I * 6 + 3]? = some b := ⟨_, Array.getElem?_eq_getElem (show I * 6 + 3 < cur1.size by rw [k3]; omega)⟩
    obtain ⟨b4, w4c⟩ : ∃ b, cur1[I * 6 + 4]? = some b := ⟨_, Array.getElem?_eq_getElem (show I * 6 + 4 < cur1.size by rw [k3]; omega)⟩
    obtain ⟨b5, w5c⟩ : ∃ b, cur1[I * 6 + 5]? = some b := ⟨_, Array.getElem?_eq_getElem (show I * 6 + 5 < cur1.size by rw [k3]; omega)⟩
    have HXX := hid' hcu
    have hcapj : (I : Int) < cap1 := by omega
    go_upto_region 19 with (fail)
    go_still_tail 14, (by kernel_rfl)
    go_wp2_with fail
    go_ret
    refine ⟨rfl, _, HNL.out ▸ HUP.out [(g1, Obj.cells (six cur1 (I * 6) ⟨xk, xx, xn, xp, xl, xs⟩) 38)] { c with items := c.items.set I ⟨xk, xx, xn, xp, xl, xs⟩ } 1 (.slice (some ⟨g1, 0, none⟩) n cap1) (by omega) ?_ ?_, ?_⟩
    · have A5 := ((((((A4.put (I * 6) (.int .i64 xk)).put (I * 6 + 1) (.bool xx)).put (I * 6 + 2) (.int .i64 xn)).put (I * 6 + 3) (.int .i64 xp)).put (I * 6 + 4) (.int .i64 xl)).put (I * 6 + 5) (.string xs)).drew
      have A6 := A5.keep (K' := (((g1, Obj.cells (six cur1 (I * 6) ⟨xk, xx, xn, xp, xl, xs⟩) 38) :: J) ++ [(g, Obj.cells cur' 143), (gp, refBox (.slice (some ⟨g, 0, none⟩) nl cap))]) ++ K) (List.Sublist.append_left hKs _)
      rw [← HXX.out] at A6
      rw [HNL.out]
      exact A6
    · obtain ⟨vi1, vb1, hvs1, h61, h11, t11, t21⟩ := HCELL.out
      simp only [List.cons.injEq, Value.int.injEq, true_and, and_true] at hvs1
      obtain ⟨hck, -, rfl⟩ := hvs1
      have hl : (c.items.set I (⟨xk, xx, xn, xp, xl, xs⟩ : O)).length = n := by rw [List.length_set]; exact HN.out
      refine ⟨_, _, by rw [hck]; rfl, ?_, h11.mono (fun q hq => List.mem_append_right _ hq), fun h => absurd (h.symm.trans HSZ.out) (by simp), fun _ => t21 HSZ.out⟩
      simp only
      rw [hl]
      refine .inr ⟨g1, cap1, _, _, rfl, List.mem_append_left _ (List.mem_singleton.2 rfl), k1, k2, by simp [six, k3], six_take _ (k4.trans HXS.out.symm) (by rw [HN.out]; omega), by rw [flat_length O.cells 6 cells_length, hl]⟩
    · simp [C.size, HSZ.out]
end Go.Proofs.YtpgkjgceldleaaaGreat
