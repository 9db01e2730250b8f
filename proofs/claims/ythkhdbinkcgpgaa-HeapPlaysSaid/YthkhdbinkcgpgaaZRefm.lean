/- Rxw, Rxy -/
import Derived.Test.YthkhdbinkcgpgaaZRefl
/- The reference's heap: Put, where it stores. -/
namespace Go.Proofs.Ythkhdbinkcgpgaa
open Go.RowKit

set_option maxRecDepth 100000 in
set_option maxHeartbeats 2000000 in
theorem rput_text {J0 : List (Nat × Obj)} {w0 w : World} {M : List (Nat × List C)} {E K : List (Nat × Obj)} {gp : Nat} {L : List C} (H : RefK J0 gp L E) (A : Ats w0 w M (E ++ K)) {kk kp kl xp xl az lz bz mz i : Int} {kx xx : Bool} {ks xs : ByteArray} {N N2 : Nat} {c d : C}
    (hc : L[N]? = some c) (hd : L[N2]? = some d) (hv : roomV L ⟨kk, kx, N, kp, kl, ks⟩ = (az, lz, 0)) (hw : roomV L ⟨kk, xx, N2, xp, xl, xs⟩ = (bz, mz, 0)) (i0 : 0 ≤ i) (i1 : i ≤ lz) (i2 : mz ≤ lz - i) (a0 : 0 ≤ az) (al : az + lz ≤ c.size) (b0 : 0 ≤ bz) (z0 : 0 ≤ mz) (bm : bz + mz ≤ d.size)
    (hlk : c.locked = false) (ht : c.text = true) (hu : d.text = true) (hk8 : kk = 8) :
    Calls Try.prog 14 #[ptr gp, O.val ⟨kk, kx, N, kp, kl, ks⟩, .int .i64 i, O.val ⟨kk, xx, N2, xp, xl, xs⟩] w fun r w' => r = .returned (.int .i64 0) ∧ ∃ E', RefK J0 gp (L.set N { c with bytes := splice c.bytes (az + i).toNat ((d.bytes.drop bz.toNat).take mz.toNat) }) E' ∧ Ats w0 w' M (E' ++ K) := by
  have hsm := cell_le hc H.bounds.2
  have hsm2 := cell_le hd H.bounds.2
  have hsz1 : c.size = c.bytes.length := if_pos ht
  have hsz2 : d.size = d.bytes.length := if_pos hu
  obtain ⟨K2, hK2⟩ : ∃ K2, K2 = (w.heap.size + 1, Obj.cells #[.int .i64 kk, .bool xx, .int .i64 N2, .int .i64 xp, .int .i64 xl, .string xs] 24) :: (w.heap.size, Obj.cells #[.int .i64 kk, .bool kx, .int .i64 N, .int .i64 kp, .int .i64 kl, .string ks] 24) :: K := ⟨_, rfl⟩
  have A1 := (A.alloc (Obj.cells #[.int .i64 kk, .bool kx, .int .i64 N, .int .i64 kp, .int .i64 kl, .string ks] 24)).alloc (Obj.cells #[.int .i64 kk, .bool xx, .int .i64 N2, .int .i64 xp, .int .i64 xl, .string xs] 24)
  simp only [World.size_alloc] at A1
  have A1 : Ats w0 ((w.alloc (Obj.cells #[.int .i64 kk, .bool kx, .int .i64 N, .int .i64 kp, .int .i64 kl, .string ks] 24)).alloc (Obj.cells #[.int .i64 kk, .bool xx, .int .i64 N2, .int .i64 xp, .int .i64 xl, .string xs] 24)) M (E ++ K2) := A1.perm (by
    rw [hK2]
    classical refine List.perm_iff_count.2 fun q => ?_
    simp only [List.count_append, List.count_cons]
    omega)
  have hKs : K.Sublist K2 := by rw [hK2]; exact (List.sublist_cons_self _ _).trans (List.sublist_cons_self _ _)
  have mk : ∀ E, (w.heap.size, Obj.cells #[.int .i64 kk, .bool kx, .int .i64 N, .int .i64 kp, .int .i64 kl, .string ks] 24) ∈ E ++ K2 := fun E => by rw [hK2]; simp
  have mx : ∀ E, (w.heap.size + 1, Obj.cells #[.int .i64 kk, .bool xx, .int .i64 N2, .int .i64 xp, .int .i64 xl, .string xs] 24) ∈ E ++ K2 := fun E => by rw [hK2]; simp
  clear hK2 A
  have hRM := fun W (A : Ats w0 W M (E ++ K2)) => rroom_any H A (fun q hq => List.mem_append_left _ hq) ⟨kk, kx, N, kp, kl, ks⟩ hv
  have hRN := fun W (A : Ats w0 W M (E ++ K2)) => rroom_any H A (fun q hq => List.mem_append_left _ hq) ⟨kk, xx, N2, xp, xl, xs⟩ hw
  obtain ⟨J, g, cap, cur, vi, vb, rfl, hcap, hi, hcell, v0, v1, v2, v3, hall, hup⟩ := H.open2 hc
  obtain ⟨ui, ub, hcd, u1, u2⟩ := hall N2 d hd
  have hj2 : N2 < L.length := (List.getElem?_eq_some_iff.1 hd).1
  have mg : (gp, refBox (.slice (some ⟨g, 0, none⟩) L.length cap)) ∈ (J ++ [(g, Obj.cells cur 92), (gp, refBox (.slice (some ⟨g, 0, none⟩) L.length cap))]) ++ K2 := by simp
  have mr : (g, Obj.cells cur 92) ∈ (J ++ [(g, Obj.cells cur 92), (gp, refBox (.slice (some ⟨g, 0, none⟩) L.length cap))]) ++ K2 := by simp
  have hcell2 := hcell
  obtain ⟨vi', vb', hvs, hi6, hb1, -, -⟩ := hcell2
  simp only [List.cons.injEq, true_and, and_true] at hvs
  obtain ⟨rfl, rfl⟩ := hvs
  obtain ⟨ui', ub', hus, hi6', hb1', -, -⟩ := hcd
  simp only [List.cons.injEq, true_and, and_true] at hus
  obtain ⟨rfl, rfl⟩ := hus
  have HUP := hid' hup
  have HCELL := hid' hcell
  have HROW := hid' hb1
  have HROW2 := hid' hb1'
  obtain ⟨av, cv, hvv, -⟩ := hb1.slice
  obtain ⟨au, cu, huu, -⟩ := hb1'.slice
  have HJ := hid' (fun q (hq : q ∈ J) => List.mem_append_left K2 (List.mem_append_left [(g, Obj.cells cur 92), (gp, refBox (.slice (some ⟨g, 0, none⟩) L.length cap))] hq))
  rw [hlk] at v3
  have hcapi : (N : Int) < cap := by omega
  have hcapj : (N2 : Int) < cap := by omega
  have hni : (N : Int) < L.length := by omega
  have hnj : (N2 : Int) < L.length := by omega
  rw [hsz1] at al hsm
  rw [hsz2] at bm hsm2
  have wr1 : IntKind.i64.wrap (lz - i) = lz - i := IntWalk.i64_in _ (by omega)
  have wr2 : IntKind.i64.wrap (az + i) = az + i := IntWalk.i64_in _ (by omega)
  have wr3 : IntKind.i64.wrap (bz + mz) = bz + mz := IntWalk.i64_in _ (by omega)
  subst hk8
  have HT := hid' ht
  have HLC := hid' hsz1
  have HRM := hid' hRM
  have HRN := hid' hRN
  obtain ⟨n, hn⟩ : ∃ n, c.bytes.length = n := ⟨_, rfl⟩
  obtain ⟨m, hm⟩ : ∃ m, d.bytes.length = m := ⟨_, rfl⟩
  obtain ⟨nl, hnl⟩ : ∃ nl, L.length = nl := ⟨_, rfl⟩
  rw [hn] at HROW al hsm hvv
  rw [hm] at HROW2 bm hsm2 huu
  rw [hnl] at mg mr HRM HRN A1 HUP hcap hi hj2 hni hnj HJ
  obtain ⟨XS, hXS⟩ : ∃ XS, c.bytes.map vu8 = XS := ⟨_, rfl⟩
  obtain ⟨YS, hYS⟩ : ∃ YS, d.bytes.map vu8 = YS := ⟨_, rfl⟩
  have hone : ∀ u ∈ XS, u.oneCell' = true := by rw [← hXS]; exact (fun u hu => by obtain ⟨b, -, rfl⟩ := List.mem_map.1 hu; rfl)
  have honey : ∀ u ∈ YS, u.oneCell' = true := by rw [← hYS]; exact (fun u hu => by obtain ⟨b, -, rfl⟩ := List.mem_map.1 hu; rfl)
  have HONE := hid' hone
  have HONY := hid' honey
  rw [hXS] at HROW
  rw [hYS] at HROW2
  have HXS := hid' hXS
  have HYS := hid' hYS
  have HN := hid' hn
  have HM := hid' hm
  have HNL := hid' hnl
  rw [hvv] at v2 HROW
  rw [huu] at u2 HROW2
  have hcj : v1 = v1 := rfl
  clear hcj hRM hRN hup hcell hi6 hb1 hi6' hb1' hv hw hlk ht hu hn hm hnl H hc hd hXS hYS hone honey hsz1 hsz2 hall hvv huu
  obtain ⟨E, hE⟩ : ∃ E, E = J ++ [(g, Obj.cells cur 92), (gp, refBox (.slice (some ⟨g, 0, none⟩) nl cap))] := ⟨_, rfl⟩
  rw [← hE] at mg mr HRM HRN A1 HJ
  have HE := hid' hE
  clear hE
  generalize c.kind = ck at *
  obtain ⟨iz, hinf, hz0, hz1, hz2⟩ := info_parts Try.infoByte
  go_enter Try.func14, Try.ntmps14
  go_wp2_with fail
  refine (HRM.out _ A1).mono ?_
  rintro r w1 ⟨rfl, A2⟩
  clear A1
  (try clear Rk); (try clear yk); (try clear Zk)
  have Rk := cells_of (A2.box _ (mk E))
  have yk := blk_lt (A2.box _ (mk E))
  (try clear Rx); (try clear yx); (try clear Zx)
  have Rx := cells_of (A2.box _ (mx E))
  have yx := blk_lt (A2.box _ (mx E))
  (try clear Rg); (try clear yg); (try clear Zg)
  have Rg := cells_of (A2.box _ mg)
  have yg := blk_lt (A2.box _ mg)
  (try clear Rr); (try clear yr); (try clear Zr)
  have Rr := cells_of (A2.box _ mr)
  have yr := blk_lt (A2.box _ mr)
  (try simp only at Rk yk Rx yx Rg yg Rr yr)
  go_wp2_with fail
  refine (HRN.out _ A2).mono ?_
  rintro r w2 ⟨rfl, A3⟩
  clear A2
  (try clear Rk); (try clear yk); (try clear Zk)
  have Rk := cells_of (A3.box _ (mk E))
  have yk := blk_lt (A3.box _ (mk E))
  (try clear Rx); (try clear yx); (try clear Zx)
  have Rx := cells_of (A3.box _ (mx E))
  have yx := blk_lt (A3.box _ (mx E))
  (try clear Rg); (try clear yg); (try clear Zg)
  have Rg := cells_of (A3.box _ mg)
  have yg := blk_lt (A3.box _ mg)
  (try clear Rr); (try clear yr); (try clear Zr)
  have Rr := cells_of (A3.box _ mr)
  have yr := blk_lt (A3.box _ mr)
  (try simp only at Rk yk Rx yx Rg yg Rr yr)
  go_upto_region 11 with (fail)
  go_quiet (fail)
  have A4 := A3.pure ((Chg.refl NoB w2).drewN nq)
  clear A3
  generalize w2.drewN nq = w4 at *
  (try clear Rk); (try clear yk); (try clear Zk)
  have Rk := cells_of (A4.box _ (mk E))
  have yk := blk_lt (A4.box _ (mk E))
  (try clear Rx); (try clear yx); (try clear Zx)
  have Rx := cells_of (A4.box _ (mx E))
  have yx := blk_lt (A4.box _ (mx E))
  (try clear Rg); (try clear yg); (try clear Zg)
  have Rg := cells_of (A4.box _ mg)
  have yg := blk_lt (A4.box _ mg)
  (try clear Rr); (try clear yr); (try clear Zr)
  have Rr := cells_of (A4.box _ mr)
  have yr := blk_lt (A4.box _ mr)
  (try simp only at Rk yk Rx yx Rg yg Rr yr)
  go_upto_region 14 with (fail)
  go_still_tail 9, (by kernel_rfl)
  go_wp2_with (at_builtin; refine wpList_append_rowin rfl (.const (.slice none 0 0)) (.tmp 84) 83 rfl 5 iz (.int .u8 0) 1 1 Try.underBytes hinf hz0 hz1 hz2 rfl (by decide) A4.drew rfl _ n XS rfl HROW.out HJ.out HONE.out (by unfold maxLen; omega) (by omega) ?_; intro a1 c1 w5 R5 hR5 A5)
  obtain ⟨B, nB, cB, B', c', e1, e2, e3⟩ := copy_into 5 83 1 Try.elemBytes Try.underBytes sizeOf_byte (w0 := w0) (M := M) hR5 HROW2.out HJ.out (az + i) bz mz (by omega) b0 z0 (by omega) bm HONY.out
  have HE3 := hid' e3
  clear e3 hR5 A4
  (try clear Rk); (try clear yk); (try clear Zk)
  have Rk := cells_of (A5.box _ (List.mem_append_right _ (mk E)))
  have yk := blk_lt (A5.box _ (List.mem_append_right _ (mk E)))
  (try clear Rx); (try clear yx); (try clear Zx)
  have Rx := cells_of (A5.box _ (List.mem_append_right _ (mx E)))
  have yx := blk_lt (A5.box _ (List.mem_append_right _ (mx E)))
  (try clear Rg); (try clear yg); (try clear Zg)
  have Rg := cells_of (A5.box _ (List.mem_append_right _ mg))
  have yg := blk_lt (A5.box _ (List.mem_append_right _ mg))
  (try clear Rr); (try clear yr); (try clear Zr)
  have Rr := cells_of (A5.box _ (List.mem_append_right _ mr))
  have yr := blk_lt (A5.box _ (List.mem_append_right _ mr))
  (try simp only at Rk yk Rx yx Rg yg Rr yr)
  go_upto_region 15 with (fail)
  go_still_tail 19, (by kernel_rfl)
  obtain ⟨W', R6, hr6, hR6, A6⟩ := HE3.out 3 _ A5.drew
  refine wpList_copy_known _ rfl (.tmp 90) (.tmp 104) _ _ rfl _ _ rfl rfl hr6 ?_
  clear A5 hr6 HE3
  have HR6 := hid' hR6
  clear hR6
  (try clear Rk); (try clear yk); (try clear Zk)
  have Rk := cells_of (A6.box _ (List.mem_append_right _ (mk E)))
  have yk := blk_lt (A6.box _ (List.mem_append_right _ (mk E)))
  (try clear Rx); (try clear yx); (try clear Zx)
  have Rx := cells_of (A6.box _ (List.mem_append_right _ (mx E)))
  have yx := blk_lt (A6.box _ (List.mem_append_right _ (mx E)))
  (try clear Rg); (try clear yg); (try clear Zg)
  have Rg := cells_of (A6.box _ (List.mem_append_right _ mg))
  have yg := blk_lt (A6.box _ (List.mem_append_right _ mg))
  (try clear Rr); (try clear yr); (try clear Zr)
  have Rr := cells_of (A6.box _ (List.mem_append_right _ mr))
  have yr := blk_lt (A6.box _ (List.mem_append_right _ mr))
  (try simp only at Rk yk Rx yx Rg yg Rr yr)
  have Zr := free_of (A6.box _ (List.mem_append_right _ mr))
  go_upto_region 16 with (fail)
  go_still_tail 9, (by kernel_rfl)
  go_wp2_with fail
  go_ret
  have A7 : Ats w0 W'.drew M (((R6 ++ J) ++ [(g, Obj.cells cur 92), (gp, refBox (.slice (some ⟨g, 0, none⟩) nl cap))]) ++ K2) := by
    have := A6.drew
    rw [HE.out] at this
    simpa only [List.append_assoc] using this
  refine ⟨rfl, _, HNL.out ▸ HUP.out R6 { c with bytes := splice c.bytes (az + i).toNat ((d.bytes.drop bz.toNat).take mz.toNat) } 2 (.slice a1 n c1) (by omega) ?_ ?_, ?_⟩
  · have A8 := (A7.storeRow (N * 4 + 2) (.slice a1 n c1)).keep (List.Sublist.append_left hKs _)
    rw [HNL.out]
    exact A8
  · obtain ⟨vi1, vb1, hvs1, h61, h11, t11, t21⟩ := HCELL.out
    simp only [List.cons.injEq, Value.int.injEq, true_and, and_true] at hvs1
    obtain ⟨hck, rfl, -⟩ := hvs1
    have hpl : ((d.bytes.drop bz.toNat).take mz.toNat).length = mz.toNat := by rw [List.length_take, List.length_drop, HM.out]; omega
    have hl : (splice c.bytes (az + i).toNat ((d.bytes.drop bz.toNat).take mz.toNat)).length = n := by rw [length_splice _ _ _ (by rw [hpl, HN.out]; omega)]; exact HN.out
    have hrow := HR6.out.rowin.mono (J' := R6 ++ J) (fun q hq => List.mem_append_left _ hq)
    rw [← HXS.out, ← HYS.out] at hrow
    refine ⟨_, _, by rw [hck]; rfl, h61.mono (fun q hq => List.mem_append_right _ hq), ?_, t11, fun h => absurd (h.symm.trans HT.out) (by simp)⟩
    simp only
    rw [hl, splice_map, List.map_take, List.map_drop]
    simpa using hrow
  · have hpl : ((d.bytes.drop bz.toNat).take mz.toNat).length = mz.toNat := by rw [List.length_take, List.length_drop, HM.out]; omega
    have hl : (splice c.bytes (az + i).toNat ((d.bytes.drop bz.toNat).take mz.toNat)).length = c.bytes.length := length_splice _ _ _ (by rw [hpl, HN.out]; omega)
    simp [C.size, HT.out, hl]
set_option maxRecDepth 100000 in
set_option maxHeartbeats 2000000 in
theorem rput_item {J0 : List (Nat × Obj)} {w0 w : World} {M : List (Nat × List C)} {E K : List (Nat × Obj)} {gp : Nat} {L : List C} (H : RefK J0 gp L E) (A : Ats w0 w M (E ++ K)) {kk kp kl xp xl az lz bz mz i : Int} {kx xx : Bool} {ks xs : ByteArray} {N N2 : Nat} {c d : C}
    (hc : L[N]? = some c) (hd : L[N2]? = some d) (hv : roomV L ⟨kk, kx, N, kp, kl, ks⟩ = (az, lz, 0)) (hw : roomV L ⟨kk, xx, N2, xp, xl, xs⟩ = (bz, mz, 0)) (i0 : 0 ≤ i) (i1 : i ≤ lz) (i2 : mz ≤ lz - i) (a0 : 0 ≤ az) (al : az + lz ≤ c.size) (b0 : 0 ≤ bz) (z0 : 0 ≤ mz) (bm : bz + mz ≤ d.size)
    (hlk : c.locked = false) (ht : c.text = false) (hu : d.text = false) (hk8 : (kk == 8) = false) (hk10 : (kk == 10) = false) :
    Calls Try.prog 14 #[ptr gp, O.val ⟨kk, kx, N, kp, kl, ks⟩, .int .i64 i, O.val ⟨kk, xx, N2, xp, xl, xs⟩] w fun r w' => r = .returned (.int .i64 0) ∧ ∃ E', RefK J0 gp (L.set N { c with items := splice c.items (az + i).toNat ((d.items.drop bz.toNat).take mz.toNat) }) E' ∧ Ats w0 w' M (E' ++ K) := by
  have hsm := cell_le hc H.bounds.2
  have hsm2 := cell_le hd H.bounds.2
  have hsz1 : c.size = c.items.length := if_neg (by simp [ht])
  have hsz2 : d.size = d.items.length := if_neg (by simp [hu])
  obtain ⟨K2, hK2⟩ : ∃ K2, K2 = (w.heap.size + 1, Obj.cells #[.int .i64 kk, .bool xx, .int .i64 N2, .int .i64 xp, .int .i64 xl, .string xs] 24) :: (w.heap.size, Obj.cells #[.int .i64 kk, .bool kx, .int .i64 N, .int .i64 kp, .int .i64 kl, .string ks] 24) :: K := ⟨_, rfl⟩
  have A1 := (A.alloc (Obj.cells #[.int .i64 kk, .bool kx, .int .i64 N, .int .i64 kp, .int .i64 kl, .string ks] 24)).alloc (Obj.cells #[.int .i64 kk, .bool xx, .int .i64 N2, .int .i64 xp, .int .i64 xl, .string xs] 24)
  simp only [World.size_alloc] at A1
  have A1 : Ats w0 ((w.alloc (Obj.cells #[.int .i64 kk, .bool kx, .int .i64 N, .int .i64 kp, .int .i64 kl, .string ks] 24)).alloc (Obj.cells #[.int .i64 kk, .bool xx, .int .i64 N2, .int .i64 xp, .int .i64 xl, .string xs] 24)) M (E ++ K2) := A1.perm (by
    rw [hK2]
    classical refine List.perm_iff_count.2 fun q => ?_
    simp only [List.count_append, List.count_cons]
    omega)
  have hKs : K.Sublist K2 := by rw [hK2]; exact (List.sublist_cons_self _ _).trans (List.sublist_cons_self _ _)
  have mk : ∀ E, (w.heap.size, Obj.cells #[.int .i64 kk, .bool kx, .int .i64 N, .int .i64 kp, .int .i64 kl, .string ks] 24) ∈ E ++ K2 := fun E => by rw [hK2]; simp
  have mx : ∀ E, (w.heap.size + 1, Obj.cells #[.int .i64 kk, .bool xx, .int .i64 N2, .int .i64 xp, .int .i64 xl, .string xs] 24) ∈ E ++ K2 := fun E => by rw [hK2]; simp
  clear hK2 A
  have hRM := fun W (A : Ats w0 W M (E ++ K2)) => rroom_any H A (fun q hq => List.mem_append_left _ hq) ⟨kk, kx, N, kp, kl, ks⟩ hv
  have hRN := fun W (A : Ats w0 W M (E ++ K2)) => rroom_any H A (fun q hq => List.mem_append_left _ hq) ⟨kk, xx, N2, xp, xl, xs⟩ hw
  obtain ⟨J, g, cap, cur, vi, vb, rfl, hcap, hi, hcell, v0, v1, v2, v3, hall, hup⟩ := H.open2 hc
  obtain ⟨ui, ub, hcd, u1, u2⟩ := hall N2 d hd
  have hj2 : N2 < L.length := (List.getElem?_eq_some_iff.1 hd).1
  have mg : (gp, refBox (.slice (some ⟨g, 0, none⟩) L.length cap)) ∈ (J ++ [(g, Obj.cells cur 92), (gp, refBox (.slice (some ⟨g, 0, none⟩) L.length cap))]) ++ K2 := by simp
  have mr : (g, Obj.cells cur 92) ∈ (J ++ [(g, Obj.cells cur 92), (gp, refBox (.slice (some ⟨g, 0, none⟩) L.length cap))]) ++ K2 := by simp
  have hcell2 := hcell
  obtain ⟨vi', vb', hvs, hi6, hb1, -, -⟩ := hcell2
  simp only [List.cons.injEq, true_and, and_true] at hvs
  obtain ⟨rfl, rfl⟩ := hvs
  obtain ⟨ui', ub', hus, hi6', hb1', -, -⟩ := hcd
  simp only [List.cons.injEq, true_and, and_true] at hus
  obtain ⟨rfl, rfl⟩ := hus
  have HUP := hid' hup
  have HCELL := hid' hcell
  have HROW := hid' hi6
  have HROW2 := hid' hi6'
  obtain ⟨av, cv, hvv, -⟩ := hi6.slice
  obtain ⟨au, cu, huu, -⟩ := hi6'.slice
  have HJ := hid' (fun q (hq : q ∈ J) => List.mem_append_left K2 (List.mem_append_left [(g, Obj.cells cur 92), (gp, refBox (.slice (some ⟨g, 0, none⟩) L.length cap))] hq))
  rw [hlk] at v3
  have hcapi : (N : Int) < cap := by omega
  have hcapj : (N2 : Int) < cap := by omega
  have hni : (N : Int) < L.length := by omega
  have hnj : (N2 : Int) < L.length := by omega
  rw [hsz1] at al hsm
  rw [hsz2] at bm hsm2
  have wr1 : IntKind.i64.wrap (lz - i) = lz - i := IntWalk.i64_in _ (by omega)
  have wr2 : IntKind.i64.wrap (az + i) = az + i := IntWalk.i64_in _ (by omega)
  have wr3 : IntKind.i64.wrap (bz + mz) = bz + mz := IntWalk.i64_in _ (by omega)

  have HT := hid' ht
  have HLC := hid' hsz1
  have HRM := hid' hRM
  have HRN := hid' hRN
  obtain ⟨n, hn⟩ : ∃ n, c.items.length = n := ⟨_, rfl⟩
  obtain ⟨m, hm⟩ : ∃ m, d.items.length = m := ⟨_, rfl⟩
  obtain ⟨nl, hnl⟩ : ∃ nl, L.length = nl := ⟨_, rfl⟩
  rw [hn] at HROW al hsm hvv
  rw [hm] at HROW2 bm hsm2 huu
  rw [hnl] at mg mr HRM HRN A1 HUP hcap hi hj2 hni hnj HJ
  obtain ⟨XS, hXS⟩ : ∃ XS, c.items.flatMap O.cells = XS := ⟨_, rfl⟩
  obtain ⟨YS, hYS⟩ : ∃ YS, d.items.flatMap O.cells = YS := ⟨_, rfl⟩
  have hone : ∀ u ∈ XS, u.oneCell' = true := by rw [← hXS]; exact flat_one _
  have honey : ∀ u ∈ YS, u.oneCell' = true := by rw [← hYS]; exact flat_one _
  have HONE := hid' hone
  have HONY := hid' honey
  rw [hXS] at HROW
  rw [hYS] at HROW2
  have HXS := hid' hXS
  have HYS := hid' hYS
  have HN := hid' hn
  have HM := hid' hm
  have HNL := hid' hnl
  rw [hvv] at v1 HROW
  rw [huu] at u1 HROW2
  have hcj : v2 = v2 := rfl
  clear hcj hRM hRN hup hcell hi6 hb1 hi6' hb1' hv hw hlk ht hu hn hm hnl H hc hd hXS hYS hone honey hsz1 hsz2 hall hvv huu
  obtain ⟨E, hE⟩ : ∃ E, E = J ++ [(g, Obj.cells cur 92), (gp, refBox (.slice (some ⟨g, 0, none⟩) nl cap))] := ⟨_, rfl⟩
  rw [← hE] at mg mr HRM HRN A1 HJ
  have HE := hid' hE
  clear hE
  generalize c.kind = ck at *
  obtain ⟨iz, hinf, hz0, hz1, hz2⟩ := info_parts Try.infoObj
  go_enter Try.func14, Try.ntmps14
  go_wp2_with fail
  refine (HRM.out _ A1).mono ?_
  rintro r w1 ⟨rfl, A2⟩
  clear A1
  (try clear Rk); (try clear yk); (try clear Zk)
  have Rk := cells_of (A2.box _ (mk E))
  have yk := blk_lt (A2.box _ (mk E))
  (try clear Rx); (try clear yx); (try clear Zx)
  have Rx := cells_of (A2.box _ (mx E))
  have yx := blk_lt (A2.box _ (mx E))
  (try clear Rg); (try clear yg); (try clear Zg)
  have Rg := cells_of (A2.box _ mg)
  have yg := blk_lt (A2.box _ mg)
  (try clear Rr); (try clear yr); (try clear Zr)
  have Rr := cells_of (A2.box _ mr)
  have yr := blk_lt (A2.box _ mr)
  (try simp only at Rk yk Rx yx Rg yg Rr yr)
  go_wp2_with fail
  refine (HRN.out _ A2).mono ?_
  rintro r w2 ⟨rfl, A3⟩
  clear A2
  (try clear Rk); (try clear yk); (try clear Zk)
  have Rk := cells_of (A3.box _ (mk E))
  have yk := blk_lt (A3.box _ (mk E))
  (try clear Rx); (try clear yx); (try clear Zx)
  have Rx := cells_of (A3.box _ (mx E))
  have yx := blk_lt (A3.box _ (mx E))
  (try clear Rg); (try clear yg); (try clear Zg)
  have Rg := cells_of (A3.box _ mg)
  have yg := blk_lt (A3.box _ mg)
  (try clear Rr); (try clear yr); (try clear Zr)
  have Rr := cells_of (A3.box _ mr)
  have yr := blk_lt (A3.box _ mr)
  (try simp only at Rk yk Rx yx Rg yg Rr yr)
  go_upto_region 11 with (fail)
  go_quiet (fail)
  have A4 := A3.pure ((Chg.refl NoB w2).drewN nq)
  clear A3
  generalize w2.drewN nq = w4 at *
  (try clear Rk); (try clear yk); (try clear Zk)
  have Rk := cells_of (A4.box _ (mk E))
  have yk := blk_lt (A4.box _ (mk E))
  (try clear Rx); (try clear yx); (try clear Zx)
  have Rx := cells_of (A4.box _ (mx E))
  have yx := blk_lt (A4.box _ (mx E))
  (try clear Rg); (try clear yg); (try clear Zg)
  have Rg := cells_of (A4.box _ mg)
  have yg := blk_lt (A4.box _ mg)
  (try clear Rr); (try clear yr); (try clear Zr)
  have Rr := cells_of (A4.box _ mr)
  have yr := blk_lt (A4.box _ mr)
  (try simp only at Rk yk Rx yx Rg yg Rr yr)
  go_upto_region 18 with (fail)
  go_still_tail 9, (by kernel_rfl)
  go_wp2_with (at_builtin; refine wpList_append_rowin rfl (.const (.slice none 0 0)) (.tmp 123) 33 rfl 24 iz O.nil.val 6 56 Try.underObjs hinf hz0 hz1 hz2 rfl (by decide) A4.drew rfl _ n XS rfl HROW.out HJ.out HONE.out (by unfold maxLen; omega) (by omega) ?_; intro a1 c1 w5 R5 hR5 A5)
  obtain ⟨B, nB, cB, B', c', e1, e2, e3⟩ := copy_into 24 33 6 Try.elemObjs Try.underObjs sizeOf_obj (w0 := w0) (M := M) hR5 HROW2.out HJ.out (az + i) bz mz (by omega) b0 z0 (by omega) bm HONY.out
  have HE3 := hid' e3
  clear e3 hR5 A4
  (try clear Rk); (try clear yk); (try clear Zk)
  have Rk := cells_of (A5.box _ (List.mem_append_right _ (mk E)))
  have yk := blk_lt (A5.box _ (List.mem_append_right _ (mk E)))
  (try clear Rx); (try clear yx); (try clear Zx)
  have Rx := cells_of (A5.box _ (List.mem_append_right _ (mx E)))
  have yx := blk_lt (A5.box _ (List.mem_append_right _ (mx E)))
  (try clear Rg); (try clear yg); (try clear Zg)
  have Rg := cells_of (A5.box _ (List.mem_append_right _ mg))
  have yg := blk_lt (A5.box _ (List.mem_append_right _ mg))
  (try clear Rr); (try clear yr); (try clear Zr)
  have Rr := cells_of (A5.box _ (List.mem_append_right _ mr))
  have yr := blk_lt (A5.box _ (List.mem_append_right _ mr))
  (try simp only at Rk yk Rx yx Rg yg Rr yr)
  go_upto_region 19 with (fail)
  go_still_tail 19, (by kernel_rfl)
  obtain ⟨W', R6, hr6, hR6, A6⟩ := HE3.out 3 _ A5.drew
  refine wpList_copy_known _ rfl (.tmp 129) (.tmp 143) _ _ rfl _ _ rfl rfl hr6 ?_
  clear A5 hr6 HE3
  have HR6 := hid' hR6
  clear hR6
  (try clear Rk); (try clear yk); (try clear Zk)
  have Rk := cells_of (A6.box _ (List.mem_append_right _ (mk E)))
  have yk := blk_lt (A6.box _ (List.mem_append_right _ (mk E)))
  (try clear Rx); (try clear yx); (try clear Zx)
  have Rx := cells_of (A6.box _ (List.mem_append_right _ (mx E)))
  have yx := blk_lt (A6.box _ (List.mem_append_right _ (mx E)))
  (try clear Rg); (try clear yg); (try clear Zg)
  have Rg := cells_of (A6.box _ (List.mem_append_right _ mg))
  have yg := blk_lt (A6.box _ (List.mem_append_right _ mg))
  (try clear Rr); (try clear yr); (try clear Zr)
  have Rr := cells_of (A6.box _ (List.mem_append_right _ mr))
  have yr := blk_lt (A6.box _ (List.mem_append_right _ mr))
  (try simp only at Rk yk Rx yx Rg yg Rr yr)
  have Zr := free_of (A6.box _ (List.mem_append_right _ mr))
  go_upto_region 20 with (fail)
  go_still_tail 9, (by kernel_rfl)
  go_wp2_with fail
  go_ret
  have A7 : Ats w0 W'.drew M (((R6 ++ J) ++ [(g, Obj.cells cur 92), (gp, refBox (.slice (some ⟨g, 0, none⟩) nl cap))]) ++ K2) := by
    have := A6.drew
    rw [HE.out] at this
    simpa only [List.append_assoc] using this
  refine ⟨rfl, _, HNL.out ▸ HUP.out R6 { c with items := splice c.items (az + i).toNat ((d.items.drop bz.toNat).take mz.toNat) } 1 (.slice a1 n c1) (by omega) ?_ ?_, ?_⟩
  · have A8 := (A7.storeRow (N * 4 + 1) (.slice a1 n c1)).keep (List.Sublist.append_left hKs _)
    rw [HNL.out]
    exact A8
  · obtain ⟨vi1, vb1, hvs1, h61, h11, t11, t21⟩ := HCELL.out
    simp only [List.cons.injEq, Value.int.injEq, true_and, and_true] at hvs1
    obtain ⟨hck, -, rfl⟩ := hvs1
    have hpl : ((d.items.drop bz.toNat).take mz.toNat).length = mz.toNat := by rw [List.length_take, List.length_drop, HM.out]; omega
    have hl : (splice c.items (az + i).toNat ((d.items.drop bz.toNat).take mz.toNat)).length = n := by rw [length_splice _ _ _ (by rw [hpl, HN.out]; omega)]; exact HN.out
    have hrow := HR6.out.rowin.mono (J' := R6 ++ J) (fun q hq => List.mem_append_left _ hq)
    rw [← HXS.out, ← HYS.out] at hrow
    refine ⟨_, _, by rw [hck]; rfl, ?_, h11.mono (fun q hq => List.mem_append_right _ hq), fun h => absurd (h.symm.trans HT.out) (by simp), fun _ => t21 HT.out⟩
    simp only
    rw [hl, splice_flat, flat_drop_take]
    exact hrow
  · have hpl : ((d.items.drop bz.toNat).take mz.toNat).length = mz.toNat := by rw [List.length_take, List.length_drop, HM.out]; omega
    have hl : (splice c.items (az + i).toNat ((d.items.drop bz.toNat).take mz.toNat)).length = c.items.length := length_splice _ _ _ (by rw [hpl, HN.out]; omega)
    simp [C.size, HT.out, hl]
end Go.Proofs.Ythkhdbinkcgpgaa
/- The reference's heap: Put, whole. -/
namespace Go.Proofs.Ythkhdbinkcgpgaa
open Go.RowKit

set_option maxRecDepth 100000 in
set_option maxHeartbeats 2000000 in
/-- Put, where it stores nothing though both objects are good. -/
theorem rput_no {J0 : List (Nat × Obj)} {w0 w : World} {M : List (Nat × List C)} {E K : List (Nat × Obj)} {gp : Nat} {L : List C} (H : RefK J0 gp L E) (A : Ats w0 w M (E ++ K)) {kk kp kl xk xp xl az lz bz mz i e : Int} {kx xx : Bool} {ks xs : ByteArray} {N N2 : Nat} {c : C}
    (hc : L[N]? = some c) (hv : roomV L ⟨kk, kx, N, kp, kl, ks⟩ = (az, lz, 0)) (hw : roomV L ⟨xk, xx, N2, xp, xl, xs⟩ = (bz, mz, 0)) (l0 : 0 ≤ lz) (l1 : lz ≤ 40000) (_z0 : 0 ≤ mz)
    (hcs : (kk = 10 ∧ e = 6) ∨ ((kk == 10) = false ∧ (kk != xk) = true ∧ e = 6) ∨ ((kk == 10) = false ∧ xk = kk ∧ i < 0 ∧ e = 12) ∨ ((kk == 10) = false ∧ xk = kk ∧ 0 ≤ i ∧ lz < i ∧ e = 12) ∨ ((kk == 10) = false ∧ xk = kk ∧ 0 ≤ i ∧ i ≤ lz ∧ lz - i < mz ∧ e = 12) ∨ ((kk == 10) = false ∧ xk = kk ∧ 0 ≤ i ∧ i ≤ lz ∧ mz ≤ lz - i ∧ c.locked = true ∧ e = 1)) :
    Calls Try.prog 14 #[ptr gp, O.val ⟨kk, kx, N, kp, kl, ks⟩, .int .i64 i, O.val ⟨xk, xx, N2, xp, xl, xs⟩] w fun r w' => r = .returned (.int .i64 e) ∧ Ats w0 w' M (E ++ K) := by
  have A1 := (A.alloc (Obj.cells #[.int .i64 kk, .bool kx, .int .i64 N, .int .i64 kp, .int .i64 kl, .string ks] 24)).alloc (Obj.cells #[.int .i64 xk, .bool xx, .int .i64 N2, .int .i64 xp, .int .i64 xl, .string xs] 24)
  simp only [World.size_alloc] at A1
  obtain ⟨KL, hKL⟩ : ∃ KL, KL = (w.heap.size + 1, Obj.cells #[.int .i64 xk, .bool xx, .int .i64 N2, .int .i64 xp, .int .i64 xl, .string xs] 24) :: (w.heap.size, Obj.cells #[.int .i64 kk, .bool kx, .int .i64 N, .int .i64 kp, .int .i64 kl, .string ks] 24) :: (E ++ K) := ⟨_, rfl⟩
  have hsub : (E ++ K).Sublist KL := by rw [hKL]; exact (List.sublist_cons_self _ _).trans (List.sublist_cons_self _ _)
  have mk : (w.heap.size, Obj.cells #[.int .i64 kk, .bool kx, .int .i64 N, .int .i64 kp, .int .i64 kl, .string ks] 24) ∈ KL := by rw [hKL]; simp
  have mx : (w.heap.size + 1, Obj.cells #[.int .i64 xk, .bool xx, .int .i64 N2, .int .i64 xp, .int .i64 xl, .string xs] 24) ∈ KL := by rw [hKL]; simp
  rw [← hKL] at A1
  clear hKL A
  have hEL : ∀ q ∈ E, q ∈ KL := fun q hq => hsub.subset (List.mem_append_left _ hq)
  have hRM := fun W (A : Ats w0 W M KL) => rroom_any H A hEL ⟨kk, kx, N, kp, kl, ks⟩ hv
  have hRN := fun W (A : Ats w0 W M KL) => rroom_any H A hEL ⟨xk, xx, N2, xp, xl, xs⟩ hw
  obtain ⟨g, cap, cur, vi, vb, hb, hcap, hg, hi, hcell, v0, v1, v2, v3⟩ := H.cell hc
  have hbK := hEL _ hb
  have hgK := hEL _ hg
  have hcapi : (N : Int) < cap := by omega
  have hni : (N : Int) < L.length := by omega
  have HRM := hid' hRM
  have HRN := hid' hRN
  generalize hlk : c.locked = lk at *
  clear hRM hRN hv hw hc hb hg hcell H hEL hlk
  rcases hcs with ⟨rfl, rfl⟩ | ⟨h10, hne, rfl⟩ | ⟨h10, rfl, i0, rfl⟩ | ⟨h10, rfl, i0, i1, rfl⟩ | ⟨h10, rfl, i0, i1, i2, rfl⟩ | ⟨h10, rfl, i0, i1, i2, rfl, rfl⟩
  case inr.inr.inr.inr.inr =>
    have wr1 : IntKind.i64.wrap (lz - i) = lz - i := IntWalk.i64_in _ (by omega)
    generalize L.length = nl at *
    go_enter Try.func14, Try.ntmps14
    go_wp2_with fail
    refine (HRM.out _ A1).mono ?_
    rintro r w1 ⟨rfl, A2⟩
    clear A1
    (try clear Rk); (try clear yk); (try clear Zk)
    have Rk := cells_of (A2.box _ mk)
    have yk := blk_lt (A2.box _ mk)
    (try clear Rx); (try clear yx); (try clear Zx)
    have Rx := cells_of (A2.box _ mx)
    have yx := blk_lt (A2.box _ mx)
    (try clear Rg); (try clear yg); (try clear Zg)
    have Rg := cells_of (A2.box _ hbK)
    have yg := blk_lt (A2.box _ hbK)
    (try clear Rr); (try clear yr); (try clear Zr)
    have Rr := cells_of (A2.box _ hgK)
    have yr := blk_lt (A2.box _ hgK)
    (try simp only at Rk yk Rx yx Rg yg Rr yr)
    go_wp2_with fail
    refine (HRN.out _ A2).mono ?_
    rintro r w2 ⟨rfl, A3⟩
    clear A2
    (try clear Rk); (try clear yk); (try clear Zk)
    have Rk := cells_of (A3.box _ mk)
    have yk := blk_lt (A3.box _ mk)
    (try clear Rx); (try clear yx); (try clear Zx)
    have Rx := cells_of (A3.box _ mx)
    have yx := blk_lt (A3.box _ mx)
    (try clear Rg); (try clear yg); (try clear Zg)
    have Rg := cells_of (A3.box _ hbK)
    have yg := blk_lt (A3.box _ hbK)
    (try clear Rr); (try clear yr); (try clear Zr)
    have Rr := cells_of (A3.box _ hgK)
    have yr := blk_lt (A3.box _ hgK)
    (try simp only at Rk yk Rx yx Rg yg Rr yr)
    go_upto_region 11 with (fail)
    go_quiet (fail)
    go_wp2_with fail
    go_ret
    exact ⟨rfl, (A3.pure ((Chg.refl NoB w2).drewN nq)).keep hsub⟩
  case inr.inr.inr.inr.inl =>
    have wr1 : IntKind.i64.wrap (lz - i) = lz - i := IntWalk.i64_in _ (by omega)
    clear v0 v1 v2 v3 hgK hbK
    go_enter Try.func14, Try.ntmps14
    go_wp2_with fail
    refine (HRM.out _ A1).mono ?_
    rintro r w1 ⟨rfl, A2⟩
    clear A1
    (try clear Rk); (try clear yk); (try clear Zk)
    have Rk := cells_of (A2.box _ mk)
    have yk := blk_lt (A2.box _ mk)
    (try clear Rx); (try clear yx); (try clear Zx)
    have Rx := cells_of (A2.box _ mx)
    have yx := blk_lt (A2.box _ mx)
    (try simp only at Rk yk Rx yx)
    go_wp2_with fail
    refine (HRN.out _ A2).mono ?_
    rintro r w2 ⟨rfl, A3⟩
    clear A2
    (try clear Rk); (try clear yk); (try clear Zk)
    have Rk := cells_of (A3.box _ mk)
    have yk := blk_lt (A3.box _ mk)
    (try clear Rx); (try clear yx); (try clear Zx)
    have Rx := cells_of (A3.box _ mx)
    have yx := blk_lt (A3.box _ mx)
    (try simp only at Rk yk Rx yx)
    go_wp2_with fail
    go_ret
    exact ⟨rfl, A3.keep hsub⟩
  all_goals
    clear v0 v1 v2 v3 hgK hbK
    go_enter Try.func14, Try.ntmps14
    go_wp2_with fail
    refine (HRM.out _ A1).mono ?_
    rintro r w1 ⟨rfl, A2⟩
    clear A1
    (try clear Rk); (try clear yk); (try clear Zk)
    have Rk := cells_of (A2.box _ mk)
    have yk := blk_lt (A2.box _ mk)
    (try clear Rx); (try clear yx); (try clear Zx)
    have Rx := cells_of (A2.box _ mx)
    have yx := blk_lt (A2.box _ mx)
    (try simp only at Rk yk Rx yx)
    go_wp2_with fail
    refine (HRN.out _ A2).mono ?_
    rintro r w2 ⟨rfl, A3⟩
    clear A2
    (try clear Rk); (try clear yk); (try clear Zk)
    have Rk := cells_of (A3.box _ mk)
    have yk := blk_lt (A3.box _ mk)
    (try clear Rx); (try clear yx); (try clear Zx)
    have Rx := cells_of (A3.box _ mx)
    have yx := blk_lt (A3.box _ mx)
    (try simp only at Rk yk Rx yx)
    go_wp2_with fail
    go_ret
    exact ⟨rfl, A3.keep hsub⟩
set_option maxRecDepth 100000 in
set_option maxHeartbeats 2000000 in
theorem rput_any {J0 : List (Nat × Obj)} {w0 w : World} {M : List (Nat × List C)} {E K : List (Nat × Obj)} {gp : Nat} {L : List C} (H : RefK J0 gp L E) (A : Ats w0 w M (E ++ K)) (o : O) (i : Int) (x : O) {L' : List C} {e : Int} (hr : putH L o i x = (L', e)) :
    Calls Try.prog 14 #[ptr gp, o.val, .int .i64 i, x.val] w fun r w' => r = .returned (.int .i64 e) ∧ ∃ E', RefK J0 gp L' E' ∧ Ats w0 w' M (E' ++ K) := by
  obtain ⟨kk, kx, kn, kp, kl, ks⟩ := o
  obtain ⟨xk, xx, xn, xp, xl, xs⟩ := x
  rw [putH] at hr
  by_cases hf : findE L ⟨kk, kx, kn, kp, kl, ks⟩ = 0
  · rw [if_neg (by simp [hf])] at hr
    by_cases hg : findE L ⟨xk, xx, xn, xp, xl, xs⟩ = 0
    · rw [if_neg (by simp [hg])] at hr
      obtain ⟨c, hc, hv, hk, n0, n1, a0, l0, hal, hh, hM⟩ := find_cell hf
      obtain ⟨d, hd, hw, hj, p0, p1, b0, z0, hbm, -, -⟩ := find_cell hg
      simp only at hc n0 n1 hk hd p0 p1 hj hr
      have hsm := cell_le hc H.bounds.2
      obtain ⟨N, rfl⟩ : ∃ N : Nat, kn = N := ⟨kn.toNat, by omega⟩
      obtain ⟨N2, rfl⟩ : ∃ N : Nat, xn = N := ⟨xn.toNat, by omega⟩
      simp only [Int.toNat_natCast] at hc hd hr
      have fin : ∀ {e : Int}, (Calls Try.prog 14 #[ptr gp, O.val ⟨kk, kx, N, kp, kl, ks⟩, .int .i64 i, O.val ⟨xk, xx, N2, xp, xl, xs⟩] w fun r w' => r = .returned (.int .i64 e) ∧ Ats w0 w' M (E ++ K)) →
          Calls Try.prog 14 #[ptr gp, O.val ⟨kk, kx, N, kp, kl, ks⟩, .int .i64 i, O.val ⟨xk, xx, N2, xp, xl, xs⟩] w fun r w' => r = .returned (.int .i64 e) ∧ ∃ E', RefK J0 gp L E' ∧ Ats w0 w' M (E' ++ K) := fun h => h.mono fun r w' h => ⟨h.1, E, H, h.2⟩
      have no := fun e hcs => rput_no (e := e) (i := i) H A hc hv hw l0 (by omega) z0 hcs
      by_cases h10 : kk = 10
      · rw [if_pos (.inl h10)] at hr
        simp only [Prod.mk.injEq] at hr
        obtain ⟨rfl, rfl⟩ := hr
        exact fin (no _ (.inl ⟨h10, rfl⟩))
      have h10' : (kk == 10) = false := by simpa using h10
      by_cases hne : kk = xk
      · subst hne
        rw [if_neg (by simp [h10])] at hr
        rw [hc, hd] at hr
        simp only at hr
        by_cases hi : 0 ≤ i ∧ 0 ≤ lenOf d ⟨kk, xx, N2, xp, xl, xs⟩ ∧ i ≤ lenOf c ⟨kk, kx, N, kp, kl, ks⟩ ∧ lenOf d ⟨kk, xx, N2, xp, xl, xs⟩ ≤ lenOf c ⟨kk, kx, N, kp, kl, ks⟩ - i
        · rw [if_neg (not_not_intro hi)] at hr
          obtain ⟨i0, -, i1, i2⟩ := hi
          by_cases hlk : c.locked = true
          · rw [if_pos hlk] at hr
            simp only [Prod.mk.injEq] at hr
            obtain ⟨rfl, rfl⟩ := hr
            exact fin (no _ (.inr (.inr (.inr (.inr (.inr ⟨h10', rfl, i0, i1, i2, hlk, rfl⟩))))))
          · rw [if_neg hlk] at hr
            simp only [Bool.not_eq_true] at hlk
            have hkind : c.kind = d.kind := hk.trans hj.symm
            by_cases ht : c.text = true
            · rw [if_pos ht] at hr
              simp only [Prod.mk.injEq] at hr
              obtain ⟨rfl, rfl⟩ := hr
              have hu : d.text = true := by
                rcases hy : d.text with _ | _
                · simp only [C.kind, ht, hy, if_true, if_false, Bool.false_eq_true] at hkind
                  split at hkind <;> omega
                · rfl
              have h8 : kk = 8 := by rw [← hk, C.kind, if_pos ht]
              exact rput_text H A hc hd hv hw i0 i1 i2 a0 hal b0 z0 hbm hlk ht hu h8
            · rw [if_neg ht] at hr
              simp only [Prod.mk.injEq] at hr
              obtain ⟨rfl, rfl⟩ := hr
              simp only [Bool.not_eq_true] at ht
              have hu : d.text = false := by
                rcases hy : d.text with _ | _
                · rfl
                · simp only [C.kind, ht, hy, if_true, if_false, Bool.false_eq_true] at hkind
                  split at hkind <;> omega
              have h8 : (kk == 8) = false := by
                rw [← hk, C.kind, if_neg (by simp [ht])]
                split <;> rfl
              exact rput_item H A hc hd hv hw i0 i1 i2 a0 hal b0 z0 hbm hlk ht hu h8 h10'
        · rw [if_pos hi] at hr
          simp only [Prod.mk.injEq] at hr
          obtain ⟨rfl, rfl⟩ := hr
          by_cases i0 : i < 0
          · exact fin (no _ (.inr (.inr (.inl ⟨h10', rfl, i0, rfl⟩))))
          by_cases i1 : lenOf c ⟨kk, kx, N, kp, kl, ks⟩ < i
          · exact fin (no _ (.inr (.inr (.inr (.inl ⟨h10', rfl, by omega, i1, rfl⟩)))))
          · exact fin (no _ (.inr (.inr (.inr (.inr (.inl ⟨h10', rfl, by omega, by omega, by omega, rfl⟩))))))
      · rw [if_pos (.inr hne)] at hr
        simp only [Prod.mk.injEq] at hr
        obtain ⟨rfl, rfl⟩ := hr
        exact fin (no _ (.inr (.inl ⟨h10', by simpa using hne, rfl⟩)))
    · rw [if_pos hg] at hr
      simp only [Prod.mk.injEq] at hr
      obtain ⟨rfl, rfl⟩ := hr
      obtain ⟨c, hc, hv, -⟩ := find_cell hf
      have A1 := (A.alloc (Obj.cells #[.int .i64 kk, .bool kx, .int .i64 kn, .int .i64 kp, .int .i64 kl, .string ks] 24)).alloc (Obj.cells #[.int .i64 xk, .bool xx, .int .i64 xn, .int .i64 xp, .int .i64 xl, .string xs] 24)
      simp only [World.size_alloc] at A1
      have hsub : ∀ a b : Nat × Obj, (E ++ K).Sublist (a :: b :: (E ++ K)) := fun a b => (List.sublist_cons_self _ _).trans (List.sublist_cons_self _ _)
      have HRM := hid' (rroom_any H A1 (fun q hq => (hsub _ _).subset (List.mem_append_left _ hq)) ⟨kk, kx, kn, kp, kl, ks⟩ hv)
      have HRN := hid' (fun W (A1 : Ats w0 W M ((w.heap.size + 1, Obj.cells #[.int .i64 xk, .bool xx, .int .i64 xn, .int .i64 xp, .int .i64 xl, .string xs] 24) :: (w.heap.size, Obj.cells #[.int .i64 kk, .bool kx, .int .i64 kn, .int .i64 kp, .int .i64 kl, .string ks] 24) :: (E ++ K))) => rroom_any H A1 (fun q hq => (hsub _ _).subset (List.mem_append_left _ hq)) ⟨xk, xx, xn, xp, xl, xs⟩ (by rw [roomV, if_pos hg]))
      have hne : (findE L ⟨xk, xx, xn, xp, xl, xs⟩ != 0) = true := by simpa using hg
      have hne2 : (findE L ⟨xk, xx, xn, xp, xl, xs⟩ == 0) = false := by simpa using hg
      have HH := hid' H
      clear H hf hg A hc hv A1
      generalize findE L _ = fe at *
      generalize lenOf c _ = lz at *
      generalize atOf _ = az at *
      go_enter Try.func14, Try.ntmps14
      go_wp2_with fail
      refine HRM.out.mono ?_
      rintro r w1 ⟨rfl, A2⟩
      (try clear Rk); (try clear yk); (try clear Zk)
      have Rk := cells_of (A2.box _ m1)
      have yk := blk_lt (A2.box _ m1)
      (try clear Rx); (try clear yx); (try clear Zx)
      have Rx := cells_of (A2.box _ m0)
      have yx := blk_lt (A2.box _ m0)
      (try simp only at Rk yk Rx yx)
      go_wp2_with fail
      refine (HRN.out _ A2).mono ?_
      rintro r w2 ⟨rfl, A3⟩
      go_wp2_with fail
      go_ret
      exact ⟨rfl, E, HH.out, A3.keep (hsub _ _)⟩
  · rw [if_pos hf] at hr
    simp only [Prod.mk.injEq] at hr
    obtain ⟨rfl, rfl⟩ := hr
    have A1 := (A.alloc (Obj.cells #[.int .i64 kk, .bool kx, .int .i64 kn, .int .i64 kp, .int .i64 kl, .string ks] 24)).alloc (Obj.cells #[.int .i64 xk, .bool xx, .int .i64 xn, .int .i64 xp, .int .i64 xl, .string xs] 24)
    simp only [World.size_alloc] at A1
    have hsub : ∀ a b : Nat × Obj, (E ++ K).Sublist (a :: b :: (E ++ K)) := fun a b => (List.sublist_cons_self _ _).trans (List.sublist_cons_self _ _)
    have HRM := hid' (rroom_any H A1 (fun q hq => (hsub _ _).subset (List.mem_append_left _ hq)) ⟨kk, kx, kn, kp, kl, ks⟩ (by rw [roomV, if_pos hf]))
    have hne : (findE L ⟨kk, kx, kn, kp, kl, ks⟩ != 0) = true := by simpa using hf
    have hne2 : (findE L ⟨kk, kx, kn, kp, kl, ks⟩ == 0) = false := by simpa using hf
    have HH := hid' H
    clear H hf A A1
    generalize findE L _ = fe at *
    go_enter Try.func14, Try.ntmps14
    go_wp2_with fail
    refine HRM.out.mono ?_
    rintro r w1 ⟨rfl, A2⟩
    go_wp2_with fail
    go_ret
    exact ⟨rfl, E, HH.out, A2.keep (hsub _ _)⟩
end Go.Proofs.Ythkhdbinkcgpgaa
