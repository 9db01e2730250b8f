/- Walk: tympanlaw12.DictLast. -/
import Derived.Test.YtgllgemjfpiogaaLsl
import Derived.Test.YtgllgemjfpiogaaKey
import Derived.Test.YtgllgemjfpiogaaDpk
import Derived.Test.YtgllgemjfpiogaaDy
namespace Go.Proofs.Ytgllgemjfpiogaa
open Go.RowKit

theorem may_un (L : List C) (o : O) : mayH L (unO o) = mayH L o := rfl
theorem may_keyF (L : List C) (k : Int) (raw : O) (h : 0 ≤ k) : mayH L (keyF k raw) = true ∧ mayH L (unO (keyF k raw)) = true ∧ (keyF k raw).kind ≠ 1 ∧ (keyF k raw).kind ≠ 8 := by
  rw [may_un]
  unfold keyF
  rw [if_neg (by omega)]
  have h7 : 0 ≤ k / 4 % 7 := by omega
  have h8 : k / 4 % 7 < 7 := by omega
  have h9 : k / 4 % 7 % 2 ≤ 1 := by omega
  have h6 : 0 ≤ k / 4 % 7 % 2 := by omega
  generalize k / 4 % 7 % 2 = m at *
  generalize k / 4 % 7 = n at *
  split
  · refine (fun h => ⟨h, h, by simp, by simp⟩) ?_
    simp [mayH, held, mayO, eqO, bareO, O.nil, ByteArray.size]
  · split
    · refine (fun h => ⟨h, h, by simp, by simp⟩) ?_
      simp [mayH, held, mayO, eqO, bareO, O.nil]
      omega
    · split
      · refine (fun h => ⟨h, h, by simp, by simp⟩) ?_
        simp [mayH, held, mayO, eqO, bareO, O.nil]
        omega
      · refine (fun h => ⟨h, h, by simp, by simp⟩) ?_
        simp [mayH, held, mayO, eqO, bareO, O.nil]
        omega
theorem keyD_keyF (L : List C) (k : Int) (raw : O) (h : 0 ≤ k) : keyD L (keyF k raw) = (unO (keyF k raw), 0) := by
  obtain ⟨h1, -, h3, h4⟩ := may_keyF L k raw h
  unfold keyD
  rw [if_neg h3, h1, if_neg (by simp), if_neg h4]
theorem keyD_un (L : List C) (k : Int) (raw : O) (h : 0 ≤ k) : keyD L (unO (keyF k raw)) = (unO (keyF k raw), 0) := by
  obtain ⟨-, h1, h3, h4⟩ := may_keyF L k raw h
  unfold keyD
  have e3 : ¬ (unO (keyF k raw)).kind = 1 := h3
  have e4 : ¬ (unO (keyF k raw)).kind = 8 := h4
  rw [if_neg e3, h1, if_neg (by simp), if_neg e4]
  rfl
theorem dic_one' (X : List (O × O)) (k : Nat) (h : X.length ≤ k) (hk : k ≤ 1000) : DicAt [dcell X k] 0 (dcell X k) :=
  ⟨rfl, rfl, rfl, rfl, by rw [dItems_length X k h]; omega, by omega⟩
/-- Keys that may be, and whole numbers. -/
abbrev AllL (ps : List (O × O)) : Prop := ∀ p ∈ ps, (∀ L, mayH L p.1 = true) ∧ ((∀ L, mayH L p.2 = true) ∧ p.2.kind = 3)
theorem get_mem {ps : List (O × O)} {k u : O} (h : getK ps k = some u) : ∃ p ∈ ps, p.2 = u := by
  induction ps with
  | nil => simp [getK] at h
  | cons p ps ih =>
    unfold getK at h
    split at h
    · exact ⟨p, List.mem_cons_self .., by simpa using h⟩
    · obtain ⟨x, hx, e⟩ := ih h
      exact ⟨x, List.mem_cons_of_mem _ hx, e⟩

set_option maxRecDepth 100000 in
set_option maxHeartbeats 8000000 in
theorem dictLast_any (a0 : Value) (z0 : List Int) (a1 : Value) (z1 : List Int) (a2 : Int) (w : World) (w0 : IntsAt w .u8 a0 z0) (w1 : IntsAt w .i16 a1 z1) (l2 : 0 ≤ a2) (u2 : a2 < 256) :
   Calls Try.prog 3 #[a0, a1, .int .u8 a2] w fun e w' => e = .returned (.bool true) ∧ Chg NoB w w' := by
  obtain ⟨x0, n0, c0, rfl, hn0, lc0, mc0, wf0, cell0⟩ := w0
  obtain ⟨x1, n1, c1, rfl, hn1, lc1, mc1, wf1, cell1⟩ := w1
  unfold maxLen at mc0 mc1
  have S1 : dictH [] (40 : Int) = ([dcell [] 40], dicO 0, 0) := dict_new [] 40 (by simp) (by omega) (by simp [used])
  have HQ1 : ∀ L, keyD L (keyF a2 O.nil) = (unO (keyF a2 O.nil), 0) := fun L => keyD_keyF L a2 O.nil l2
  have HQ2 : ∀ L, keyD L (unO (keyF a2 O.nil)) = (unO (keyF a2 O.nil), 0) := fun L => keyD_un L a2 O.nil l2
  have HKq := key_any a2 O.nil (by omega)
  generalize keyF a2 O.nil = q0 at *
  generalize unO q0 = q at *
  obtain ⟨qk, qx, qn, qp, ql, qs⟩ := q
  have QQ1 := Hid.mk' HQ1
  have QQ2 := Hid.mk' HQ2
  have HC0 := Hid.mk' cell0
  have HC1 := Hid.mk' cell1
  have HN0 := Hid.mk' hn0
  have HN1 := Hid.mk' hn1
  have HW0 := Hid.mk' wf0
  have HW1 := Hid.mk' wf1
  clear HQ1 HQ2 cell0 cell1 hn0 hn1 wf0 wf1
  go_enter Try.func3, Try.ntmps3
  go_wp2_with fail
  refine (known12_any w).mono ?_
  rintro e w0 ⟨rfl, X0⟩
  go_wp2_with fail
  refine (at_hnew (Ats.start X0)).mono ?_
  rintro e w1 ⟨hp, rfl, A0⟩
  go_wp2_with fail
  refine (at_dnew A0 _ S1).mono ?_
  rintro e w2 ⟨rfl, A1⟩
  have A2 := (A1.alloc (.cells #[.int .i64 10, .bool false, .int .i64 0, .int .i64 0, .int .i64 0, .string ⟨#[]⟩] 28)).alloc (.cells #[.int .i64 0, .bool false, .int .i64 0, .int .i64 0, .int .i64 0, .string ⟨#[]⟩] 28)
  simp only [World.size_alloc] at A2
  clear A0 A1 S1
  go_wp2_with fail
  refine (HKq _).mono ?_
  rintro e w3 ⟨rfl, X3⟩
  have A3 := A2.pure X3
  clear HKq A2 X3
  go_wp2_with fail
  refine (at_dkey A3 q0 (QQ1.out _) (List.mem_cons_self ..)).mono ?_
  rintro e w4 ⟨rfl, A4⟩
  have A5 := A4.alloc (.cells #[.int .i64 qk, .bool qx, .int .i64 qn, .int .i64 qp, .int .i64 ql, .string qs] 28)
  clear A3 A4
  go_wp2_with fail
  have A6 := A5.perm (List.Perm.swap _ _ _)
  clear A5
  generalize w4.alloc (.cells #[.int .i64 qk, .bool qx, .int .i64 qn, .int .i64 qp, .int .i64 ql, .string qs] 28) = w5 at *
  generalize w2.heap.size = b8 at *
  generalize w4.heap.size = b11 at *
  have T7 : 28 = 28 := rfl
  clear T7
  go_loopw [13] (fun c wr => ∃ (i : Nat) (ps : List (O × O)) (wt : O), i ≤ n0 ∧ i ≤ 40 ∧ c = .int .i64 i ∧ ps.length ≤ i ∧ UniqK ps ∧ AllL ps ∧ wt = (getK ps ⟨qk, qx, qn, qp, ql, qs⟩).getD O.nil ∧
    Ats w wr [(hp, [dcell ps 40])] [(b8 + 1, .cells #[.int .i64 wt.kind, .bool wt.exec, .int .i64 wt.n, .int .i64 wt.pos, .int .i64 wt.len, .string wt.s] 28), (b11, .cells #[.int .i64 qk, .bool qx, .int .i64 qn, .int .i64 qp, .int .i64 ql, .string qs] 28), (b8, .cells #[.int .i64 10, .bool false, .int .i64 0, .int .i64 0, .int .i64 0, .string ⟨#[]⟩] 28)]) (fun c _ => n0 - (intOf c).toNat)
  case atStart => exact ⟨0, [], O.nil, Nat.zero_le _, Nat.zero_le _, rfl, Nat.le_refl _, List.Pairwise.nil, fun p hp => by simp at hp, rfl, A6⟩
  case round =>
    obtain ⟨i, ps, wt, hi0, hi40, rfl, hpl, hu, ha, hwt, A7⟩ := hrel
    clear A6
    have HU := Hid.mk' hu
    have HA := Hid.mk' ha
    have HWT := Hid.mk' hwt
    obtain ⟨wk, wx, wn, wp, wl, ws⟩ := wt
    simp only at A7
    clear hu ha hwt
    by_cases hlt : i < n0 ∧ i < 40
    · obtain ⟨hl0, hl40⟩ := hlt
      have hl0' : (i : Int) < n0 := by omega
      have hl40' : (i : Int) < 40 := by omega
      obtain ⟨b0, off0, rfl, hb0, hc0⟩ := HC0.out (by omega)
      have hz := HW0.out (z0.getD i 0) (by
        rw [List.getD_eq_getElem?_getD, List.getElem?_eq_getElem (by rw [HN0.out]; exact hl0)]; exact List.getElem_mem _)
      have hcell := A7.chg.old (hc0 i hl0)
      clear hc0
      generalize z0.getD i 0 = z at *
      obtain ⟨hz0, hz1⟩ := wf_u8 hz
      clear hz
      have HKz := key_any z O.nil (by omega)
      have HD : Hid (∀ L, keyD L (keyF z O.nil) = (unO (keyF z O.nil), 0)) := Hid.mk' fun L => keyD_keyF L z O.nil hz0
      have HM : Hid (∀ L, mayH L (unO (keyF z O.nil)) = true) := Hid.mk' fun L => (may_keyF L z O.nil hz0).2.1
      generalize keyF z O.nil = kz at *
      obtain ⟨kk, kx, kn, kp, kl, ks⟩ := kz
      simp only [unO] at HD HM
      go_wp2_with fail
      refine (HKz _).mono ?_
      rintro e w6 ⟨rfl, X6⟩
      have A8 := (A7.pure X6).alloc (.cells #[.int .i64 kk, .bool kx, .int .i64 kn, .int .i64 kp, .int .i64 kl, .string ks] 28)
      clear HKz A7 X6 hcell
      go_wp2_with fail
      have l14 := blk_lt (A8.box _ m0)
      have l11 := blk_lt (A8.box _ m2)
      simp only at l14 l11
      have R14 := cells_of (A8.box _ m0)
      refine (at_dkey A8 ⟨kk, kx, kn, kp, kl, ks⟩ (HD.out _) m0).mono ?_
      rintro e w7 ⟨rfl, A9⟩
      have R14 := cells_of (A9.box _ m0)
      have R11 := cells_of (A9.box _ m2)
      have A10 := A9.alloc (.cells #[.int .i64 kk, .bool false, .int .i64 kn, .int .i64 kp, .int .i64 kl, .string ks] 28)
      have l14 := blk_lt (A9.box _ m0)
      have l11 := blk_lt (A9.box _ m2)
      simp only at l14 l11
      clear A8 A9
      go_wp2_with fail
      refine (at_same A10 ⟨kk, false, kn, kp, kl, ks⟩ ⟨qk, qx, qn, qp, ql, qs⟩).mono ?_
      rintro e w8 ⟨rfl, A11⟩
      generalize w6.heap.size = b14 at *
      generalize w7.heap.size = b15 at *
      clear R14 R11 l14 l11 A10
      have R14 := cells_of (A11.box _ m1)
      have R8 := cells_of (A11.box _ m4)
      have l14 := blk_lt (A11.box _ m1)
      have l8 := blk_lt (A11.box _ m4)
      simp only at l14 l8
      by_cases hv : n1 ≤ i
      · have hv' : (n1 : Int) ≤ i := by omega
        have hd := at_ddropK A11 0 ps 40 (dic_one' _ _ (by omega) (by omega)) (by omega) (by omega) (by omega) ⟨kk, kx, kn, kp, kl, ks⟩ (HD.out _) (fun p hp => ⟨(HA.out p hp).1 _, (HA.out p hp).2.1 _⟩)
        go_wp2_with fail
        refine hd.mono ?_
        rintro e w9 ⟨rfl, A12⟩
        change Ats w w9 [(hp, [dcell (dropK ps ⟨kk, false, kn, kp, kl, ks⟩) 40])] _ at A12
        clear hd R14 R8 l14 l8 A11
        have A13 := A12.keep (K' := [_, _, _]) ((List.sublist_cons_self _ _).trans (List.sublist_cons_self _ _))
        have R10 := cells_of (A13.box _ m0)
        have Z10 := free_of (A13.box _ m0)
        have l10 := blk_lt (A13.box _ m0)
        simp only at l10
        clear A12
        have hlen := (dropK_sub ps ⟨kk, false, kn, kp, kl, ks⟩).length_le
        cases hs : sameO ⟨kk, false, kn, kp, kl, ks⟩ ⟨qk, qx, qn, qp, ql, qs⟩ with
        | true =>
          have A14 := (((((A13.put 0 (.int .i64 0)).put 1 (.bool false)).put 2 (.int .i64 0)).put 3 (.int .i64 0)).put 4 (.int .i64 0)).put 5 (.string ⟨#[]⟩)
          go_wp2_with fail
          go_roundw
          case rel => exact ⟨i + 1, _, O.nil, by omega, by omega, by go_num, by omega, dropK_uniq HU.out _, fun p hp => HA.out p ((dropK_sub ps _).subset hp), by rw [get_drop HU.out, if_pos hs]; rfl, A14⟩
          case measure => simp [intOf]; omega
        | false =>
          go_wp2_with fail
          go_roundw
          case rel => exact ⟨i + 1, _, ⟨wk, wx, wn, wp, wl, ws⟩, by omega, by omega, by go_num, by omega, dropK_uniq HU.out _, fun p hp => HA.out p ((dropK_sub ps _).subset hp), by rw [get_drop HU.out, if_neg (by simp [hs])]; exact HWT.out, A13⟩
          case measure => simp [intOf]; omega
      · have hv' : (i : Int) < n1 := by omega
        obtain ⟨b1, off1, rfl, hb1, hc1⟩ := HC1.out (by omega)
        have hz := HW1.out (z1.getD i 0) (by
          rw [List.getD_eq_getElem?_getD, List.getElem?_eq_getElem (by rw [HN1.out]; omega)]; exact List.getElem_mem _)
        have hcell := A11.chg.old (hc1 i (by omega))
        clear hc1
        generalize z1.getD i 0 = y at *
        obtain ⟨hy0, hy1⟩ := wf_i16 hz
        clear hz
        have A11' := A11.alloc (.cells #[.int .i64 3, .bool false, .int .i64 y, .int .i64 0, .int .i64 0, .string ⟨#[]⟩] 28)
        have hs := at_dsetK A11' 0 ps 40 (dic_one' _ _ (by omega) (by omega)) (by omega) (by omega) (by omega) ⟨kk, kx, kn, kp, kl, ks⟩ ⟨3, false, y, 0, 0, ⟨#[]⟩⟩ (HD.out _) (may_num _ _ (by omega) (by omega)) (HM.out _)
        go_wp2_with fail
        refine hs.mono ?_
        rintro e w9 ⟨rfl, A12⟩
        change Ats w w9 [(hp, [dcell (setK ps ⟨kk, false, kn, kp, kl, ks⟩ ⟨3, false, y, 0, 0, ⟨#[]⟩⟩) 40])] _ at A12
        clear hs R14 R8 l14 l8 A11 A11' hcell
        have hlen := setK_length ps ⟨kk, false, kn, kp, kl, ks⟩ ⟨3, false, y, 0, 0, ⟨#[]⟩⟩
        have hlen' : (setK ps ⟨kk, false, kn, kp, kl, ks⟩ ⟨3, false, y, 0, 0, ⟨#[]⟩⟩).length ≤ i + 1 := by rw [hlen]; split <;> omega
        clear hlen
        have hall : AllL (setK ps ⟨kk, false, kn, kp, kl, ks⟩ ⟨3, false, y, 0, 0, ⟨#[]⟩⟩) := setK_all (P := fun o => ∀ L, mayH L o = true) (Q := fun o => (∀ L, mayH L o = true) ∧ o.kind = 3) ps _ _ HA.out HM.out ⟨fun L => may_num L y (by omega) (by omega), rfl⟩
        have HALL := Hid.mk' hall
        clear hall
        have R18 := cells_of (A12.box _ m0)
        have l18 := blk_lt (A12.box _ m0)
        have R10 := cells_of (A12.box _ m3)
        have Z10 := free_of (A12.box _ m3)
        have l10 := blk_lt (A12.box _ m3)
        simp only at l10 l18
        have A13 := A12.keep (K' := [_, _, _]) (((List.sublist_cons_self _ _).trans (List.sublist_cons_self _ _)).trans (List.sublist_cons_self _ _))
        clear A12
        generalize w8.heap.size = b18 at *
        cases hs : sameO ⟨kk, false, kn, kp, kl, ks⟩ ⟨qk, qx, qn, qp, ql, qs⟩ with
        | true =>
          have A14 := (((((A13.put 0 (.int .i64 3)).put 1 (.bool false)).put 2 (.int .i64 y)).put 3 (.int .i64 0)).put 4 (.int .i64 0)).put 5 (.string ⟨#[]⟩)
          go_wp2_with fail
          go_roundw
          case rel => exact ⟨i + 1, _, ⟨3, false, y, 0, 0, ⟨#[]⟩⟩, by omega, by omega, by go_num, hlen', setK_uniq HU.out _ _, HALL.out, by rw [get_set, if_pos hs]; rfl, A14⟩
          case measure => simp [intOf]; omega
        | false =>
          go_wp2_with fail
          go_roundw
          case rel => exact ⟨i + 1, _, ⟨wk, wx, wn, wp, wl, ws⟩, by omega, by omega, by go_num, hlen', setK_uniq HU.out _ _, HALL.out, by rw [get_set, if_neg (by simp [hs])]; exact HWT.out, A13⟩
          case measure => simp [intOf]; omega
    · have R8 := cells_of (A7.box _ m2)
      have R11 := cells_of (A7.box _ m1)
      have l8 := blk_lt (A7.box _ m2)
      have l11 := blk_lt (A7.box _ m1)
      simp only at l8 l11
      cases hg : getK ps ⟨qk, qx, qn, qp, ql, qs⟩ with
      | none =>
        have hk := HWT.out
        rw [hg] at hk
        simp only [Option.getD_none, O.nil, O.mk.injEq] at hk
        obtain ⟨rfl, rfl, rfl, rfl, rfl, rfl⟩ := hk
        have hG := at_dgetK A7 m0 0 ps 40 (dic_one' _ _ (by omega) (by omega)) (by omega) (by omega) (by omega) ⟨qk, qx, qn, qp, ql, qs⟩ (QQ2.out _) O.nil 9 (.inr ⟨hg, rfl, rfl⟩)
        have s1 : eqO ⟨0, false, 0, 0, 0, ⟨#[]⟩⟩ ⟨0, false, 0, 0, 0, ⟨#[]⟩⟩ = true := eqO_self _
        clear hg
        by_cases hlt' : i < n0
        · have h40 : (40 : Int) ≤ i := by omega
          have hlt2 : (i : Int) < n0 := by omega
          go_wp2_with fail
          refine hG.mono ?_
          rintro e w6 ⟨rfl, A8⟩
          have R10 := cells_of (A8.box _ m0)
          have l10 := blk_lt (A8.box _ m0)
          simp only at l10
          clear hG R8 R11 A7
          go_wp2_with fail
          go_ret
          exact ⟨rfl, A8.chg.trans ((Chg.refl NoB w6).alloc _)⟩
        · have h40 : (n0 : Int) ≤ i := by omega
          go_wp2_with fail
          refine hG.mono ?_
          rintro e w6 ⟨rfl, A8⟩
          have R10 := cells_of (A8.box _ m0)
          have l10 := blk_lt (A8.box _ m0)
          simp only at l10
          clear hG R8 R11 A7
          go_wp2_with fail
          go_ret
          exact ⟨rfl, A8.chg.trans ((Chg.refl NoB w6).alloc _)⟩
      | some u =>
        have hk := HWT.out
        rw [hg] at hk
        simp only [Option.getD_some] at hk
        subst hk
        obtain ⟨p, hp, he⟩ := get_mem hg
        have h3 := (HA.out p hp).2.2
        rw [he] at h3
        simp only at h3
        subst h3
        have hG := at_dgetK A7 m0 0 ps 40 (dic_one' _ _ (by omega) (by omega)) (by omega) (by omega) (by omega) ⟨qk, qx, qn, qp, ql, qs⟩ (QQ2.out _) ⟨3, wx, wn, wp, wl, ws⟩ 0 (.inl ⟨hg, rfl⟩)
        have s1 : eqO ⟨3, wx, wn, wp, wl, ws⟩ ⟨3, wx, wn, wp, wl, ws⟩ = true := eqO_self _
        clear hg he
        by_cases hlt' : i < n0
        · have h40 : (40 : Int) ≤ i := by omega
          have hlt2 : (i : Int) < n0 := by omega
          go_wp2_with fail
          refine hG.mono ?_
          rintro e w6 ⟨rfl, A8⟩
          have R10 := cells_of (A8.box _ m0)
          have l10 := blk_lt (A8.box _ m0)
          simp only at l10
          clear hG R8 R11 A7
          go_wp2_with fail
          go_ret
          exact ⟨rfl, A8.chg.trans ((Chg.refl NoB w6).alloc _)⟩
        · have h40 : (n0 : Int) ≤ i := by omega
          go_wp2_with fail
          refine hG.mono ?_
          rintro e w6 ⟨rfl, A8⟩
          have R10 := cells_of (A8.box _ m0)
          have l10 := blk_lt (A8.box _ m0)
          simp only at l10
          clear hG R8 R11 A7
          go_wp2_with fail
          go_ret
          exact ⟨rfl, A8.chg.trans ((Chg.refl NoB w6).alloc _)⟩
end Go.Proofs.Ytgllgemjfpiogaa
