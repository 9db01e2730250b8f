/- Walk: tympanlaw16.ScopeSystem. -/
import Derived.Test.YtbjlognbaplgpaaZScpc
import Derived.Test.YtbjlognbaplgpaaZDlk
import Derived.Deep.DeepCutAuto
namespace Go.Proofs.Ytbjlognbaplgpaa
open Go.RowKit

theorem sysQ_D : DicAt (hQ sysQ) 0 (dcellk true (sysK 162) 162) := (q_at sysQ sysQ_ok 0 (sysK 162, 162, true) rfl).1
theorem sys_key (i : Nat) (hi : i < 162) : (getK (sysK 162) (nameO (opN ((i : Int) + 1)))).isSome = true := by rw [sysK_get 162 i hi (Nat.le_refl _)]; rfl
/-- A pair of the system's dictionary, among its items. -/
theorem sys_pair (i : Nat) (hi : i < 162) : (dItems (sysK 162) 162)[2 * i + 1]? = some (nameO (opN ((i : Int) + 1))) ∧ (dItems (sysK 162) 162)[2 * i + 2]? = some (opO ((i : Int) + 1)) := by
  have hl : (sysK 162).length ≤ 162 := Nat.le_of_eq (sysK_length 162)
  have hp : (sysK 162)[i]? = some (nameO (opN ((i : Int) + 1)), opO ((i : Int) + 1)) := by simp [sysK, hi]
  constructor
  · rw [dItems_at _ 162 hl _ (by omega), if_neg (by omega), show (2 * i + 1 - 1) / 2 = i by omega, hp]
    have e : (2 * i + 1) % 2 = 1 := by omega
    simp [e]
  · rw [dItems_at _ 162 hl _ (by omega), if_neg (by omega), show (2 * i + 2 - 1) / 2 = i by omega, hp]
    have e : ¬ (2 * i + 2) % 2 = 1 := by omega
    simp [e]

set_option maxRecDepth 1000000 in
set_option maxHeartbeats 8000000 in
theorem scopeSystem_any (a0 : Int) (v : O) (l0 : 0 ≤ a0) (u0 : a0 < 256) (hv : v.s.size ≤ maxLen) (w : World) :
    Calls Try.prog 12 #[.int .u8 a0, v.val] w fun e w' => e = .returned (.bool true) ∧ Chg NoB w w' := by
  obtain ⟨i, hi, hi2⟩ : ∃ i : Nat, a0 % 162 = (i : Int) ∧ i < 162 := ⟨(a0 % 162).toNat, by omega, by omega⟩
  have tm : a0.tmod 162 = a0 % 162 := Int.tmod_eq_emod_of_nonneg l0
  have hii : (i : Int) < 162 := by omega
  have hi0 : (0 : Int) ≤ i := by omega
  have hvi : (v.s.size : Int) ≤ 9223372036854775807 := by unfold maxLen at hv; omega
  obtain ⟨vk, vx, vn, vp, vl, vs⟩ := v
  simp only at hvi
  clear hv
  have X0 := (Chg.refl NoB w).alloc (.cells #[.int .i64 vk, .bool vx, .int .i64 vn, .int .i64 vp, .int .i64 vl, .string vs] 27)
  have A0 := (Ats.start (Chg.refl NoB w)).alloc (.cells #[.int .i64 vk, .bool vx, .int .i64 vn, .int .i64 vp, .int .i64 vl, .string vs] 27)
  by_cases hbig : (200 : Int) < vs.size
  · go_enter Try.func12, Try.ntmps12
    go_wp2_with fail
    refine (known16_any _).mono ?_
    rintro e w1 ⟨rfl, X1⟩
    have A1 := A0.pure X1
    have R1 := cells_of (A1.box _ m0)
    have y1 := blk_lt (A1.box _ m0)
    simp only at R1 y1
    go_wp2_with fail
    go_ret
    exact ⟨rfl, A1.chg⟩
  have hsm : ¬ (200 : Int) < vs.size := hbig
  have HN := hid' (fun w => name_any ((i : Int) + 1) (by omega) (by omega) w)
  have HFD := hid' (fun (w' : World) (hp sp : Nat) (K' : List (Nat × Obj)) (S : ScpAt w w' [(hp, hQ sysQ)] K' sp hp (dsQ 2)) => q_find sysQ sysQ_ok 2 S (by decide) (by decide) (opN ((i : Int) + 1)) (opN_size i))
  rw [look_op i hi2] at HFD
  have hkey := key_name (hQ sysQ) (opN ((i : Int) + 1)) false (opN_size i)
  have hgs := sys_key i hi2
  have hl162 := Nat.le_of_eq (sysK_length 162)
  have HST := hid' (fun (w' : World) (hp : Nat) (K' : List (Nat × Obj)) (A : Ats w w' [(hp, hQ sysQ)] K') => at_dsetLk A 0 (sysK 162) 162 sysQ_D hl162 (by decide) (by rw [sysK_length]; decide) (nameO (opN ((i : Int) + 1))) ⟨vk, vx, vn, vp, vl, vs⟩ hkey hgs)
  have HDR := hid' (fun (w' : World) (hp : Nat) (K' : List (Nat × Obj)) (A : Ats w w' [(hp, hQ sysQ)] K') => at_ddropLk A 0 (sysK 162) 162 sysQ_D hl162 (by decide) (by rw [sysK_length]; decide) (nameO (opN ((i : Int) + 1))) hkey hgs)
  obtain ⟨p1, p2⟩ := sys_pair i hi2
  have HPR := hid' (fun (w' : World) (hp : Nat) (K' : List (Nat × Obj)) (A : Ats w w' [(hp, hQ sysQ)] K') => at_dpairs A (List.mem_cons_self ..) 0 (sysK 162) 162 sysQ_D hl162 (by decide) (by rw [sysK_length]; decide))
  rw [dItems_length _ _ hl162, sysK_length] at HPR
  have ec : (i : Int) + 1 = 1 + (i : Int) := by omega
  rw [ec] at HN HFD HST HDR p1 p2
  generalize opN (1 + (i : Int)) = nm at *
  clear hkey hgs ec
  go_enter Try.func12, Try.ntmps12
  go_wp2_with fail
  refine (known16_any _).mono ?_
  rintro e w1 ⟨rfl, X1⟩
  have A1 := A0.pure X1
  have R1 := cells_of (A1.box _ m0)
  have y1 := blk_lt (A1.box _ m0)
  simp only at R1 y1
  clear X1 X0 A0
  go_wp2_with fail
  refine (at_hnew A1).mono ?_
  rintro e w2 ⟨hp, rfl, A2⟩
  clear R1 y1 A1
  go_wp2_with fail
  refine (q_new A2).mono ?_
  rintro e w3 ⟨sp, rfl, S3⟩
  go_wp2_with fail
  refine (count_any w3).mono ?_
  rintro e w4 ⟨rfl, X4⟩
  have S4 := S3.pure X4
  clear A2 S3 X4
  go_wp2_with fail
  obtain ⟨k, hk⟩ : ∃ k : Int, 1 + (i : Int) = k := ⟨_, rfl⟩
  simp only [hk] at HN HFD HST HDR p1 p2 ⊢
  have hk1 : 1 ≤ k := by omega
  have hk2 : k ≤ 162 := by omega
  have HKI := hid' hk
  clear hk hii hi0 hi tm
  refine (HN.out _).mono ?_
  rintro e w5 ⟨rfl, X5⟩
  go_wp2_with fail
  refine (name16_any _ _).mono ?_
  rintro e w6 ⟨rfl, X6⟩
  go_wp2_with fail
  refine (HFD.out _ _ _ _ ((S4.pure X5).pure X6)).mono ?_
  rintro e w7 ⟨rfl, S7⟩
  clear S4 X5 X6 HFD
  obtain ⟨g, cap, cur, -, -, -, -, A7⟩ := S7
  have A8 := (A7.alloc (.cells #[.int .i64 7, .bool true, .int .i64 k, .int .i64 0, .int .i64 0, .string ⟨#[]⟩] 27)).alloc (.cells #[.int .i64 10, .bool false, .int .i64 0, .int .i64 0, .int .i64 0, .string ⟨#[]⟩] 27)
  simp only [World.size_alloc] at A8
  have RD := Ats.cellsOf (w0 := w) (M := [(hp, hQ sysQ)]) (m0 (a := (w7.heap.size + 1, Obj.cells #[.int .i64 10, .bool false, .int .i64 0, .int .i64 0, .int .i64 0, .string ⟨#[]⟩] 27)) (l := (w7.heap.size, .cells #[.int .i64 7, .bool true, .int .i64 k, .int .i64 0, .int .i64 0, .string ⟨#[]⟩] 27) :: (g, .cells cur 27) :: (sp, scpBox hp g (dsQ 2).length cap) :: (w.heap.size, .cells #[.int .i64 vk, .bool vx, .int .i64 vn, .int .i64 vp, .int .i64 vl, .string vs] 27) :: []))
  have RX := Ats.cellsOf (w0 := w) (M := [(hp, hQ sysQ)]) (m1 (b := (w7.heap.size + 1, Obj.cells #[.int .i64 10, .bool false, .int .i64 0, .int .i64 0, .int .i64 0, .string ⟨#[]⟩] 27)) (a := (w7.heap.size, Obj.cells #[.int .i64 7, .bool true, .int .i64 k, .int .i64 0, .int .i64 0, .string ⟨#[]⟩] 27)) (l := (g, .cells cur 27) :: (sp, scpBox hp g (dsQ 2).length cap) :: (w.heap.size, .cells #[.int .i64 vk, .bool vx, .int .i64 vn, .int .i64 vp, .int .i64 vl, .string vs] 27) :: []))
  have RV := Ats.cellsOf (w0 := w) (M := [(hp, hQ sysQ)]) (m4 (b := (w7.heap.size + 1, Obj.cells #[.int .i64 10, .bool false, .int .i64 0, .int .i64 0, .int .i64 0, .string ⟨#[]⟩] 27)) (c := (w7.heap.size, Obj.cells #[.int .i64 7, .bool true, .int .i64 k, .int .i64 0, .int .i64 0, .string ⟨#[]⟩] 27)) (d := (g, .cells cur 27)) (e := (sp, scpBox hp g (dsQ 2).length cap)) (a := (w.heap.size, Obj.cells #[.int .i64 vk, .bool vx, .int .i64 vn, .int .i64 vp, .int .i64 vl, .string vs] 27)) (l := []))
  have mD : (w7.heap.size + 1, Obj.cells #[.int .i64 10, .bool false, .int .i64 0, .int .i64 0, .int .i64 0, .string ⟨#[]⟩] 27) ∈ ((w7.heap.size + 1, Obj.cells #[.int .i64 10, .bool false, .int .i64 0, .int .i64 0, .int .i64 0, .string ⟨#[]⟩] 27) :: (w7.heap.size, .cells #[.int .i64 7, .bool true, .int .i64 k, .int .i64 0, .int .i64 0, .string ⟨#[]⟩] 27) :: (g, .cells cur 27) :: (sp, scpBox hp g (dsQ 2).length cap) :: (w.heap.size, .cells #[.int .i64 vk, .bool vx, .int .i64 vn, .int .i64 vp, .int .i64 vl, .string vs] 27) :: [] : List (Nat × Obj)) := m0
  have mX : (w7.heap.size, Obj.cells #[.int .i64 7, .bool true, .int .i64 k, .int .i64 0, .int .i64 0, .string ⟨#[]⟩] 27) ∈ ((w7.heap.size + 1, Obj.cells #[.int .i64 10, .bool false, .int .i64 0, .int .i64 0, .int .i64 0, .string ⟨#[]⟩] 27) :: (w7.heap.size, .cells #[.int .i64 7, .bool true, .int .i64 k, .int .i64 0, .int .i64 0, .string ⟨#[]⟩] 27) :: (g, .cells cur 27) :: (sp, scpBox hp g (dsQ 2).length cap) :: (w.heap.size, .cells #[.int .i64 vk, .bool vx, .int .i64 vn, .int .i64 vp, .int .i64 vl, .string vs] 27) :: [] : List (Nat × Obj)) := m1
  have yD := blk_lt (A8.box _ m0)
  have yX := blk_lt (A8.box _ m1)
  have yV := blk_lt (A8.box _ m4)
  simp only at yD yX yV
  have HA := hid' A8
  clear A7 A8
  generalize ((w7.heap.size + 1, Obj.cells #[.int .i64 10, .bool false, .int .i64 0, .int .i64 0, .int .i64 0, .string ⟨#[]⟩] 27) :: (w7.heap.size, .cells #[.int .i64 7, .bool true, .int .i64 k, .int .i64 0, .int .i64 0, .string ⟨#[]⟩] 27) :: (g, .cells cur 27) :: (sp, scpBox hp g (dsQ 2).length cap) :: (w.heap.size, .cells #[.int .i64 vk, .bool vx, .int .i64 vn, .int .i64 vp, .int .i64 vl, .string vs] 27) :: [] : List (Nat × Obj)) = KL at *
  go_wp2_with fail
  generalize hW : (w7.alloc _).alloc _ = w8 at *
  clear hW
  generalize w7.heap.size = bx at *
  go_region_held3 (fun W' => Ats w W' [(hp, hQ sysQ)] KL) (first | assumption | (exact Ats.drew (by assumption)))
    (first | (go_at_call 72; refine (HN.out _).mono ?_; rintro r w9 ⟨rfl, X9⟩; have A9 := HA.out.pure ((Chg.refl NoB w8).drew.trans X9)) | (go_at_call 66; refine (name16_any _ _).mono ?_; rintro r w10 ⟨rfl, X10⟩; have A10 := A9.pure X10) | (go_at_call 40; refine (HST.out _ _ _ A10).mono ?_; rintro r w11 ⟨rfl, A11⟩))
  have HA11 := hid' A11
  clear HA A9 A10 A11 X9 X10 HST
  go_wp2_with fail
  go_region_held3 (fun W' => Ats w W' [(hp, hQ sysQ)] KL) (first | assumption | (exact Ats.drew (by assumption)))
    (first | (go_at_call 72; refine (HN.out _).mono ?_; rintro r w12 ⟨rfl, X12⟩; have A12 := HA11.out.pure ((Chg.refl NoB w11).drew.trans X12)) | (go_at_call 66; refine (name16_any _ _).mono ?_; rintro r w13 ⟨rfl, X13⟩; have A13 := A12.pure X13) | (go_at_call 42; refine (HDR.out _ _ _ A13).mono ?_; rintro r w14 ⟨rfl, A14⟩))
  have R14 := RD w14 A14
  have y14 := blk_lt (A14.box _ mD)
  simp only at y14
  have HA14 := hid' A14
  clear HA11 A12 A13 X12 X13 A14 HDR
  go_upto_region 13 with (fail)
  go_cut [5, 8, 9, 11, 12, 13, 14, 15] (fun v5 v8 v9 v11 v12 v13 v14 v15 wx => ∃ (g2 : Nat) (cur2 : Array Value) (fz : Nat × Nat), v5 = ptr hp ∧ v8 = .int .i64 k ∧ v9 = .pointer (some ⟨bx, 0, none⟩) ∧ v11 = .int .i64 0 ∧ v12 = .int .i64 1 ∧ v13 = .int .i64 1 ∧ v14 = .slice (some ⟨g2, 6, none⟩) 324 324 ∧ v15 = .int .i64 0 ∧
    Ats w wx [(hp, hQ sysQ)] ((g2, .cells cur2 27 fz) :: KL) ∧ ∀ i, i < 325 * 6 → cur2[i]? = ((dItems (sysK 162) 162).flatMap O.cells)[i]?)
  case first =>
    go_wp2_with fail
    refine (HPR.out _ _ _ HA14.out).mono ?_
    rintro e w15 ⟨g2, cur2, fz, rfl, A15, hcur⟩
    go_wp2_with fail
    go_meet
    exact ⟨g2, cur2, fz, rfl, rfl, rfl, rfl, rfl, rfl, rfl, rfl, A15, hcur⟩
  obtain ⟨g2, cur2, fz, rfl, rfl, rfl, rfl, rfl, rfl, rfl, rfl, A15, hcur⟩ := hcut
  generalize wc = w15 at *
  clear R14 y14 RD RX RV HA14 HPR
  obtain ⟨j, hj, hji⟩ : ∃ j : Nat, 2 * k - 2 = (j : Int) ∧ j = 2 * i := ⟨2 * i, by have := HKI.out; omega, rfl⟩
  have e1 : 2 * k - 1 = (j : Int) + 1 := by omega
  have j0 : (0 : Int) ≤ j := by omega
  have j1 : (j : Int) < 324 := by omega
  have j2 : (j : Int) + 1 < 324 := by omega
  have v0 : IntKind.i64.wrap 324 = 324 := rfl
  have j00 : (0 : Int) ≤ (j : Int) + 1 := by omega
  have tn : ((j : Int) + 1).toNat = j + 1 := by omega
  have v1 := IntWalk.i64_in (2 * k) (by omega)
  have v2 := IntWalk.i64_in (j : Int) (by omega)
  have v3 := IntWalk.i64_in ((j : Int) + 1) (by omega)
  rw [← hji] at p1 p2
  have hdl : (dItems (sysK 162) 162).length = 325 := by rw [dItems_length _ _ hl162]
  obtain ⟨c10, c11, c12, c13, c14, c15⟩ := row_item (fun i hi => hcur i (by rw [hdl] at hi; omega)) p1
  obtain ⟨c20, c21, c22, c23, c24, c25⟩ := row_item (fun i hi => hcur i (by rw [hdl] at hi; omega)) p2
  rw [show (j + 1) * 6 = 6 + j * 6 by omega] at c10 c11 c12 c13 c14 c15
  rw [show (j + 2) * 6 = 6 + (j + 1) * 6 by omega] at c20 c21 c22 c23 c24 c25
  simp only at c10 c11 c12 c13 c14 c15 c20 c21 c22 c23 c24 c25
  have RP := Ats.cellsOf (w0 := w) (M := [(hp, hQ sysQ)]) (m0 (a := (g2, Obj.cells cur2 27 fz)) (l := KL))
  have RX := Ats.cellsOf (w0 := w) (M := [(hp, hQ sysQ)]) (List.mem_cons_of_mem (g2, Obj.cells cur2 27 fz) mX)
  have yP := blk_lt (A15.box _ m0)
  have yX := blk_lt (A15.box _ (List.mem_cons_of_mem _ mX))
  simp only at yP yX
  have q1 : eqO ⟨7, true, k, 0, 0, ⟨#[]⟩⟩ ⟨7, true, k, 0, 0, ⟨#[]⟩⟩ = true := eqO_self _
  have q2 : eqO ⟨5, false, 0, 0, 0, nm⟩ ⟨5, false, 0, 0, 0, nm⟩ = true := eqO_self _
  have hlen : (hQ sysQ).length = 2 := rfl
  have HCL := hid' (fun (w' : World) (K' : List (Nat × Obj)) (A : Ats w w' [(hp, hQ sysQ)] K') => at_cells A (List.mem_cons_self ..))
  rw [hlen] at HCL
  clear hcur p1 p2 hlen hdl hji hl162 mD mX
  generalize (g2, Obj.cells cur2 27 fz) :: KL = K2 at *
  clear l0 u0 hi2 hvi hk1 hk2 HKI
  go_wp2_with fail
  go_region_held3 (fun W' => Ats w W' [(hp, hQ sysQ)] K2) (first | assumption | (exact Ats.drew (by assumption)) | (exact Ats.pure (by assumption) (by assumption)))
    (first | (go_at_call 71; refine (count_any _).mono ?_; rintro r w16 ⟨rfl, X16⟩) | (go_at_call 72; refine (HN.out _).mono ?_; rintro r w17 ⟨rfl, X17⟩) | (go_at_call 66; refine (name16_any _ _).mono ?_; rintro r w18 ⟨rfl, X18⟩) | (go_at_call 31; refine (HCL.out _ _ (by assumption)).mono ?_; rintro r w19 ⟨rfl, rfl⟩))
  have HF := hid' (Ats.chg (by assumption : Ats w w18 [(hp, hQ sysQ)] K2))
  go_wp2_with fail
  go_ret
  exact ⟨rfl, HF.out⟩
end Go.Proofs.Ytbjlognbaplgpaa
