/- Walk: tympanlaw21.ConvNames (printed by gencn.py). -/
import Derived.Test.YthelgahojgdehaaZConvc
namespace Go.Proofs.Ythelgahojgdehaa
open Go.RowKit

theorem mayN (s : ByteArray) (x : Bool) (h : s.size ≤ 100) : mayO ⟨5, x, 0, 0, 0, s⟩ = true := by simp [mayO, eqO, bareO, O.nil]; omega
theorem isN5 : isK 1792 5 = false := by decide +kernel
theorem name_plain (s : ByteArray) (x : Bool) : plainB ⟨5, x, 0, 0, 0, s⟩ = s := by simp [plainB]
abbrev nmT : ByteArray := ⟨#[110, 97, 109, 101, 116, 121, 112, 101]⟩
set_option maxRecDepth 100000 in
set_option maxHeartbeats 4000000 in
theorem convNames_true (s : ByteArray) (hs : s.size ≤ 100) (w : World) :
    Calls Try.prog 6 #[.string s, .bool true] w fun e w' => e = .returned (.bool true) ∧ Chg NoB w w' := by
  have hz := size_toList s
  have hsi : (s.size : Int) ≤ 100 := by omega
  have MS : ∀ x, mayO (strN 0 x 0 s.size) = true := fun x => mayO_str _ _ _ _ (by omega) (by omega) (by omega) (by omega) (by omega) (by omega)
  have MS1 : mayO (strN 1 false 0 s.size) = true := mayO_str _ _ _ _ (by omega) (by omega) (by omega) (by omega) (by omega) (by omega)
  have HX := hid' (fun (hp sp : Nat) (w' : World) (K' : List (Nat × Obj)) (S' : StkAt w w' [(hp, [txt s.toList])] K' sp ([] ++ [strN 0 false 0 s.size])) => conv_cvx (o := strN 0 false 0 s.size) S' m0 (isK_any 8 (by decide) (by decide)) (heldAll_one (may_whole (N := 0) rfl (by decide) (by omega) false)) (MS true) (M' := []))
  have HN := hid' (fun (hp sp : Nat) (w' : World) (K' : List (Nat × Obj)) (S' : StkAt w w' [(hp, [txt s.toList])] K' sp ([] ++ [strN 0 true 0 s.size])) => conv_cvn (o := strN 0 true 0 s.size) S' m0 (isK_str 8 rfl) (heldAll_one (may_whole (N := 0) rfl (by decide) (by omega) true)) s (bytes_whole (N := 0) rfl (by decide) (by omega) true) 0 (if_neg (by omega)) (M' := []))
  have HTX := hid' (fun (hp sp : Nat) (w' : World) (K' : List (Nat × Obj)) (S' : StkAt w w' [(hp, [txt s.toList])] K' sp [⟨5, true, 0, 0, 0, s⟩]) => text21_any S' ⟨(zeroL s.size).toArray⟩ (by simp) (by rw [zero_size]; simp [used, C.size, hz]; omega) (by simp))
  have HWR : ∀ (hp : Nat) (w' : World) (K' : List (Nat × Obj)), Ats w w' [(hp, [txt s.toList, txt (zeroL s.size)])] K' → Calls Try.prog 48 #[ptr hp, .string s, (strN 1 false 0 s.size).val] w' fun r w2 => r = .returned (.tuple #[(strN 1 false 0 s.size).val, .int .i64 0]) ∧ Ats w w2 [(hp, [txt s.toList, txt s.toList])] K' := fun hp w' K' A => by
    have := at_write A s 1 (zeroL s.size) rfl (by decide) (by simp [zeroL]; omega) false (by simp [zeroL])
    rw [List.drop_of_length_le (by simp [zeroL]), List.append_nil, show (zeroL s.size).length = s.size by simp [zeroL]] at this
    exact this
  have HS := hid' (fun (hp sp : Nat) (w' : World) (K' : List (Nat × Obj)) (S' : StkAt w w' [(hp, [txt s.toList, txt (zeroL s.size)])] K' sp ([] ++ [⟨5, true, 0, 0, 0, s⟩, strN 1 false 0 s.size])) =>
    conv_cvs S' m0 (isK_any 5 (by decide) (by decide)) (isK_str 8 rfl) (heldAll_two (fun h => absurd h (by rw [isN5]; decide)) (by
      have := may_s (L := [txt s.toList, txt (zeroL s.size)]) (N := 1) (bs := zeroL s.size) rfl (by decide) (by simp [zeroL]; omega) false 0 s.size (by decide) (by omega) (by simp [zeroL])
      exact this)) 0 (fun _ => MS1) s (by have := plain_at (w0 := w) (M := [(hp, [txt s.toList, txt (zeroL s.size)])]) ⟨5, true, 0, 0, 0, s⟩ hp (mayN s _ hs) (.inr (.inr (.inl rfl))); rw [name_plain] at this; exact this) (HWR hp))
  have HB := hid' (bytes_whole (L := [txt s.toList, txt s.toList]) (N := 1) (s := s) rfl (by decide) (by omega) false)
  have HO := hid' (mayN s true hs)
  have HC := hid' (fun (hp sp : Nat) (w' : World) (K' : List (Nat × Obj)) (S' : StkAt w w' [(hp, [txt s.toList, txt s.toList])] K' sp ([] ++ [⟨5, true, 0, 0, 0, s⟩])) => conv_xcheck (o := ⟨5, true, 0, 0, 0, s⟩) S' m0 (isK_any 5 (by decide) (by decide)) (held_not isN5) (M' := []))
  have HL := hid' (fun (hp sp : Nat) (w' : World) (K' : List (Nat × Obj)) (S' : StkAt w w' [(hp, [txt s.toList, txt s.toList])] K' sp ([] ++ [⟨5, true, 0, 0, 0, s⟩])) => conv_cvlit (o := ⟨5, true, 0, 0, 0, s⟩) S' m0 (isK_any 5 (by decide) (by decide)) (held_not isN5) (mayN s false hs) (M' := []))
  have HT := hid' (fun (hp sp : Nat) (w' : World) (K' : List (Nat × Obj)) (S' : StkAt w w' [(hp, [txt s.toList, txt s.toList])] K' sp ([] ++ [⟨5, true, 0, 0, 0, s⟩])) => conv_type (o := ⟨5, true, 0, 0, 0, s⟩) S' m0 (isK_any 5 (by decide) (by decide)) (held_not isN5) nmT (by decide) (type_name _ rfl) (M' := []))
  have HMK := hid' (fun W => make_z s.size W (by omega))
  clear MS MS1 HWR hz
  have HSZ := hid' hs
  clear hs
  go_enter Try.func6, Try.ntmps6
  go_wp2_with fail
  refine (known21_any w).mono ?_
  rintro r w1 ⟨rfl, X1⟩
  go_wp2_with fail
  refine (fresh21_any (Ats.start X1)).mono ?_
  rintro r w2 ⟨hp, sp, rfl, S2⟩
  have S3 := S2.alloc (wBox hp sp)
  (try clear Ra); (try clear ya); (try clear Za)
  have Ra := cells_of (S3.box _ m0)
  have ya := blk_lt (S3.box _ m0)
  (try simp only at Ra ya)
  go_wp2_with fail
  refine (text21_any S3 s (by decide) (by have := HSZ.out; simp [used]; omega) (by decide)).mono ?_
  rintro r w3 ⟨rfl, S4⟩
  have S4 : StkAt w w3 [(hp, [txt s.toList])] [(w2.heap.size, wBox hp sp)] sp [strN 0 false 0 s.size] := S4
  clear S2 S3
  (try clear Ra); (try clear ya); (try clear Za)
  have Ra := cells_of (S4.box _ m0)
  have ya := blk_lt (S4.box _ m0)
  (try simp only at Ra ya)
  go_wp2_with fail
  refine (do21_any S4 0 (gv := []) rfl (by simp) (by simp) none 0 (by decide) (fun m o h => by simp at h) ⟨#[99, 118, 120]⟩ 74 0 true op_cvx (fun w' K' S' => HX.out hp sp w' K' S')).mono ?_
  rintro r w4 ⟨rfl, S4'⟩
  have S4 : StkAt w w4 [(hp, [txt s.toList])] [(w2.heap.size, wBox hp sp)] sp [strN 0 true 0 s.size] := S4'
  clear S4'
  (try clear Ra); (try clear ya); (try clear Za)
  have Ra := cells_of (S4.box _ m0)
  have ya := blk_lt (S4.box _ m0)
  (try simp only at Ra ya)
  go_wp2_with fail
  refine (do21_any S4 0 (gv := []) rfl (by simp) (by simp) none 0 (by decide) (fun m o h => by simp at h) ⟨#[99, 118, 110]⟩ 78 0 true op_cvn (fun w' K' S' => HN.out hp sp w' K' S')).mono ?_
  rintro r w5 ⟨rfl, S5⟩
  have S5 : StkAt w w5 [(hp, [txt s.toList])] [(w2.heap.size, wBox hp sp)] sp [⟨5, true, 0, 0, 0, s⟩] := S5
  (try clear Ra); (try clear ya); (try clear Za)
  have Ra := cells_of (S5.box _ m0)
  have ya := blk_lt (S5.box _ m0)
  (try simp only at Ra ya)
  clear S4
  go_wp2_with fail
  refine (stk_peek S5 0 0 ⟨5, true, 0, 0, 0, s⟩ rfl rfl).mono ?_
  rintro r w6 ⟨rfl, S6⟩
  have S7 := S6.alloc (obox ⟨5, true, 0, 0, 0, s⟩)
  clear S5 S6
  go_upto_region 13 with (fail)
  generalize hW : w6.alloc _ = w7 at *
  clear hW
  generalize hg7 : w6.heap.size = g7 at *
  have HC1 := hid' (conv_z s.size w7.heap.size (w7.drew.alloc (zrowB s.size)) (blk_new w7.drew _))
  have HC2 := hid' (conv_z s.size w7.heap.size (w7.alloc (zrowB s.size)).drew (blk_drew (blk_new w7 _)))
  have hc1 := HC1.out
  have hc2 := HC2.out
  have hmk := HMK.out
  have m7W : (w2.heap.size, wBox hp sp) ∈ [(g7, obox ⟨5, true, 0, 0, 0, s⟩), (w2.heap.size, wBox hp sp)] := m1
  (try clear Ra); (try clear ya); (try clear Za)
  have Ra := cells_of (S7.box _ m7W)
  have ya := blk_lt (S7.box _ m7W)
  (try simp only at Ra ya)
  have HS7 := hid' S7
  have HZ1 := hid' (zero_size s.size)
  clear S7
  go_cut [0, 1, 5, 6, 7] (fun v0 v1 v5 v6 v7 wx => v0 = .string s ∧ v1 = .bool true ∧ v5 = ptr w2.heap.size ∧ v6 = .int .i64 0 ∧ v7 = ptr g7 ∧ StkAt w wx [(hp, [txt s.toList, txt (zeroL s.size)])] [(g7, obox ⟨5, true, 0, 0, 0, s⟩), (w2.heap.size, wBox hp sp)] sp [⟨5, true, 0, 0, 0, s⟩, strN 1 false 0 s.size])
  case first =>
    go_region_with ((go_at_call 12; refine (HTX.out hp sp _ _ (by first | exact (HS7.out.pure ((Chg.refl NoB w7).alloc (zrowB s.size)).drew) | exact (HS7.out.pure ((Chg.refl NoB w7).drew.alloc (zrowB s.size))))).mono ?_; rintro r w9 ⟨rfl, S9⟩))
    all_goals
      rw [zero_list, HZ1.out] at S9
      go_wp2_with fail
      go_meet
      exact ⟨rfl, rfl, rfl, rfl, rfl, S9⟩
  obtain ⟨rfl, rfl, rfl, rfl, rfl, S9⟩ := hcut
  clear HS7 Ra ya HTX HN HX HMK HC1 HC2 hc1 hc2 hmk
  generalize wc = w9 at *
  (try clear Ra); (try clear ya); (try clear Za)
  have Ra := cells_of (S9.box _ m1)
  have ya := blk_lt (S9.box _ m1)
  (try simp only at Ra ya)
  go_wp2_with fail
  refine (do21_any S9 0 (gv := []) rfl (by simp) (by simp) none 0 (by decide) (fun m o h => by simp at h) ⟨#[99, 118, 115]⟩ 79 0 true op_cvs (fun w' K' S' => HS.out hp sp w' K' S')).mono ?_
  rintro r w10 ⟨rfl, S10⟩
  have S10 : StkAt w w10 [(hp, [txt s.toList, txt s.toList])] [(g7, obox ⟨5, true, 0, 0, 0, s⟩), (w2.heap.size, wBox hp sp)] sp ([] ++ [strN 1 false 0 s.size]) := S10
  (try clear Ra); (try clear ya); (try clear Za)
  have Ra := cells_of (S10.box _ m1)
  have ya := blk_lt (S10.box _ m1)
  (try simp only at Ra ya)
  clear S9 HS
  go_wp2_with fail
  refine (top21_any (l := []) (o := strN 1 false 0 s.size) S10 m0 s 0 HB.out).mono ?_
  rintro r w11 ⟨rfl, S11⟩
  have S12 := S11.alloc (obox (strN 1 false 0 s.size))
  clear S10 S11 HB
  go_upto_region 16 with (fail)
  generalize hW : w11.alloc _ = w12 at *
  clear hW
  generalize hg : w11.heap.size = g12 at *
  clear hg
  (try clear Ra); (try clear ya); (try clear Za)
  have Ra := cells_of (S12.box _ m2)
  have ya := blk_lt (S12.box _ m2)
  (try clear Ro); (try clear yo); (try clear Zo)
  have Ro := cells_of (S12.box _ m1)
  have yo := blk_lt (S12.box _ m1)
  (try simp only at Ra ya Ro yo)
  have S13a := S12.alloc (obox ⟨5, true, 0, 0, 0, s⟩)
  have RA13 := cells_of (S13a.box _ m3)
  have yA13 := blk_lt (S13a.box _ m3)
  simp only at RA13 yA13
  go_wp2_with fail
  refine (do21_any S13a 1 (gv := [⟨5, true, 0, 0, 0, s⟩]) rfl (by simp) (fun o ho => by rw [List.mem_singleton.1 ho]; exact HO.out) _ 1 (by decide) (read_one ⟨5, true, 0, 0, 0, s⟩ m0) ⟨#[120, 99, 104, 101, 99, 107]⟩ 75 0 true op_xcheck (fun w' K' S' => HC.out hp sp w' K' S')).mono ?_
  rintro r w13b ⟨rfl, S13b⟩
  have S13c := S13b.keep (List.sublist_cons_self _ _)
  clear RA13 yA13 S13a S13b Ro yo
  (try clear Ra); (try clear ya); (try clear Za)
  have Ra := cells_of (S13c.box _ m2)
  have ya := blk_lt (S13c.box _ m2)
  (try simp only at Ra ya)
  go_wp2_with fail
  refine (top21_any (l := []) (o := ⟨2, false, 1, 0, 0, ⟨#[]⟩⟩) S13c m0 ⟨#[]⟩ 6 (bytes_not _ _ rfl)).mono ?_
  rintro r w13d ⟨rfl, S13d⟩
  have S13 := S13d.alloc (obox ⟨2, false, 1, 0, 0, ⟨#[]⟩⟩)
  clear S13c S13d Ra ya HC S12
  go_upto_region 18 with (fail)
  generalize hW : w13d.alloc _ = w13 at *
  clear hW
  generalize hg : w13d.heap.size = g13 at *
  clear hg
  (try clear Ra); (try clear ya); (try clear Za)
  have Ra := cells_of (S13.box _ m3)
  have ya := blk_lt (S13.box _ m3)
  (try clear Ro); (try clear yo); (try clear Zo)
  have Ro := cells_of (S13.box _ m2)
  have yo := blk_lt (S13.box _ m2)
  (try simp only at Ra ya Ro yo)
  have S16a := S13.alloc (obox ⟨5, true, 0, 0, 0, s⟩)
  have RA16 := cells_of (S16a.box _ m4)
  have yA16 := blk_lt (S16a.box _ m4)
  simp only at RA16 yA16
  go_wp2_with fail
  refine (do21_any S16a 1 (gv := [⟨5, true, 0, 0, 0, s⟩]) rfl (by simp) (fun o ho => by rw [List.mem_singleton.1 ho]; exact HO.out) _ 1 (by decide) (read_one ⟨5, true, 0, 0, 0, s⟩ m0) ⟨#[99, 118, 108, 105, 116]⟩ 73 0 true op_cvlit (fun w' K' S' => HL.out hp sp w' K' S')).mono ?_
  rintro r w16b ⟨rfl, S16b⟩
  have S16c := S16b.keep (List.sublist_cons_self _ _)
  clear RA16 yA16 S16a S16b Ro yo
  (try clear Ra); (try clear ya); (try clear Za)
  have Ra := cells_of (S16c.box _ m3)
  have ya := blk_lt (S16c.box _ m3)
  (try simp only at Ra ya)
  go_wp2_with fail
  refine (top21_any (l := []) (o := ⟨5, false, 0, 0, 0, s⟩) S16c m0 ⟨#[]⟩ 6 (bytes_not _ _ rfl)).mono ?_
  rintro r w16d ⟨rfl, S16d⟩
  have S16 := S16d.alloc (obox ⟨5, false, 0, 0, 0, s⟩)
  clear S16c S16d Ra ya HL S13
  go_upto_region 20 with (fail)
  generalize hW : w16d.alloc _ = w16 at *
  clear hW
  generalize hg : w16d.heap.size = g16 at *
  clear hg
  (try clear Ra); (try clear ya); (try clear Za)
  have Ra := cells_of (S16.box _ m4)
  have ya := blk_lt (S16.box _ m4)
  (try clear Ro); (try clear yo); (try clear Zo)
  have Ro := cells_of (S16.box _ m3)
  have yo := blk_lt (S16.box _ m3)
  (try simp only at Ra ya Ro yo)
  have S19a := S16.alloc (obox ⟨5, true, 0, 0, 0, s⟩)
  have RA19 := cells_of (S19a.box _ m5)
  have yA19 := blk_lt (S19a.box _ m5)
  simp only at RA19 yA19
  go_wp2_with fail
  refine (do21_any S19a 1 (gv := [⟨5, true, 0, 0, 0, s⟩]) rfl (by simp) (fun o ho => by rw [List.mem_singleton.1 ho]; exact HO.out) _ 1 (by decide) (read_one ⟨5, true, 0, 0, 0, s⟩ m0) ⟨#[116, 121, 112, 101]⟩ 72 0 true op_type (fun w' K' S' => HT.out hp sp w' K' S')).mono ?_
  rintro r w19b ⟨rfl, S19b⟩
  have S19c := S19b.keep (List.sublist_cons_self _ _)
  clear RA19 yA19 S19a S19b Ro yo
  (try clear Ra); (try clear ya); (try clear Za)
  have Ra := cells_of (S19c.box _ m4)
  have ya := blk_lt (S19c.box _ m4)
  (try simp only at Ra ya)
  go_wp2_with fail
  refine (top21_any (l := []) (o := ⟨5, true, 0, 0, 0, nmT⟩) S19c m0 ⟨#[]⟩ 6 (bytes_not _ _ rfl)).mono ?_
  rintro r w19d ⟨rfl, S19d⟩
  have S19 := S19d.alloc (obox ⟨5, true, 0, 0, 0, nmT⟩)
  clear S19c S19d Ra ya HT S16
  go_upto_region 22 with (fail)
  generalize hW : w19d.alloc _ = w19 at *
  clear hW
  generalize hg : w19d.heap.size = g19 at *
  clear hg
  have HX := hid' S19.chg
  (try clear Ra); (try clear ya); (try clear Za)
  have Ra := cells_of (S19.box _ m5)
  have ya := blk_lt (S19.box _ m5)
  (try clear Ro); (try clear yo); (try clear Zo)
  have Ro := cells_of (S19.box _ m4)
  have yo := blk_lt (S19.box _ m4)
  (try clear Rp); (try clear yp); (try clear Zp)
  have Rp := cells_of (S19.box _ m3)
  have yp := blk_lt (S19.box _ m3)
  (try clear Rx); (try clear yx); (try clear Zx)
  have Rx := cells_of (S19.box _ m2)
  have yx := blk_lt (S19.box _ m2)
  (try clear Ry); (try clear yy); (try clear Zy)
  have Ry := cells_of (S19.box _ m1)
  have yy := blk_lt (S19.box _ m1)
  (try clear Rz); (try clear yz); (try clear Zz)
  have Rz := cells_of (S19.box _ m0)
  have yz := blk_lt (S19.box _ m0)
  (try simp only at Ra ya Ro yo Rp yp Rx yx Ry yy Rz yz)
  have q1 : eqO ⟨5, true, 0, 0, 0, s⟩ ⟨5, true, 0, 0, 0, s⟩ = true := eqO_self _
  have q2 : eqO ⟨5, false, 0, 0, 0, s⟩ ⟨5, false, 0, 0, 0, s⟩ = true := eqO_self _
  have q3 : eqO ⟨5, true, 0, 0, 0, nmT⟩ ⟨5, true, 0, 0, 0, nmT⟩ = true := eqO_self _
  clear S19
  go_wp2_with fail
  go_ret
  exact ⟨rfl, HX.out⟩
set_option maxRecDepth 100000 in
set_option maxHeartbeats 4000000 in
theorem convNames_false (s : ByteArray) (hs : s.size ≤ 100) (w : World) :
    Calls Try.prog 6 #[.string s, .bool false] w fun e w' => e = .returned (.bool true) ∧ Chg NoB w w' := by
  have hz := size_toList s
  have hsi : (s.size : Int) ≤ 100 := by omega
  have MS : ∀ x, mayO (strN 0 x 0 s.size) = true := fun x => mayO_str _ _ _ _ (by omega) (by omega) (by omega) (by omega) (by omega) (by omega)
  have MS1 : mayO (strN 1 false 0 s.size) = true := mayO_str _ _ _ _ (by omega) (by omega) (by omega) (by omega) (by omega) (by omega)
  have HX := hid' (fun (hp sp : Nat) (w' : World) (K' : List (Nat × Obj)) (S' : StkAt w w' [(hp, [txt s.toList])] K' sp ([] ++ [strN 0 false 0 s.size])) => conv_cvx (o := strN 0 false 0 s.size) S' m0 (isK_any 8 (by decide) (by decide)) (heldAll_one (may_whole (N := 0) rfl (by decide) (by omega) false)) (MS true) (M' := []))
  have HN := hid' (fun (hp sp : Nat) (w' : World) (K' : List (Nat × Obj)) (S' : StkAt w w' [(hp, [txt s.toList])] K' sp ([] ++ [strN 0 false 0 s.size])) => conv_cvn (o := strN 0 false 0 s.size) S' m0 (isK_str 8 rfl) (heldAll_one (may_whole (N := 0) rfl (by decide) (by omega) false)) s (bytes_whole (N := 0) rfl (by decide) (by omega) false) 0 (if_neg (by omega)) (M' := []))
  have HTX := hid' (fun (hp sp : Nat) (w' : World) (K' : List (Nat × Obj)) (S' : StkAt w w' [(hp, [txt s.toList])] K' sp [⟨5, false, 0, 0, 0, s⟩]) => text21_any S' ⟨(zeroL s.size).toArray⟩ (by simp) (by rw [zero_size]; simp [used, C.size, hz]; omega) (by simp))
  have HWR : ∀ (hp : Nat) (w' : World) (K' : List (Nat × Obj)), Ats w w' [(hp, [txt s.toList, txt (zeroL s.size)])] K' → Calls Try.prog 48 #[ptr hp, .string s, (strN 1 false 0 s.size).val] w' fun r w2 => r = .returned (.tuple #[(strN 1 false 0 s.size).val, .int .i64 0]) ∧ Ats w w2 [(hp, [txt s.toList, txt s.toList])] K' := fun hp w' K' A => by
    have := at_write A s 1 (zeroL s.size) rfl (by decide) (by simp [zeroL]; omega) false (by simp [zeroL])
    rw [List.drop_of_length_le (by simp [zeroL]), List.append_nil, show (zeroL s.size).length = s.size by simp [zeroL]] at this
    exact this
  have HS := hid' (fun (hp sp : Nat) (w' : World) (K' : List (Nat × Obj)) (S' : StkAt w w' [(hp, [txt s.toList, txt (zeroL s.size)])] K' sp ([] ++ [⟨5, false, 0, 0, 0, s⟩, strN 1 false 0 s.size])) =>
    conv_cvs S' m0 (isK_any 5 (by decide) (by decide)) (isK_str 8 rfl) (heldAll_two (fun h => absurd h (by rw [isN5]; decide)) (by
      have := may_s (L := [txt s.toList, txt (zeroL s.size)]) (N := 1) (bs := zeroL s.size) rfl (by decide) (by simp [zeroL]; omega) false 0 s.size (by decide) (by omega) (by simp [zeroL])
      exact this)) 0 (fun _ => MS1) s (by have := plain_at (w0 := w) (M := [(hp, [txt s.toList, txt (zeroL s.size)])]) ⟨5, false, 0, 0, 0, s⟩ hp (mayN s _ hs) (.inr (.inr (.inl rfl))); rw [name_plain] at this; exact this) (HWR hp))
  have HB := hid' (bytes_whole (L := [txt s.toList, txt s.toList]) (N := 1) (s := s) rfl (by decide) (by omega) false)
  have HO := hid' (mayN s false hs)
  have HC := hid' (fun (hp sp : Nat) (w' : World) (K' : List (Nat × Obj)) (S' : StkAt w w' [(hp, [txt s.toList, txt s.toList])] K' sp ([] ++ [⟨5, false, 0, 0, 0, s⟩])) => conv_xcheck (o := ⟨5, false, 0, 0, 0, s⟩) S' m0 (isK_any 5 (by decide) (by decide)) (held_not isN5) (M' := []))
  have HL := hid' (fun (hp sp : Nat) (w' : World) (K' : List (Nat × Obj)) (S' : StkAt w w' [(hp, [txt s.toList, txt s.toList])] K' sp ([] ++ [⟨5, false, 0, 0, 0, s⟩])) => conv_cvlit (o := ⟨5, false, 0, 0, 0, s⟩) S' m0 (isK_any 5 (by decide) (by decide)) (held_not isN5) (mayN s false hs) (M' := []))
  have HT := hid' (fun (hp sp : Nat) (w' : World) (K' : List (Nat × Obj)) (S' : StkAt w w' [(hp, [txt s.toList, txt s.toList])] K' sp ([] ++ [⟨5, false, 0, 0, 0, s⟩])) => conv_type (o := ⟨5, false, 0, 0, 0, s⟩) S' m0 (isK_any 5 (by decide) (by decide)) (held_not isN5) nmT (by decide) (type_name _ rfl) (M' := []))
  have HMK := hid' (fun W => make_z s.size W (by omega))
  clear MS MS1 HWR hz
  have HSZ := hid' hs
  clear hs
  go_enter Try.func6, Try.ntmps6
  go_wp2_with fail
  refine (known21_any w).mono ?_
  rintro r w1 ⟨rfl, X1⟩
  go_wp2_with fail
  refine (fresh21_any (Ats.start X1)).mono ?_
  rintro r w2 ⟨hp, sp, rfl, S2⟩
  have S3 := S2.alloc (wBox hp sp)
  (try clear Ra); (try clear ya); (try clear Za)
  have Ra := cells_of (S3.box _ m0)
  have ya := blk_lt (S3.box _ m0)
  (try simp only at Ra ya)
  go_wp2_with fail
  refine (text21_any S3 s (by decide) (by have := HSZ.out; simp [used]; omega) (by decide)).mono ?_
  rintro r w3 ⟨rfl, S4⟩
  have S4 : StkAt w w3 [(hp, [txt s.toList])] [(w2.heap.size, wBox hp sp)] sp [strN 0 false 0 s.size] := S4
  clear S2 S3
  (try clear Ra); (try clear ya); (try clear Za)
  have Ra := cells_of (S4.box _ m0)
  have ya := blk_lt (S4.box _ m0)
  (try simp only at Ra ya)
  go_wp2_with fail
  refine (do21_any S4 0 (gv := []) rfl (by simp) (by simp) none 0 (by decide) (fun m o h => by simp at h) ⟨#[99, 118, 110]⟩ 78 0 true op_cvn (fun w' K' S' => HN.out hp sp w' K' S')).mono ?_
  rintro r w5 ⟨rfl, S5⟩
  have S5 : StkAt w w5 [(hp, [txt s.toList])] [(w2.heap.size, wBox hp sp)] sp [⟨5, false, 0, 0, 0, s⟩] := S5
  (try clear Ra); (try clear ya); (try clear Za)
  have Ra := cells_of (S5.box _ m0)
  have ya := blk_lt (S5.box _ m0)
  (try simp only at Ra ya)
  clear S4
  go_wp2_with fail
  refine (stk_peek S5 0 0 ⟨5, false, 0, 0, 0, s⟩ rfl rfl).mono ?_
  rintro r w6 ⟨rfl, S6⟩
  have S7 := S6.alloc (obox ⟨5, false, 0, 0, 0, s⟩)
  clear S5 S6
  go_upto_region 13 with (fail)
  generalize hW : w6.alloc _ = w7 at *
  clear hW
  generalize hg7 : w6.heap.size = g7 at *
  have HC1 := hid' (conv_z s.size w7.heap.size (w7.drew.alloc (zrowB s.size)) (blk_new w7.drew _))
  have HC2 := hid' (conv_z s.size w7.heap.size (w7.alloc (zrowB s.size)).drew (blk_drew (blk_new w7 _)))
  have hc1 := HC1.out
  have hc2 := HC2.out
  have hmk := HMK.out
  have m7W : (w2.heap.size, wBox hp sp) ∈ [(g7, obox ⟨5, false, 0, 0, 0, s⟩), (w2.heap.size, wBox hp sp)] := m1
  (try clear Ra); (try clear ya); (try clear Za)
  have Ra := cells_of (S7.box _ m7W)
  have ya := blk_lt (S7.box _ m7W)
  (try simp only at Ra ya)
  have HS7 := hid' S7
  have HZ1 := hid' (zero_size s.size)
  clear S7
  go_cut [0, 1, 5, 6, 7] (fun v0 v1 v5 v6 v7 wx => v0 = .string s ∧ v1 = .bool false ∧ v5 = ptr w2.heap.size ∧ v6 = .int .i64 0 ∧ v7 = ptr g7 ∧ StkAt w wx [(hp, [txt s.toList, txt (zeroL s.size)])] [(g7, obox ⟨5, false, 0, 0, 0, s⟩), (w2.heap.size, wBox hp sp)] sp [⟨5, false, 0, 0, 0, s⟩, strN 1 false 0 s.size])
  case first =>
    go_region_with ((go_at_call 12; refine (HTX.out hp sp _ _ (by first | exact (HS7.out.pure ((Chg.refl NoB w7).alloc (zrowB s.size)).drew) | exact (HS7.out.pure ((Chg.refl NoB w7).drew.alloc (zrowB s.size))))).mono ?_; rintro r w9 ⟨rfl, S9⟩))
    all_goals
      rw [zero_list, HZ1.out] at S9
      go_wp2_with fail
      go_meet
      exact ⟨rfl, rfl, rfl, rfl, rfl, S9⟩
  obtain ⟨rfl, rfl, rfl, rfl, rfl, S9⟩ := hcut
  clear HS7 Ra ya HTX HN HX HMK HC1 HC2 hc1 hc2 hmk
  generalize wc = w9 at *
  (try clear Ra); (try clear ya); (try clear Za)
  have Ra := cells_of (S9.box _ m1)
  have ya := blk_lt (S9.box _ m1)
  (try simp only at Ra ya)
  go_wp2_with fail
  refine (do21_any S9 0 (gv := []) rfl (by simp) (by simp) none 0 (by decide) (fun m o h => by simp at h) ⟨#[99, 118, 115]⟩ 79 0 true op_cvs (fun w' K' S' => HS.out hp sp w' K' S')).mono ?_
  rintro r w10 ⟨rfl, S10⟩
  have S10 : StkAt w w10 [(hp, [txt s.toList, txt s.toList])] [(g7, obox ⟨5, false, 0, 0, 0, s⟩), (w2.heap.size, wBox hp sp)] sp ([] ++ [strN 1 false 0 s.size]) := S10
  (try clear Ra); (try clear ya); (try clear Za)
  have Ra := cells_of (S10.box _ m1)
  have ya := blk_lt (S10.box _ m1)
  (try simp only at Ra ya)
  clear S9 HS
  go_wp2_with fail
  refine (top21_any (l := []) (o := strN 1 false 0 s.size) S10 m0 s 0 HB.out).mono ?_
  rintro r w11 ⟨rfl, S11⟩
  have S12 := S11.alloc (obox (strN 1 false 0 s.size))
  clear S10 S11 HB
  go_upto_region 16 with (fail)
  generalize hW : w11.alloc _ = w12 at *
  clear hW
  generalize hg : w11.heap.size = g12 at *
  clear hg
  (try clear Ra); (try clear ya); (try clear Za)
  have Ra := cells_of (S12.box _ m2)
  have ya := blk_lt (S12.box _ m2)
  (try clear Ro); (try clear yo); (try clear Zo)
  have Ro := cells_of (S12.box _ m1)
  have yo := blk_lt (S12.box _ m1)
  (try simp only at Ra ya Ro yo)
  have S13a := S12.alloc (obox ⟨5, false, 0, 0, 0, s⟩)
  have RA13 := cells_of (S13a.box _ m3)
  have yA13 := blk_lt (S13a.box _ m3)
  simp only at RA13 yA13
  go_wp2_with fail
  refine (do21_any S13a 1 (gv := [⟨5, false, 0, 0, 0, s⟩]) rfl (by simp) (fun o ho => by rw [List.mem_singleton.1 ho]; exact HO.out) _ 1 (by decide) (read_one ⟨5, false, 0, 0, 0, s⟩ m0) ⟨#[120, 99, 104, 101, 99, 107]⟩ 75 0 true op_xcheck (fun w' K' S' => HC.out hp sp w' K' S')).mono ?_
  rintro r w13b ⟨rfl, S13b⟩
  have S13c := S13b.keep (List.sublist_cons_self _ _)
  clear RA13 yA13 S13a S13b Ro yo
  (try clear Ra); (try clear ya); (try clear Za)
  have Ra := cells_of (S13c.box _ m2)
  have ya := blk_lt (S13c.box _ m2)
  (try simp only at Ra ya)
  go_wp2_with fail
  refine (top21_any (l := []) (o := ⟨2, false, 0, 0, 0, ⟨#[]⟩⟩) S13c m0 ⟨#[]⟩ 6 (bytes_not _ _ rfl)).mono ?_
  rintro r w13d ⟨rfl, S13d⟩
  have S13 := S13d.alloc (obox ⟨2, false, 0, 0, 0, ⟨#[]⟩⟩)
  clear S13c S13d Ra ya HC S12
  go_upto_region 18 with (fail)
  generalize hW : w13d.alloc _ = w13 at *
  clear hW
  generalize hg : w13d.heap.size = g13 at *
  clear hg
  (try clear Ra); (try clear ya); (try clear Za)
  have Ra := cells_of (S13.box _ m3)
  have ya := blk_lt (S13.box _ m3)
  (try clear Ro); (try clear yo); (try clear Zo)
  have Ro := cells_of (S13.box _ m2)
  have yo := blk_lt (S13.box _ m2)
  (try simp only at Ra ya Ro yo)
  have S16a := S13.alloc (obox ⟨5, false, 0, 0, 0, s⟩)
  have RA16 := cells_of (S16a.box _ m4)
  have yA16 := blk_lt (S16a.box _ m4)
  simp only at RA16 yA16
  go_wp2_with fail
  refine (do21_any S16a 1 (gv := [⟨5, false, 0, 0, 0, s⟩]) rfl (by simp) (fun o ho => by rw [List.mem_singleton.1 ho]; exact HO.out) _ 1 (by decide) (read_one ⟨5, false, 0, 0, 0, s⟩ m0) ⟨#[99, 118, 108, 105, 116]⟩ 73 0 true op_cvlit (fun w' K' S' => HL.out hp sp w' K' S')).mono ?_
  rintro r w16b ⟨rfl, S16b⟩
  have S16c := S16b.keep (List.sublist_cons_self _ _)
  clear RA16 yA16 S16a S16b Ro yo
  (try clear Ra); (try clear ya); (try clear Za)
  have Ra := cells_of (S16c.box _ m3)
  have ya := blk_lt (S16c.box _ m3)
  (try simp only at Ra ya)
  go_wp2_with fail
  refine (top21_any (l := []) (o := ⟨5, false, 0, 0, 0, s⟩) S16c m0 ⟨#[]⟩ 6 (bytes_not _ _ rfl)).mono ?_
  rintro r w16d ⟨rfl, S16d⟩
  have S16 := S16d.alloc (obox ⟨5, false, 0, 0, 0, s⟩)
  clear S16c S16d Ra ya HL S13
  go_upto_region 20 with (fail)
  generalize hW : w16d.alloc _ = w16 at *
  clear hW
  generalize hg : w16d.heap.size = g16 at *
  clear hg
  (try clear Ra); (try clear ya); (try clear Za)
  have Ra := cells_of (S16.box _ m4)
  have ya := blk_lt (S16.box _ m4)
  (try clear Ro); (try clear yo); (try clear Zo)
  have Ro := cells_of (S16.box _ m3)
  have yo := blk_lt (S16.box _ m3)
  (try simp only at Ra ya Ro yo)
  have S19a := S16.alloc (obox ⟨5, false, 0, 0, 0, s⟩)
  have RA19 := cells_of (S19a.box _ m5)
  have yA19 := blk_lt (S19a.box _ m5)
  simp only at RA19 yA19
  go_wp2_with fail
  refine (do21_any S19a 1 (gv := [⟨5, false, 0, 0, 0, s⟩]) rfl (by simp) (fun o ho => by rw [List.mem_singleton.1 ho]; exact HO.out) _ 1 (by decide) (read_one ⟨5, false, 0, 0, 0, s⟩ m0) ⟨#[116, 121, 112, 101]⟩ 72 0 true op_type (fun w' K' S' => HT.out hp sp w' K' S')).mono ?_
  rintro r w19b ⟨rfl, S19b⟩
  have S19c := S19b.keep (List.sublist_cons_self _ _)
  clear RA19 yA19 S19a S19b Ro yo
  (try clear Ra); (try clear ya); (try clear Za)
  have Ra := cells_of (S19c.box _ m4)
  have ya := blk_lt (S19c.box _ m4)
  (try simp only at Ra ya)
  go_wp2_with fail
  refine (top21_any (l := []) (o := ⟨5, true, 0, 0, 0, nmT⟩) S19c m0 ⟨#[]⟩ 6 (bytes_not _ _ rfl)).mono ?_
  rintro r w19d ⟨rfl, S19d⟩
  have S19 := S19d.alloc (obox ⟨5, true, 0, 0, 0, nmT⟩)
  clear S19c S19d Ra ya HT S16
  go_upto_region 22 with (fail)
  generalize hW : w19d.alloc _ = w19 at *
  clear hW
  generalize hg : w19d.heap.size = g19 at *
  clear hg
  have HX := hid' S19.chg
  (try clear Ra); (try clear ya); (try clear Za)
  have Ra := cells_of (S19.box _ m5)
  have ya := blk_lt (S19.box _ m5)
  (try clear Ro); (try clear yo); (try clear Zo)
  have Ro := cells_of (S19.box _ m4)
  have yo := blk_lt (S19.box _ m4)
  (try clear Rp); (try clear yp); (try clear Zp)
  have Rp := cells_of (S19.box _ m3)
  have yp := blk_lt (S19.box _ m3)
  (try clear Rx); (try clear yx); (try clear Zx)
  have Rx := cells_of (S19.box _ m2)
  have yx := blk_lt (S19.box _ m2)
  (try clear Ry); (try clear yy); (try clear Zy)
  have Ry := cells_of (S19.box _ m1)
  have yy := blk_lt (S19.box _ m1)
  (try clear Rz); (try clear yz); (try clear Zz)
  have Rz := cells_of (S19.box _ m0)
  have yz := blk_lt (S19.box _ m0)
  (try simp only at Ra ya Ro yo Rp yp Rx yx Ry yy Rz yz)
  have q1 : eqO ⟨5, false, 0, 0, 0, s⟩ ⟨5, false, 0, 0, 0, s⟩ = true := eqO_self _
  have q2 : eqO ⟨5, false, 0, 0, 0, s⟩ ⟨5, false, 0, 0, 0, s⟩ = true := eqO_self _
  have q3 : eqO ⟨5, true, 0, 0, 0, nmT⟩ ⟨5, true, 0, 0, 0, nmT⟩ = true := eqO_self _
  clear S19
  go_wp2_with fail
  go_ret
  exact ⟨rfl, HX.out⟩
set_option maxRecDepth 100000 in
set_option maxHeartbeats 4000000 in
theorem convNamesLong_true (s : ByteArray) (hs : s.size ≤ 200) (hs2 : 100 < s.size) (w : World) :
    Calls Try.prog 6 #[.string s, .bool true] w fun e w' => e = .returned (.bool true) ∧ Chg NoB w w' := by
  have hz := size_toList s
  have hsi : (s.size : Int) ≤ 200 := by omega
  have hsj : (100 : Int) < s.size := by omega
  have MS : ∀ x, mayO (strN 0 x 0 s.size) = true := fun x => mayO_str _ _ _ _ (by omega) (by omega) (by omega) (by omega) (by omega) (by omega)
  have HX := hid' (fun (hp sp : Nat) (w' : World) (K' : List (Nat × Obj)) (S' : StkAt w w' [(hp, [txt s.toList])] K' sp ([] ++ [strN 0 false 0 s.size])) => conv_cvx (o := strN 0 false 0 s.size) S' m0 (isK_any 8 (by decide) (by decide)) (heldAll_one (may_whole (N := 0) rfl (by decide) (by omega) false)) (MS true) (M' := []))
  have HN := hid' (fun (hp sp : Nat) (w' : World) (K' : List (Nat × Obj)) (S' : StkAt w w' [(hp, [txt s.toList])] K' sp ([] ++ [strN 0 true 0 s.size])) => conv_cvn (o := strN 0 true 0 s.size) S' m0 (isK_str 8 rfl) (heldAll_one (may_whole (N := 0) rfl (by decide) (by omega) true)) s (bytes_whole (N := 0) rfl (by decide) (by omega) true) 5 (if_pos hs2) (M' := []))
  clear MS hz
  have HSZ := hid' hs
  clear hs hs2
  go_enter Try.func6, Try.ntmps6
  go_wp2_with fail
  refine (known21_any w).mono ?_
  rintro r w1 ⟨rfl, X1⟩
  go_wp2_with fail
  refine (fresh21_any (Ats.start X1)).mono ?_
  rintro r w2 ⟨hp, sp, rfl, S2⟩
  have S3 := S2.alloc (wBox hp sp)
  (try clear Ra); (try clear ya); (try clear Za)
  have Ra := cells_of (S3.box _ m0)
  have ya := blk_lt (S3.box _ m0)
  (try simp only at Ra ya)
  go_wp2_with fail
  refine (text21_any S3 s (by decide) (by have := HSZ.out; simp [used]; omega) (by decide)).mono ?_
  rintro r w3 ⟨rfl, S4⟩
  have S4 : StkAt w w3 [(hp, [txt s.toList])] [(w2.heap.size, wBox hp sp)] sp [strN 0 false 0 s.size] := S4
  clear S2 S3
  (try clear Ra); (try clear ya); (try clear Za)
  have Ra := cells_of (S4.box _ m0)
  have ya := blk_lt (S4.box _ m0)
  (try simp only at Ra ya)
  go_wp2_with fail
  refine (do21_any S4 0 (gv := []) rfl (by simp) (by simp) none 0 (by decide) (fun m o h => by simp at h) ⟨#[99, 118, 120]⟩ 74 0 true op_cvx (fun w' K' S' => HX.out hp sp w' K' S')).mono ?_
  rintro r w4 ⟨rfl, S4'⟩
  have S4 : StkAt w w4 [(hp, [txt s.toList])] [(w2.heap.size, wBox hp sp)] sp [strN 0 true 0 s.size] := S4'
  clear S4'
  (try clear Ra); (try clear ya); (try clear Za)
  have Ra := cells_of (S4.box _ m0)
  have ya := blk_lt (S4.box _ m0)
  (try simp only at Ra ya)
  go_wp2_with fail
  refine (do21_any S4 0 (gv := []) rfl (by simp) (by simp) none 0 (by decide) (fun m o h => by simp at h) ⟨#[99, 118, 110]⟩ 78 5 true op_cvn (fun w' K' S' => HN.out hp sp w' K' S')).mono ?_
  rintro r w5 ⟨rfl, S5⟩
  have S5 : StkAt w w5 [(hp, [txt s.toList])] [(w2.heap.size, wBox hp sp)] sp [strN 0 true 0 s.size] := S5
  (try clear Ra); (try clear ya); (try clear Za)
  have Ra := cells_of (S5.box _ m0)
  have ya := blk_lt (S5.box _ m0)
  (try simp only at Ra ya)
  have HL := hid' (stk_len S5)
  have HX2 := hid' S5.chg
  clear S4 S5
  go_wp2_with fail
  refine HL.out.mono ?_
  rintro r w6 ⟨rfl, rfl⟩
  go_wp2_with fail
  go_ret
  exact ⟨rfl, HX2.out⟩
set_option maxRecDepth 100000 in
set_option maxHeartbeats 4000000 in
theorem convNamesLong_false (s : ByteArray) (hs : s.size ≤ 200) (hs2 : 100 < s.size) (w : World) :
    Calls Try.prog 6 #[.string s, .bool false] w fun e w' => e = .returned (.bool true) ∧ Chg NoB w w' := by
  have hz := size_toList s
  have hsi : (s.size : Int) ≤ 200 := by omega
  have hsj : (100 : Int) < s.size := by omega
  have MS : ∀ x, mayO (strN 0 x 0 s.size) = true := fun x => mayO_str _ _ _ _ (by omega) (by omega) (by omega) (by omega) (by omega) (by omega)
  have HX := hid' (fun (hp sp : Nat) (w' : World) (K' : List (Nat × Obj)) (S' : StkAt w w' [(hp, [txt s.toList])] K' sp ([] ++ [strN 0 false 0 s.size])) => conv_cvx (o := strN 0 false 0 s.size) S' m0 (isK_any 8 (by decide) (by decide)) (heldAll_one (may_whole (N := 0) rfl (by decide) (by omega) false)) (MS true) (M' := []))
  have HN := hid' (fun (hp sp : Nat) (w' : World) (K' : List (Nat × Obj)) (S' : StkAt w w' [(hp, [txt s.toList])] K' sp ([] ++ [strN 0 false 0 s.size])) => conv_cvn (o := strN 0 false 0 s.size) S' m0 (isK_str 8 rfl) (heldAll_one (may_whole (N := 0) rfl (by decide) (by omega) false)) s (bytes_whole (N := 0) rfl (by decide) (by omega) false) 5 (if_pos hs2) (M' := []))
  clear MS hz
  have HSZ := hid' hs
  clear hs hs2
  go_enter Try.func6, Try.ntmps6
  go_wp2_with fail
  refine (known21_any w).mono ?_
  rintro r w1 ⟨rfl, X1⟩
  go_wp2_with fail
  refine (fresh21_any (Ats.start X1)).mono ?_
  rintro r w2 ⟨hp, sp, rfl, S2⟩
  have S3 := S2.alloc (wBox hp sp)
  (try clear Ra); (try clear ya); (try clear Za)
  have Ra := cells_of (S3.box _ m0)
  have ya := blk_lt (S3.box _ m0)
  (try simp only at Ra ya)
  go_wp2_with fail
  refine (text21_any S3 s (by decide) (by have := HSZ.out; simp [used]; omega) (by decide)).mono ?_
  rintro r w3 ⟨rfl, S4⟩
  have S4 : StkAt w w3 [(hp, [txt s.toList])] [(w2.heap.size, wBox hp sp)] sp [strN 0 false 0 s.size] := S4
  clear S2 S3
  (try clear Ra); (try clear ya); (try clear Za)
  have Ra := cells_of (S4.box _ m0)
  have ya := blk_lt (S4.box _ m0)
  (try simp only at Ra ya)
  go_wp2_with fail
  refine (do21_any S4 0 (gv := []) rfl (by simp) (by simp) none 0 (by decide) (fun m o h => by simp at h) ⟨#[99, 118, 110]⟩ 78 5 true op_cvn (fun w' K' S' => HN.out hp sp w' K' S')).mono ?_
  rintro r w5 ⟨rfl, S5⟩
  have S5 : StkAt w w5 [(hp, [txt s.toList])] [(w2.heap.size, wBox hp sp)] sp [strN 0 false 0 s.size] := S5
  (try clear Ra); (try clear ya); (try clear Za)
  have Ra := cells_of (S5.box _ m0)
  have ya := blk_lt (S5.box _ m0)
  (try simp only at Ra ya)
  have HL := hid' (stk_len S5)
  have HX2 := hid' S5.chg
  clear S4 S5
  go_wp2_with fail
  refine HL.out.mono ?_
  rintro r w6 ⟨rfl, rfl⟩
  go_wp2_with fail
  go_ret
  exact ⟨rfl, HX2.out⟩
theorem convNames_any (s : ByteArray) (b : Bool) (hb : s.size ≤ maxLen) (w : World) :
    Calls Try.prog 6 #[.string s, .bool b] w fun e w' => e = .returned (.bool true) ∧ Chg NoB w w' := by
  by_cases h1 : s.size ≤ 100
  · cases b
    · exact convNames_false s h1 w
    · exact convNames_true s h1 w
  · by_cases h2 : s.size ≤ 200
    · cases b
      · exact convNamesLong_false s h2 (by omega) w
      · exact convNamesLong_true s h2 (by omega) w
    · have h3 : (200 : Int) < s.size := by omega
      have h4 : (s.size : Int) ≤ 9223372036854775807 := by unfold maxLen at hb; omega
      clear hb
      go_enter Try.func6, Try.ntmps6
      go_wp2_with fail
      refine (known21_any w).mono ?_
      rintro r w1 ⟨rfl, X1⟩
      go_wp2_with fail
      go_ret
      exact ⟨rfl, X1⟩
end Go.Proofs.Ythelgahojgdehaa
