/- Parts of the proof: Uvd, Uxs, Uxq, Ubx. -/
import Derived.Test.YtoogmimbmgdflaaGreatY35
import Derived.Test.YtoogmimbmgdflaaGreatY38
namespace Go.Proofs.YtoogmimbmgdflaaGreat
open Go.RowKit
variable {w w0 : World} {M : List (Nat × List C)} {K : List (Nat × Obj)} {bt d hi hp lo m : Nat} {b : List UInt8} {H HB L : List C}
theorem at_titems0 (A : Told w0 w M K hp bt b) {H : List C} (hm : (hp, H) ∈ M) (o : O) (hr : itemsH H o = ([], 0)) :
 Calls Tryz.prog 48 #[ptr hp, o.val] w fun r w' => ∃ a c, r = .returned (.tuple #[.slice a 0 c, .int .i64 0]) ∧ Told w0 w' M K hp bt b := by
 obtain ⟨v, R, h, A⟩ := A; obtain ⟨hs, rfl, rfl, HR⟩ := A.rep hm; refine (items_any hs o w HR).mono ?_; rintro r w' ⟨u, rfl, X, own⟩; rw [hr] at own ⊢; obtain ⟨R2, hR, A'⟩ := A.ofOwnsB X own; obtain ⟨a, c, rfl, -⟩ := rowG_slice hR; exact ⟨a, c, rfl, v, R, h, A'.keep (List.sublist_append_right _ _)⟩
set_option maxRecDepth 100000 in
set_option maxHeartbeats 4000000 in
theorem whole_arr_none (A : Told w0 w M K hp bt b) (hb : b.length ≤ 1000) {H : List C} (hM : (hp, H) ∈ M) (deep : Int) (d0 : 0 ≤ deep) (d1 : deep < 20) (n a l : Int) (s : ByteArray)
 (hr : itemsH H ⟨9, true, n, a, l, s⟩ = ([], 0)) :
 Calls Tryz.prog 52 #[ptr bt, O.val ⟨9, true, n, a, l, s⟩, .int .i64 deep] w fun r w' => r = .returned (.bool (decide ((b ++ [123, 125]).length < 1000))) ∧ Told w0 w' M K hp bt ((b ++ [123, 125]).take 1000) := by
 have hU0 : b ++ [123, 125] = b ++ [123] ++ [125] := by simp
 obtain ⟨U, hU⟩ : ∃ U : List UInt8, U = b ++ [123] := ⟨_, rfl⟩
 obtain ⟨F, hF⟩ : ∃ F : List UInt8, F = U ++ [125] := ⟨_, rfl⟩
 rw [hU0, ← hU, ← hF]; have HF := hid' hF; have HU0 := hid' hU; clear hU0 hU hF
 have q1 : ((⟨#[123]⟩ : ByteArray)).toList = [123] := by rw [ByteArray.toList_eq]
 have q2 : ((⟨#[125]⟩ : ByteArray)).toList = [125] := by rw [ByteArray.toList_eq]
 have A1 := A.alloc (.cells #[.int .i64 9, .bool true, .int .i64 n, .int .i64 a, .int .i64 l, .string s] 39); have l1 := blk_lt (A1.box _ (List.mem_cons_self ..)); have RC := fun W => TellS.cells (w0 := w0) (M := M) (K := K) (hp := hp) (bt := bt) (g := w.heap.size) (cs := #[.int .i64 9, .bool true, .int .i64 n, .int .i64 a, .int .i64 l, .string s]) (T := 39) (fz := (0, 0)) W; have LS := hid' (fun W b => Told.lose (w0 := w0) (w := W) (M := M) (K := K) (hp := hp) (bt := bt) (b := b) (q := (w.heap.size, .cells #[.int .i64 9, .bool true, .int .i64 n, .int .i64 a, .int .i64 l, .string s] 39))); generalize ((w.heap.size, Obj.cells #[.int .i64 9, .bool true, .int .i64 n, .int .i64 a, .int .i64 l, .string s] 39) :: K : List (Nat × Obj)) = K' at *; have HA := hid' A1; have HIT := hid' (fun (w2 : World) (A2 : Told w0 w2 M K' hp bt b) => at_titems0 A2 hM ⟨9, true, n, a, l, s⟩ hr)
 have S0 : TellS w0 M K' hp bt (w.alloc (.cells #[.int .i64 9, .bool true, .int .i64 n, .int .i64 a, .int .i64 l, .string s] 39)) := ⟨_, A1⟩
 have RT := fun W => TellS.tell (w0 := w0) (M := M) (K := K') (hp := hp) (bt := bt) W; simp only at l1; clear A A1 hr; go_enter Tryz.func52, Tryz.ntmps52
 go_wp2_with fail
 generalize hW : w.alloc _ = w1 at *; clear hW; generalize w.heap.size = g at *
 go_region_held3 (fun W' => TellS w0 M K' hp bt W') (first | assumption | (exact TellS.drew (by assumption)) | (exact ⟨_, by assumption⟩))
  ((go_at_call 48; refine (HIT.out _ (HA.out.pure (Chg.refl NoB w1).drew)).mono ?_; rintro r w2 ⟨ga, cap, rfl, A2⟩))
 have S3 : TellS w0 M K' hp bt w2 := ⟨_, A2⟩
 have R3 := RC w2 S3; have l3 : g < w2.heap.size := cell_lt' (R3 0); have P1 := hid' (at_tput A2 hb ⟨#[123]⟩ (by decide)); rw [q1, ← HU0.out] at P1; clear A2 S0 l1 S3 RT; go_wp2_with fail
 refine P1.out.mono ?_; rintro r w3 ⟨rfl, A4⟩; have HA4 := hid' A4; clear A4 R3 l3 RC P1
 by_cases ck : U.length < 1000
 rotate_left
 · have e1 : decide (U.length < 1000) = false := decide_eq_false ck
   have e2 : F.take 1000 = U.take 1000 ∧ decide (F.length < 1000) = false := by
    rw [HF.out]; exact cut_pre _ _ ck
   have HE2 := hid' e2; rw [e1]; clear e1 e2 ck; go_wp2_with fail
   go_loopw [12, 13] (fun kv iv wr => iv = .int .i64 0 ∧ kv = .bool false ∧ wr = w3) (fun _ iv _ => 0)
   case atStart => exact ⟨rfl, rfl, rfl⟩
   case round =>
    obtain ⟨rfl, rfl, rfl⟩ := hrel; go_wp2_with fail
    go_ret; rw [HE2.out.1, HE2.out.2]; exact ⟨rfl, LS.out _ _ HA4.out⟩
 · have e1 : decide (U.length < 1000) = true := decide_eq_true ck; have e3 : U.take 1000 = U := List.take_of_length_le (by omega); have A5 := HA4.out; rw [e3] at A5; have P2 := at_tput A5 (by omega) ⟨#[125]⟩ (by decide); rw [q2, ← HF.out] at P2
   obtain ⟨R, hR⟩ : ∃ R, decide (F.length < 1000) = R := ⟨_, rfl⟩
   rw [hR] at P2; have HR := hid' hR; have HP2 := hid' P2; rw [e1]; clear e1 e3 A5 hR P2 ck HA4; go_wp2_with fail
   go_loopw [12, 13] (fun kv iv wr => iv = .int .i64 0 ∧ kv = .bool true ∧ wr = w3) (fun _ iv _ => 0)
   case atStart => exact ⟨rfl, rfl, rfl⟩
   case round =>
    obtain ⟨rfl, rfl, rfl⟩ := hrel; go_wp2_with fail
    refine HP2.out.mono ?_; rintro r w4 ⟨rfl, A6⟩; go_wp2_with fail
    go_ret; rw [HR.out]; exact ⟨rfl, LS.out _ _ A6⟩
section
noncomputable def opX (j : Nat) : List UInt8 := 45 :: 45 :: ((opN ((j : Int) + 1)).toList ++ [45, 45])
set_option maxRecDepth 100000 in
theorem plain_op (hp : Nat) (j : Nat) (hj : j < 162) (w : World) : Calls Tryz.prog 96 #[ptr hp, (opO ((j : Int) + 1)).val] w fun r w' => r = .returned (.string (opN ((j : Int) + 1))) ∧ Chg NoB w w' := by
 have HN := hid' (fun w => name_any ((j : Int) + 1) (by omega) (by omega) w); have X1 := (Chg.refl NoB w).alloc (.cells #[.int .i64 7, .bool true, .int .i64 ((j : Int) + 1), .int .i64 0, .int .i64 0, .string ⟨#[]⟩] 39); go_enter Tryz.func96, Tryz.ntmps96
 go_wp2_with fail
 refine (HN.out _).mono ?_; rintro r w2 ⟨rfl, X2⟩; go_wp2_with fail
 go_ret; exact ⟨rfl, X1.trans X2⟩
set_option maxRecDepth 100000 in
theorem plain_nil (hp : Nat) (w : World) : Calls Tryz.prog 96 #[ptr hp, O.nil.val] w fun r w' => r = .returned (.string ⟨#[]⟩) ∧ Chg NoB w w' := by
 rw [show O.nil = ⟨0, false, 0, 0, 0, ⟨#[]⟩⟩ from rfl]; have X1 := (Chg.refl NoB w).alloc (Obj.cells #[.int .i64 0, .bool false, .int .i64 0, .int .i64 0, .int .i64 0, .string ⟨#[]⟩] 39); go_enter Tryz.func96, Tryz.ntmps96
 go_wp2_with fail
 go_ret; exact ⟨rfl, X1⟩
set_option maxRecDepth 100000 in
set_option maxHeartbeats 1000000 in
theorem whole_op (A : Told w0 w M K hp bt b) (hb : b.length ≤ 1000) (deep : Int) (j : Nat) (hj : j < 162) :
 Calls Tryz.prog 52 #[ptr bt, (opO ((j : Int) + 1)).val, .int .i64 deep] w fun r w' => r = .returned (.bool (decide ((b ++ opX j).length < 1000))) ∧ Told w0 w' M K hp bt ((b ++ opX j).take 1000) := by
 obtain ⟨nm, hnm⟩ : ∃ nm, opN ((j : Int) + 1) = nm := ⟨_, rfl⟩
 obtain ⟨T, hT⟩ : ∃ T : ByteArray, T = ⟨#[45, 45]⟩ ++ nm ++ ⟨#[45, 45]⟩ := ⟨_, rfl⟩
 have hs := opN_size j; rw [hnm] at hs
 have hsz : T.size ≤ 1000000 := by
  rw [hT, ByteArray.size_append, ByteArray.size_append]; have e : (⟨#[45, 45]⟩ : ByteArray).size = 2 := rfl; omega
 have hTL : opX j = T.toList := by
  unfold opX; rw [hT, hnm]; simp only [ByteArray.toList_eq, ByteArray.data_append, Array.toList_append]; simp
 rw [hTL]
 have HP : ∀ w, Calls Tryz.prog 96 #[ptr hp, (opO ((j : Int) + 1)).val] w fun r w' => r = .returned (.string nm) ∧ Chg NoB w w' := fun w => by
  have := plain_op hp j hj w; rwa [hnm] at this
 obtain ⟨R, hR⟩ : ∃ R, decide ((b ++ T.toList).length < 1000) = R := ⟨_, rfl⟩
 have HPL := hid' HP; have HR := hid' hR; have e2 : (⟨#[45, 45]⟩ : ByteArray).size = 2 := rfl; have K1 : ∀ W : World, (Op.stringOp .add ⟨#[45, 45]⟩ nm).run Tryz.prog W = .ok (.string (⟨#[45, 45]⟩ ++ nm)) W := fun W => run_string_add_sum W _ _ (by omega); have K2 : ∀ W : World, (Op.stringOp .add (⟨#[45, 45]⟩ ++ nm) ⟨#[45, 45]⟩).run Tryz.prog W = .ok (.string (⟨#[45, 45]⟩ ++ nm ++ ⟨#[45, 45]⟩)) W := fun W => run_string_add_sum W _ _ (by rw [ByteArray.size_append]; omega)
 have g1 : ¬ 9223372036854775807 < 2 + nm.size := by omega
 have g2 : ¬ 9223372036854775807 < 2 + nm.size + 2 := by omega
 clear HP hR hTL hnm hs e2; have A1 := A.alloc (.cells #[.int .i64 7, .bool true, .int .i64 ((j : Int) + 1), .int .i64 0, .int .i64 0, .string ⟨#[]⟩] 39); have l1 := blk_lt (A1.box _ (List.mem_cons_self ..)); have RC := fun W => TellS.cells (w0 := w0) (M := M) (K := K) (hp := hp) (bt := bt) (g := w.heap.size) (cs := #[.int .i64 7, .bool true, .int .i64 ((j : Int) + 1), .int .i64 0, .int .i64 0, .string ⟨#[]⟩]) (T := 39) (fz := (0, 0)) W; have LS := hid' (fun W b => Told.lose (w0 := w0) (w := W) (M := M) (K := K) (hp := hp) (bt := bt) (b := b) (q := (w.heap.size, .cells #[.int .i64 7, .bool true, .int .i64 ((j : Int) + 1), .int .i64 0, .int .i64 0, .string ⟨#[]⟩] 39))); generalize ((w.heap.size, Obj.cells #[.int .i64 7, .bool true, .int .i64 ((j : Int) + 1), .int .i64 0, .int .i64 0, .string ⟨#[]⟩] 39) :: K : List (Nat × Obj)) = K' at *
 have FIN : Hid (∀ (w2 : World) (A2 : Told w0 w2 M K' hp bt b),
  Calls Tryz.prog 94 #[ptr bt, .string T] w2 fun r w' => r = .returned (.bool R) ∧ Told w0 w' M K' hp bt ((b ++ T.toList).take 1000)) := hid' (fun w2 A2 => by
  have := at_tput A2 hb T hsz
  rwa [HR.out] at this)
 rw [hT] at FIN; have HT := hid' hT; clear hT; have HA := hid' A1
 have S0 : TellS w0 M K' hp bt (w.alloc (.cells #[.int .i64 7, .bool true, .int .i64 ((j : Int) + 1), .int .i64 0, .int .i64 0, .string ⟨#[]⟩] 39)) := ⟨_, A1⟩
 have RT := fun W => TellS.tell (w0 := w0) (M := M) (K := K') (hp := hp) (bt := bt) W; simp only at l1; clear A A1; go_enter Tryz.func52, Tryz.ntmps52
 go_wp2_with fail
 generalize hW : w.alloc _ = w1 at *; clear hW; generalize w.heap.size = g at *
 go_region_held3 (fun W' => TellS w0 M K' hp bt W') (first | assumption | (exact TellS.drew (by assumption)) | (exact ⟨_, by assumption⟩))
  (first | (go_at_call 96; refine (HPL.out _).mono ?_; rintro r w4 ⟨rfl, X4⟩; have A4 := HA.out.pure ((Chg.refl NoB w1).drew.trans X4)) | (go_at_call 94; refine (FIN.out _ A4).mono ?_; rintro r w5 ⟨rfl, A5⟩))
 go_wp2_with fail
 go_ret; rw [HR.out]; rw [← HT.out] at A5; exact ⟨rfl, LS.out _ _ A5⟩
set_option maxRecDepth 100000 in
set_option maxHeartbeats 1000000 in
theorem whole_nil (A : Told w0 w M K hp bt b) (hb : b.length ≤ 1000) (deep : Int) :
 Calls Tryz.prog 52 #[ptr bt, O.nil.val, .int .i64 deep] w fun r w' => r = .returned (.bool (decide ((b ++ (⟨#[]⟩ : ByteArray).toList).length < 1000))) ∧ Told w0 w' M K hp bt ((b ++ (⟨#[]⟩ : ByteArray).toList).take 1000) := by
 have hsz : (⟨#[]⟩ : ByteArray).size ≤ 1000000 := by decide
 have HP : ∀ w, Calls Tryz.prog 96 #[ptr hp, O.nil.val] w fun r w' => r = .returned (.string ⟨#[]⟩) ∧ Chg NoB w w' := fun w => plain_nil hp w; rw [show O.nil = ⟨0, false, 0, 0, 0, ⟨#[]⟩⟩ from rfl] at HP ⊢
 obtain ⟨T, hT⟩ : ∃ T : ByteArray, T = ⟨#[]⟩ := ⟨_, rfl⟩
 obtain ⟨R, hR⟩ : ∃ R, decide ((b ++ (⟨#[]⟩ : ByteArray).toList).length < 1000) = R := ⟨_, rfl⟩
 have HPL := hid' HP; have HR := hid' hR; clear HP hR; have A1 := A.alloc (.cells #[.int .i64 0, .bool false, .int .i64 0, .int .i64 0, .int .i64 0, .string ⟨#[]⟩] 39); have l1 := blk_lt (A1.box _ (List.mem_cons_self ..)); have RC := fun W => TellS.cells (w0 := w0) (M := M) (K := K) (hp := hp) (bt := bt) (g := w.heap.size) (cs := #[.int .i64 0, .bool false, .int .i64 0, .int .i64 0, .int .i64 0, .string ⟨#[]⟩]) (T := 39) (fz := (0, 0)) W; have LS := hid' (fun W b => Told.lose (w0 := w0) (w := W) (M := M) (K := K) (hp := hp) (bt := bt) (b := b) (q := (w.heap.size, .cells #[.int .i64 0, .bool false, .int .i64 0, .int .i64 0, .int .i64 0, .string ⟨#[]⟩] 39))); generalize ((w.heap.size, Obj.cells #[.int .i64 0, .bool false, .int .i64 0, .int .i64 0, .int .i64 0, .string ⟨#[]⟩] 39) :: K : List (Nat × Obj)) = K' at *
 have FIN : Hid (∀ (w2 : World) (A2 : Told w0 w2 M K' hp bt b),
  Calls Tryz.prog 94 #[ptr bt, .string ⟨#[]⟩] w2 fun r w' => r = .returned (.bool R) ∧ Told w0 w' M K' hp bt ((b ++ (⟨#[]⟩ : ByteArray).toList).take 1000)) := hid' (fun w2 A2 => by
  have := at_tput A2 hb ⟨#[]⟩ hsz
  rwa [HR.out] at this)
 have HA := hid' A1
 have S0 : TellS w0 M K' hp bt (w.alloc (.cells #[.int .i64 0, .bool false, .int .i64 0, .int .i64 0, .int .i64 0, .string ⟨#[]⟩] 39)) := ⟨_, A1⟩
 have RT := fun W => TellS.tell (w0 := w0) (M := M) (K := K') (hp := hp) (bt := bt) W; simp only at l1; clear A A1; go_enter Tryz.func52, Tryz.ntmps52
 go_wp2_with fail
 generalize hW : w.alloc _ = w1 at *; clear hW; generalize w.heap.size = g at *
 go_region_held3 (fun W' => TellS w0 M K' hp bt W') (first | assumption | (exact TellS.drew (by assumption)) | (exact ⟨_, by assumption⟩))
  (first | (go_at_call 96; refine (HPL.out _).mono ?_; rintro r w4 ⟨rfl, X4⟩; have A4 := HA.out.pure ((Chg.refl NoB w1).drew.trans X4)) | (go_at_call 94; refine (FIN.out _ A4).mono ?_; rintro r w5 ⟨rfl, A5⟩))
 go_wp2_with fail
 go_ret; rw [HR.out]; exact ⟨rfl, LS.out _ _ A5⟩
set_option maxRecDepth 100000 in
set_option maxHeartbeats 2000000 in
theorem whole_deep0 (A : Told w0 w M K hp bt b) (hb : b.length ≤ 1000) {H : List C} (hM : (hp, H) ∈ M) (ex : Bool) (n a l : Int) (s : ByteArray) (hm : mayO ⟨9, ex, n, a, l, s⟩ = true)
 (hr : itemsH H ⟨9, ex, n, a, l, s⟩ = ([], 0)) :
 Calls Tryz.prog 52 #[ptr bt, O.val ⟨9, ex, n, a, l, s⟩, .int .i64 20] w fun r w' => r = .returned (.bool (decide ((b ++ (plainB ⟨9, ex, n, a, l, s⟩).toList).length < 1000))) ∧ Told w0 w' M K hp bt ((b ++ (plainB ⟨9, ex, n, a, l, s⟩).toList).take 1000) := by
 have hpk : plainK ⟨9, ex, n, a, l, s⟩ := by unfold plainK; simp
 have hsz := plainB_size _ hm hpk; have HP := fun w => plain_any _ hp hm hpk w; generalize plainB ⟨9, ex, n, a, l, s⟩ = T at *
 obtain ⟨R, hR⟩ : ∃ R, decide ((b ++ T.toList).length < 1000) = R := ⟨_, rfl⟩
 have HPL := hid' HP; have HR := hid' hR; clear HP hpk hm hR; have A1 := A.alloc (.cells #[.int .i64 9, .bool ex, .int .i64 n, .int .i64 a, .int .i64 l, .string s] 39); have l1 := blk_lt (A1.box _ (List.mem_cons_self ..)); have RC := fun W => TellS.cells (w0 := w0) (M := M) (K := K) (hp := hp) (bt := bt) (g := w.heap.size) (cs := #[.int .i64 9, .bool ex, .int .i64 n, .int .i64 a, .int .i64 l, .string s]) (T := 39) (fz := (0, 0)) W; have LS := hid' (fun W b => Told.lose (w0 := w0) (w := W) (M := M) (K := K) (hp := hp) (bt := bt) (b := b) (q := (w.heap.size, .cells #[.int .i64 9, .bool ex, .int .i64 n, .int .i64 a, .int .i64 l, .string s] 39))); generalize ((w.heap.size, Obj.cells #[.int .i64 9, .bool ex, .int .i64 n, .int .i64 a, .int .i64 l, .string s] 39) :: K : List (Nat × Obj)) = K' at *
 have FIN : Hid (∀ (w2 : World) (A2 : Told w0 w2 M K' hp bt b),
  Calls Tryz.prog 94 #[ptr bt, .string T] w2 fun r w' => r = .returned (.bool R) ∧ Told w0 w' M K' hp bt ((b ++ T.toList).take 1000)) := hid' (fun w2 A2 => by
  have := at_tput A2 hb T hsz
  rwa [HR.out] at this)
 have HA := hid' A1; have HIT := hid' (fun (w2 : World) (A2 : Told w0 w2 M K' hp bt b) => at_titems0 A2 hM ⟨9, ex, n, a, l, s⟩ hr)
 have S0 : TellS w0 M K' hp bt (w.alloc (.cells #[.int .i64 9, .bool ex, .int .i64 n, .int .i64 a, .int .i64 l, .string s] 39)) := ⟨_, A1⟩
 have RT := fun W => TellS.tell (w0 := w0) (M := M) (K := K') (hp := hp) (bt := bt) W; simp only at l1; clear A A1 hr; go_enter Tryz.func52, Tryz.ntmps52
 go_wp2_with fail
 generalize hW : w.alloc _ = w1 at *; clear hW; generalize w.heap.size = g at *
 go_region_held3 (fun W' => TellS w0 M K' hp bt W') (first | assumption | (exact TellS.drew (by assumption)) | (exact ⟨_, by assumption⟩))
  ((go_at_call 48; refine (HIT.out _ (HA.out.pure (Chg.refl NoB w1).drew)).mono ?_; rintro r w2 ⟨gi, cap, rfl, A3⟩))
 have S3 : TellS w0 M K' hp bt w2 := ⟨_, A3⟩
 have HA3 := hid' A3
 have l3 : g < w2.heap.size := by
  have := RC w2 S3 0; exact cell_lt' this
 clear A3 S0 l1; go_wp2_with fail
 go_region_held3 (fun W' => TellS w0 M K' hp bt W') (first | assumption | (exact TellS.drew (by assumption)) | (exact ⟨_, by assumption⟩))
  (first | (go_at_call 96; refine (HPL.out _).mono ?_; rintro r w4 ⟨rfl, X4⟩; have A4 := HA3.out.pure ((Chg.refl NoB w2).drew.trans X4)) | (go_at_call 94; refine (FIN.out _ A4).mono ?_; rintro r w5 ⟨rfl, A5⟩))
 go_wp2_with fail
 go_ret; rw [HR.out]; exact ⟨rfl, LS.out _ _ A5⟩
open Classical in
noncomputable def leafX (H : List C) (o : O) : List UInt8 := if o.kind = 7 then opX (o.n - 1).toNat else if o.kind = 9 then [45, 97, 114, 114, 97, 121, 45] else printL (wordO H o)
noncomputable def txtT (H : List C) : Nat → O → List UInt8
 | 0, o => leafX H o
 | d + 1, o => if o.kind = 9 then arrT true (txtT H d) (itemsH H o).1 else leafX H o
theorem bare_9 {o : O} (h : BareB o) : ¬ o.kind = 9 := by
 rcases h with ⟨n, rfl, -⟩ | ⟨n, rfl, -⟩ | ⟨ex, s, rfl, -⟩ | ⟨j, -, rfl⟩
 · show ¬ (3 : Int) = 9; decide
 · show ¬ (4 : Int) = 9; decide
 · show ¬ (5 : Int) = 9; decide
 · show ¬ (7 : Int) = 9; decide
theorem whole_bare (A : Told w0 w M K hp bt b) (hb : b.length ≤ 1000) (H : List C) (deep : Int) (o : O) (h : BareB o) :
 Calls Tryz.prog 52 #[ptr bt, o.val, .int .i64 deep] w fun r w' => r = .returned (.bool (decide ((b ++ leafX H o).length < 1000))) ∧ Told w0 w' M K hp bt ((b ++ leafX H o).take 1000) := by
 have hmo := h.mayO.1
 rcases h with ⟨n, rfl, -⟩ | ⟨n, rfl, h1, h2⟩ | ⟨ex, s, rfl, -⟩ | ⟨j, hj, rfl⟩
 · have h := whole_leaf A hb deep ⟨3, false, n, 0, 0, ⟨#[]⟩⟩ hmo (.inr (.inl rfl)); rw [show plainB ⟨3, false, n, 0, 0, ⟨#[]⟩⟩ = bytesB (intL n) from rfl, bytesB_lst] at h
   have e : leafX H ⟨3, false, n, 0, 0, ⟨#[]⟩⟩ = intL n := by unfold leafX; rw [if_neg (by show ¬ (3 : Int) = 7; decide), if_neg (by show ¬ (3 : Int) = 9; decide)]; rfl
   rw [e]; exact h
 · have h := whole_fix A hb deep n h1 h2; rw [bytesB_lst] at h
   have e : leafX H ⟨4, false, n, 0, 0, ⟨#[]⟩⟩ = fixL n := by unfold leafX; rw [if_neg (by show ¬ (4 : Int) = 7; decide), if_neg (by show ¬ (4 : Int) = 9; decide)]; rfl
   rw [e]; exact h
 · cases ex with
   | true =>
    have e : leafX H ⟨5, true, 0, 0, 0, s⟩ = s.toList := by unfold leafX; rw [if_neg (by show ¬ (5 : Int) = 7; decide), if_neg (by show ¬ (5 : Int) = 9; decide)]; rfl
    rw [e]; exact whole_leaf A hb deep ⟨5, true, 0, 0, 0, s⟩ hmo (.inr (.inr (.inr ⟨rfl, rfl⟩)))
   | false =>
    have e : leafX H ⟨5, false, 0, 0, 0, s⟩ = 47 :: s.toList := by unfold leafX; rw [if_neg (by show ¬ (5 : Int) = 7; decide), if_neg (by show ¬ (5 : Int) = 9; decide)]; rfl
    rw [e]; exact whole_name A hb deep 0 0 0 s hmo
 · have e : leafX H (opO ((j : Int) + 1)) = opX j := by
    unfold leafX; rw [if_pos rfl, show ((j : Int) + 1 - 1).toNat = j by omega]
   rw [e]; exact whole_op A hb deep j hj
theorem whole_tree (hM : (hp, H) ∈ M) (hH : H.length ≤ 2000) : ∀ (d' : Nat), d' ≤ 20 → ∀ (d lo hi : Nat) (o : O), TreeB H d lo o hi → ∀ (w : World) (K : List (Nat × Obj)) (b : List UInt8), Told w0 w M K hp bt b → b.length ≤ 1000 →
 Calls Tryz.prog 52 #[ptr bt, o.val, .int .i64 (20 - (d' : Int))] w fun r w' => r = .returned (.bool (decide ((b ++ txtT H d' o).length < 1000))) ∧ Told w0 w' M K hp bt ((b ++ txtT H d' o).take 1000) := by
 intro d'
 induction d' with
 | zero =>
  intro _ d lo hi o ht w K b A hb; rw [txtT]
  rcases ht.cases with ⟨h, -⟩ | ⟨s, rfl, h2, h3, rfl⟩ | ⟨d2, xs, m, rfl, rfl, h2, h3, rfl, hf⟩
  · exact whole_bare A hb H _ o h
  · have hlt := (List.getElem?_eq_some_iff.1 h2).1; have hx := bytes_str H lo s false h2 (by omega) (by omega)
    have e : leafX H ⟨8, false, lo, 0, s.size, ⟨#[]⟩⟩ = parenL s.toList := by
     unfold leafX wordO; rw [if_neg (by show ¬ (8 : Int) = 7; decide), if_neg (by show ¬ (8 : Int) = 9; decide), if_neg (by show ¬ (8 : Int) = 3; decide), if_neg (by show ¬ (8 : Int) = 4; decide), if_neg (by show ¬ (8 : Int) = 5; decide), hx]; rfl
    rw [e]; have h := whole_str A hb (20 - ((0 : Nat) : Int)) hM false lo 0 s.size ⟨#[]⟩ s 0 hx (by omega); rw [bytesB_lst] at h; exact h
  · have hlt := (List.getElem?_eq_some_iff.1 h2).1; have hit := items_arX (N := m) h2 (by omega) (by omega) _ rfl; have hmo : mayO (arX (m : Nat) (xs.length : Nat)) = true := mayO_arX _ _ (by omega) (by omega) (by omega) (by omega)
    have e : leafX H (arX (m : Nat) (xs.length : Nat)) = (plainB ⟨9, true, m, 0, xs.length, ⟨#[]⟩⟩).toList := by
     unfold leafX; rw [if_neg (by show ¬ (9 : Int) = 7; decide), if_pos rfl]; unfold plainB; rw [if_neg (by show ¬ (9 : Int) = 1; decide), if_neg (by show ¬ (9 : Int) = 3; decide), if_neg (by show ¬ (9 : Int) = 5; decide), if_neg (by show ¬ (9 : Int) = 6; decide), ByteArray.toList_eq]
    rw [e]
    by_cases h0 : xs = []
    · subst h0; exact whole_deep0 A hb hM true m 0 _ ⟨#[]⟩ hmo hit
    · exact whole_deep A hb hM true m 0 _ ⟨#[]⟩ hmo hit (List.length_pos_iff.2 h0)
 | succ d' ihd =>
  intro hd d lo hi o ht w K b A hb; rw [txtT]
  rcases ht.cases with ⟨h, -⟩ | ⟨s, rfl, h2, h3, rfl⟩ | ⟨d2, xs, m, rfl, rfl, h2, h3, rfl, hf⟩
  · rw [if_neg (bare_9 h)]; exact whole_bare A hb H _ o h
  · have hlt := (List.getElem?_eq_some_iff.1 h2).1; have hx := bytes_str H lo s false h2 (by omega) (by omega); rw [if_neg (by show ¬ (8 : Int) = 9; decide)]
    have e : leafX H ⟨8, false, lo, 0, s.size, ⟨#[]⟩⟩ = parenL s.toList := by
     unfold leafX wordO; rw [if_neg (by show ¬ (8 : Int) = 7; decide), if_neg (by show ¬ (8 : Int) = 9; decide), if_neg (by show ¬ (8 : Int) = 3; decide), if_neg (by show ¬ (8 : Int) = 4; decide), if_neg (by show ¬ (8 : Int) = 5; decide), hx]; rfl
    rw [e]; have h := whole_str A hb (20 - ((d' + 1 : Nat) : Int)) hM false lo 0 s.size ⟨#[]⟩ s 0 hx (by omega); rw [bytesB_lst] at h; exact h
  · have hlt := (List.getElem?_eq_some_iff.1 h2).1; have hit := items_arX (N := m) h2 (by omega) (by omega) _ rfl; rw [if_pos rfl, hit]
    by_cases h0 : xs = []
    · subst h0; exact whole_arr_none A hb hM _ (by omega) (by omega) m 0 _ ⟨#[]⟩ hit
    · refine whole_arr_true A hb hM _ (by omega) (by omega) m 0 _ ⟨#[]⟩ hit (List.length_pos_iff.2 h0) (by omega) (txtT H d') fun x hx w K b A hb => ?_; obtain ⟨a, b', hx⟩ := hf.all x hx; have := ihd (by omega) d2 a b' x hx w K b A hb; rw [show (20 : Int) - (d' : Int) = 20 - ((d' + 1 : Nat) : Int) + 1 by omega] at this; exact this
theorem full_tree (A : Ats w0 w M K) (hM : (hp, H) ∈ M) (hH : H.length ≤ 2000) {d lo hi : Nat} (o : O) (ht : TreeB H d lo o hi) :
 Calls Tryz.prog 18 #[ptr hp, o.val] w fun r w' => r = .returned (.string ⟨((txtT H 20 o).take 1000).toArray⟩) ∧ Ats w0 w' M K :=
 at_fullT A o _ fun w K bt B => (whole_tree (w0 := w0) (bt := bt) hM hH 20 (Nat.le_refl _) d lo hi o ht w K [] B (by simp)).mono fun _ _ h => ⟨_, h.1, h.2⟩
theorem full_nil (A : Ats w0 w M K) :
 Calls Tryz.prog 18 #[ptr hp, O.nil.val] w fun r w' => r = .returned (.string ⟨#[]⟩) ∧ Ats w0 w' M K := by
 have := at_fullT (hp := hp) A O.nil [] fun w K bt B => (whole_nil B (by simp) 0).mono fun _ _ h => ⟨_, h.1, by have := h.2; rwa [ByteArray.toList_eq] at this⟩
 exact this
end
section
section
variable (F : ByteArray → O × Int)
def hitI (x : O) : Bool := decide (x.kind = 5) && x.exec && decide ((F x.s).2 = 0) && decide ((F x.s).1.kind = 7)
def bindI (x : O) : O := if hitI F x = true then (F x.s).1 else x
def cntI (x : O) : Nat := if hitI F x = true then 1 else 0
def bindC (c : C) : C := { c with items := c.items.map (bindI F) }
def cntC (c : C) : Nat := (c.items.map (cntI F)).sum
def mapP (p : Nat → Bool) (L : List C) : List C := L.mapIdx fun i c => if p i = true then bindC F c else c
def cntAt (p : Nat → Bool) (L : List C) (i : Nat) : Nat := if p i = true then (match L[i]? with | some c => cntC F c | none => 0) else 0
def cntP (p : Nat → Bool) (L : List C) : Nat := ((List.range L.length).map (cntAt F p L)).sum
end
theorem mapP_at (F : ByteArray → O × Int) (p : Nat → Bool) (L : List C) (i : Nat) : (mapP F p L)[i]? = (L[i]?).map fun c => if p i = true then bindC F c else c := by rw [mapP, List.getElem?_mapIdx]
theorem mapP_length (F : ByteArray → O × Int) (p : Nat → Bool) (L : List C) : (mapP F p L).length = L.length := by rw [mapP, List.length_mapIdx]
theorem sum_one (h1 h2 : Nat → Nat) (m : Nat) (hm : h1 m = 0) : ∀ n, (∀ i, i < n → i ≠ m → h1 i = h2 i) → ((List.range n).map h2).sum = ((List.range n).map h1).sum + if m < n then h2 m else 0 := by
 intro n
 induction n with
 | zero => intro _; simp
 | succ n ih =>
  intro he; have ih := ih fun i hi => he i (by omega); rw [List.range_succ, List.map_append, List.map_append, List.sum_append, List.sum_append, ih]; simp only [List.map_cons, List.map_nil, List.sum_cons, List.sum_nil, Nat.add_zero]
  by_cases c : n = m
  · subst c; rw [if_neg (Nat.lt_irrefl _), if_pos (Nat.lt_succ_self _), hm]
  · have := he n (Nat.lt_succ_self _) c
    by_cases c2 : m < n
    · rw [if_pos c2, if_pos (by omega)]; omega
    · rw [if_neg c2, if_neg (by omega)]; omega
theorem sum_same (h1 h2 : Nat → Nat) (n : Nat) (h : ∀ i, i < n → h1 i = h2 i) : ((List.range n).map h1).sum = ((List.range n).map h2).sum := by
 congr 1
 exact List.map_congr_left fun i hi => h i (List.mem_range.1 hi)
theorem sum_add (h1 h2 h3 : Nat → Nat) : ∀ n, (∀ i, i < n → h3 i = h1 i + h2 i) → ((List.range n).map h3).sum = ((List.range n).map h1).sum + ((List.range n).map h2).sum := by
 intro n
 induction n with
 | zero => intro _; rfl
 | succ n ih =>
  intro he; have ih := ih fun i hi => he i (by omega); have := he n (Nat.lt_succ_self _); rw [List.range_succ, List.map_append, List.map_append, List.map_append, List.sum_append, List.sum_append, List.sum_append, ih]; simp only [List.map_cons, List.map_nil, List.sum_cons, List.sum_nil, Nat.add_zero]; omega
def BaseB (HB L : List C) : Prop := ∀ i, i < HB.length → L[i]? = HB[i]?
theorem BaseB.ex (h : BaseB HB L) (_hl : HB.length ≤ L.length) : ∃ X, L = HB ++ X := by
 refine ⟨L.drop HB.length, List.ext_getElem? fun i => ?_⟩
 by_cases c : i < HB.length
 · rw [List.getElem?_append_left c, h i c]
 · rw [List.getElem?_append_right (by omega), List.getElem?_drop, show HB.length + (i - HB.length) = i by omega]
theorem BaseB.set (h : BaseB HB L) {m : Nat} (hm : HB.length ≤ m) (c : C) : BaseB HB (L.set m c) := fun i hi => by
 rw [List.getElem?_set_ne (by omega)]; exact h i hi
theorem BaseB.map (h : BaseB HB L) (F : ByteArray → O × Int) {p : Nat → Bool} (hp : ∀ i, i < HB.length → p i = false) : BaseB HB (mapP F p L) := fun i hi => by
 rw [mapP_at, h i hi]
 cases HB[i]? with
 | none => rfl
 | some c => simp [hp i hi]
def GoodN (F : ByteArray → O × Int) : Prop := ∀ s, (F s).2 = 0 → BareB (F s).1
def FRB (F : ByteArray → O × Int) (HB : List C) (L : List C) (x v : O) (e : Int) : Prop := (∃ X, L = HB ++ X) ∧ ∃ s, s.size ≤ 100 ∧ x = exeN s ∧ v = (F s).1 ∧ e = (F s).2
theorem op_of {F : ByteArray → O × Int} (hF : GoodN F) {s : ByteArray} (h1 : (F s).2 = 0) (h2 : (F s).1.kind = 7) : ∃ i : Nat, i < 162 ∧ (F s).1 = opO ((i : Int) + 1) := by
 rcases hF s h1 with ⟨n, h, -⟩ | ⟨n, h, -⟩ | ⟨ex, t, h, -⟩ | h
 · rw [h] at h2; exact absurd h2 (by show ¬ (3 : Int) = 7; decide)
 · rw [h] at h2; exact absurd h2 (by show ¬ (4 : Int) = 7; decide)
 · rw [h] at h2; exact absurd h2 (by show ¬ (5 : Int) = 7; decide)
 · exact h
inductive ItemB (F : ByteArray → O × Int) (L : List C) (d lo hi : Nat) : O → Prop
 | idle {x : O} : x.exec = false → hitI F x = false → x.kind ≠ 9 → lo ≤ hi → (∀ i, lo ≤ i → i < hi → ∃ c, L[i]? = some c ∧ c.items = []) → ItemB F L d lo hi x
 | op {x : O} : x.exec = true → x.kind ≠ 9 → x.kind ≠ 5 → hitI F x = false → lo = hi → ItemB F L d lo hi x
 | stay {s : ByteArray} : s.size ≤ 100 → ((F s).2 ≠ 0 ∨ (F s).1.kind ≠ 7) → hitI F (exeN s) = false → lo = hi → ItemB F L d lo hi (exeN s)
 | bind {s : ByteArray} {i : Nat} : s.size ≤ 100 → i < 162 → F s = (opO ((i : Int) + 1), 0) → hitI F (exeN s) = true → lo = hi → ItemB F L d lo hi (exeN s)
 | sub {xs : List O} {m d' : Nat} : d = d' + 1 → L[m]? = some (rowC xs) → xs.length ≤ 100 → hi = m + 1 → lo ≤ m → ForB (TreeB L d') lo xs m → ItemB F L d lo hi (arX (m : Nat) (xs.length : Nat))
theorem item_of {F : ByteArray → O × Int} (hF : GoodN F) {L : List C} {d lo hi : Nat} {x : O} (h : TreeB L d lo x hi) : ItemB F L d lo hi x := by
 rcases h.cases with ⟨hb, rfl⟩ | ⟨s, rfl, h2, h3, rfl⟩ | ⟨d', xs, m, rfl, rfl, h2, h3, rfl, hf⟩
 · have hv : ∀ i, lo ≤ i → i < lo → ∃ c, L[i]? = some c ∧ c.items = [] := fun i i1 i2 => absurd i2 (by omega)
   rcases hb with ⟨n, rfl, -⟩ | ⟨n, rfl, -⟩ | ⟨ex, s, rfl, h1⟩ | ⟨i, h1, rfl⟩
   · exact .idle rfl (by simp [hitI]) (by show ¬ (3 : Int) = 9; decide) (Nat.le_refl _) hv
   · exact .idle rfl (by simp [hitI]) (by show ¬ (4 : Int) = 9; decide) (Nat.le_refl _) hv
   · cases ex with
     | false => exact .idle rfl (by simp [hitI]) (by show ¬ (5 : Int) = 9; decide) (Nat.le_refl _) hv
     | true =>
      by_cases c : (F s).2 = 0 ∧ (F s).1.kind = 7
      · obtain ⟨i, hi, e⟩ := op_of hF c.1 c.2; exact .bind h1 hi (Prod.ext e c.1) (by simp [hitI, c.1, c.2]) rfl
      · exact .stay h1 (by by_cases c1 : (F s).2 = 0; exact .inr fun c2 => c ⟨c1, c2⟩; exact .inl c1) (by
         simp only [hitI, Bool.and_eq_false_iff, decide_eq_false_iff_not]
         by_cases c1 : (F s).2 = 0
         · exact .inr fun c2 => c ⟨c1, c2⟩
         · exact .inl (.inr c1)) rfl
   · exact .op rfl (by show ¬ (7 : Int) = 9; decide) (by show ¬ (7 : Int) = 5; decide) (by simp [hitI]) rfl
 · exact .idle rfl (by simp [hitI]) (by show ¬ (8 : Int) = 9; decide) (Nat.le_succ _) fun i i1 i2 => by
    obtain rfl : i = lo := by omega
    exact ⟨_, h2, rfl⟩
 · exact .sub rfl h2 h3 rfl (hf.le (fun lo o hi h => TreeB.le h)) hf
def inI (lo hi : Nat) (i : Nat) : Bool := decide (lo ≤ i ∧ i < hi)
theorem hit_arr (F : ByteArray → O × Int) (m z : Int) : hitI F (arX m z) = false := by simp [hitI]
abbrev Wt := O × Nat × Nat
def allP (ws : List Wt) (i : Nat) : Bool := ws.any fun w => inI w.2.1 w.2.2 i
theorem allP_iff {ws : List Wt} {i : Nat} : allP ws i = true ↔ ∃ w ∈ ws, w.2.1 ≤ i ∧ i < w.2.2 := by simp [allP, inI]
theorem allP_app (ws vs : List Wt) (i : Nat) : allP (ws ++ vs) i = (allP ws i || allP vs i) := by simp [allP]
def ApartW (ws : List Wt) : Prop := ws.Pairwise fun v w => ∀ i, ¬ (v.2.1 ≤ i ∧ i < v.2.2 ∧ w.2.1 ≤ i ∧ i < w.2.2)
def sizeW (ws : List Wt) : Nat := (ws.map fun w => w.2.2 - w.2.1).sum
theorem kids_of {F : ByteArray → O × Int} (hF : GoodN F) {L : List C} {d : Nat} {lo hi : Nat} {xs : List O} (h : ForB (TreeB L d) lo xs hi) :
 ∃ ks : List Wt, ks.map (·.1) = xs.filter (fun x => decide (x.kind = 9)) ∧ (∀ k ∈ ks, TreeB L d k.2.1 k.1 k.2.2 ∧ k.1.kind = 9 ∧ lo ≤ k.2.1 ∧ k.2.2 ≤ hi) ∧ ApartW ks ∧ sizeW ks ≤ hi - lo ∧ lo ≤ hi ∧
  ∀ i, lo ≤ i → i < hi → allP ks i = false → ∃ c, L[i]? = some c ∧ c.items = [] := by
 induction h with
 | @nil lo => exact ⟨[], rfl, fun k hk => absurd hk (by simp), List.Pairwise.nil, Nat.zero_le _, Nat.le_refl _, fun i i1 i2 => absurd i2 (by omega)⟩
 | @cons lo mid hi x xs h1 h2 ih =>
  obtain ⟨ks, k1, k2, k3, k4, k5, k6⟩ := ih; have hle := TreeB.le h1
  have other : x.kind ≠ 9 → (∀ i, lo ≤ i → i < mid → ∃ c, L[i]? = some c ∧ c.items = []) → ∃ ks : List Wt, ks.map (·.1) = (x :: xs).filter (fun x => decide (x.kind = 9)) ∧ (∀ k ∈ ks, TreeB L d k.2.1 k.1 k.2.2 ∧ k.1.kind = 9 ∧ lo ≤ k.2.1 ∧ k.2.2 ≤ hi) ∧ ApartW ks ∧ sizeW ks ≤ hi - lo ∧ lo ≤ hi ∧
   ∀ i, lo ≤ i → i < hi → allP ks i = false → ∃ c, L[i]? = some c ∧ c.items = [] := fun hx hv => by
   refine ⟨ks, ?_, fun k hk => ?_, k3, by omega, by omega, fun i i1 i2 hp => ?_⟩
   · rw [List.filter_cons_of_neg (by simpa using hx), k1]
   · obtain ⟨a1, a2, a3, a4⟩ := k2 k hk; exact ⟨a1, a2, by omega, a4⟩
   · by_cases c : i < mid
     · exact hv i i1 c
     · exact k6 i (by omega) i2 hp
  cases item_of hF h1 with
  | idle _ _ h9 _ hv => exact other h9 hv
  | op _ h9 _ _ he => exact other h9 fun i i1 i2 => absurd i2 (by omega)
  | stay _ _ _ he => exact other (by show ¬ (5 : Int) = 9; decide) fun i i1 i2 => absurd i2 (by omega)
  | bind _ _ _ _ he => exact other (by show ¬ (5 : Int) = 9; decide) fun i i1 i2 => absurd i2 (by omega)
  | @sub ys m d' hd hr hy he hlm hf =>
   subst he; refine ⟨(arX (m : Nat) (ys.length : Nat), lo, m + 1) :: ks, ?_, fun k hk => ?_, ?_, ?_, by omega, fun i i1 i2 hp => ?_⟩
   · rw [List.filter_cons_of_pos (by rfl), List.map_cons, k1]
   · rcases List.mem_cons.1 hk with rfl | hk
     · exact ⟨h1, rfl, Nat.le_refl _, k5⟩
     · obtain ⟨a1, a2, a3, a4⟩ := k2 k hk; exact ⟨a1, a2, by omega, a4⟩
   · refine List.Pairwise.cons (fun k hk i => ?_) k3; obtain ⟨a1, a2, a3, a4⟩ := k2 k hk; simp only; omega
   · simp only [sizeW, List.map_cons, List.sum_cons] at k4 ⊢; omega
   · have hp1 : ¬ (lo ≤ i ∧ i < m + 1) := fun hh => by
      have : allP ((arX (m : Nat) (ys.length : Nat), lo, m + 1) :: ks) i = true := allP_iff.2 ⟨_, List.mem_cons_self .., hh⟩; rw [this] at hp; exact absurd hp (by decide)
     have hp2 : allP ks i = false := by
      cases hq : allP ks i with
      | false => rfl
      | true =>
       obtain ⟨w, hw, hh⟩ := allP_iff.1 hq; have : allP ((arX (m : Nat) (ys.length : Nat), lo, m + 1) :: ks) i = true := allP_iff.2 ⟨w, List.mem_cons_of_mem _ hw, hh⟩; rw [this] at hp; exact absurd hp (by decide)
     exact k6 i (by omega) i2 hp2
theorem setX {us : List O} (hm : m < L.length) : (L.set m (rowC us))[m]? = some (rowC us) := by rw [List.getElem?_set_self hm]
theorem inner_tree {F : ByteArray → O × Int} (hF : GoodN F) {HB L0 : List C} (hB : BaseB HB L0) (hl2 : HB.length ≤ L0.length) {m : Nat} (hm2 : HB.length ≤ m) (hm : m < L0.length) (hL9 : L0.length ≤ 2000) (N : Nat) (hN : N ≤ 1000) {L : List C} {d lo hi : Nat} (hhi : hi ≤ m) (hloc : ∀ i, lo ≤ i → i < hi → L0[i]? = L[i]?) {xs : List O} (hf : ForB (TreeB L d) lo xs hi) :
 ∀ (pre wait : List O) (n : Int) (s' : BiS), pre.length + xs.length = N → 0 ≤ n → n + xs.length ≤ 100000 → wait.length + xs.length ≤ 1000 →
  InnerR (FRB F HB) (arX (m : Nat) (N : Nat)) N [] (L0.set m (rowC (pre ++ xs.map (bindI F))), wait ++ xs.filter (fun x => decide (x.kind = 9)), n + ((xs.map (cntI F)).sum : Nat)) s' →
  InnerR (FRB F HB) (arX (m : Nat) (N : Nat)) pre.length xs (L0.set m (rowC (pre ++ xs)), wait, n) s' := by
 induction hf with
 | nil =>
  intro pre wait n s' hpn h0 h9 hw h; simp only [List.length_nil, Nat.add_zero] at hpn
  simpa [hpn] using h
 | @cons lo mid hi x xs h1 h2 ih =>
  intro pre wait n s' hpn h0 h9 hw h; have hle1 := TreeB.le h1; have hle2 := h2.le (fun lo o hi h => TreeB.le h); have ih := ih hhi (fun i i1 i2 => hloc i (by omega) i2); simp only [List.length_cons] at hpn h9 hw
  have hpl : (pre ++ [bindI F x]).length = pre.length + 1 := by simp
  have e1 : pre ++ bindI F x :: xs = (pre ++ [bindI F x]) ++ xs := by simp
  have go : ∀ (wait' : List O) (c : Nat), c = cntI F x → wait' ++ xs.filter (fun x => decide (x.kind = 9)) = wait ++ (x :: xs).filter (fun x => decide (x.kind = 9)) → wait'.length + xs.length ≤ 1000 →
   InnerR (FRB F HB) (arX (m : Nat) (N : Nat)) (pre.length + 1) xs (L0.set m (rowC (pre ++ bindI F x :: xs)), wait', n + (c : Nat)) s' := fun wait' c hc hwt hw2 => by
   have hc1 : c ≤ 1 := by rw [hc]; unfold cntI; split <;> omega
   have := ih (pre ++ [bindI F x]) wait' (n + (c : Nat)) s' (by rw [hpl]; omega) (by omega) (by omega) hw2 (by
    rw [hwt]
    have e2 : pre ++ [bindI F x] ++ xs.map (bindI F) = pre ++ (x :: xs).map (bindI F) := by simp
    have e3 : n + ((c : Nat) : Int) + (((xs.map (cntI F)).sum : Nat) : Int) = n + ((((x :: xs).map (cntI F)).sum : Nat) : Int) := by
     simp only [List.map_cons, List.sum_cons, hc]; omega
    rw [e2, e3]
    exact h)
   rw [hpl, ← e1] at this; exact this
  cases item_of hF h1 with
  | idle hx hh h9' _ _ =>
   have hb : bindI F x = x := by unfold bindI; rw [hh]; rfl
   have := go wait 0 (by unfold cntI; rw [hh]; rfl) (by rw [List.filter_cons_of_neg (by simpa using h9')]) (by omega); rw [hb] at this; exact .skip hx (by simpa using this)
  | op hx h9' h5 hh _ =>
   have hb : bindI F x = x := by unfold bindI; rw [hh]; rfl
   have := go wait 0 (by unfold cntI; rw [hh]; rfl) (by rw [List.filter_cons_of_neg (by simpa using h9')]) (by omega); rw [hb] at this; exact .other hx h9' h5 (by simpa using this)
  | @stay s hs hor hh _ =>
   have hb : bindI F (exeN s) = exeN s := by unfold bindI; rw [hh]; rfl
   have := go wait 0 (by unfold cntI; rw [hh]; rfl) (by rw [List.filter_cons_of_neg (by simp)]) (by omega); rw [hb] at this; exact .stay (v := (F s).1) (e := (F s).2) rfl rfl ⟨(hB.set hm2 _).ex (by rw [List.length_set]; exact hl2), s, hs, rfl, rfl, rfl⟩ hor (by simpa using this)
  | @bind s i hs hi' he hh _ =>
   have hb : bindI F (exeN s) = opO ((i : Int) + 1) := by unfold bindI; rw [hh, if_pos rfl]; show (F s).1 = _; rw [he]
   have := go wait 1 (by unfold cntI; rw [hh]; rfl) (by rw [List.filter_cons_of_neg (by simp)]) (by omega); rw [hb] at this; refine .bind (v := opO ((i : Int) + 1)) (L' := L0.set m (rowC (pre ++ opO ((i : Int) + 1) :: xs))) rfl rfl ⟨(hB.set hm2 _).ex (by rw [List.length_set]; exact hl2), s, hs, rfl, by rw [he], by rw [he]⟩ rfl rfl ?_ h0 (by omega) this; refine (set_aX (N := m) (is := pre ++ exeN s :: xs) (setX hm) (by omega) (by simp; omega) (N : Int) (by simp; omega) pre.length (by simp) (opO ((i : Int) + 1)) (may_op _ _ (by omega) (by omega))).trans ?_; rw [List.set_set, set_mid]
  | @sub ys mm d' hd hr hy he hlm hf' =>
   have hb : bindI F (arX (mm : Nat) (ys.length : Nat)) = arX (mm : Nat) (ys.length : Nat) := by unfold bindI; rw [hit_arr]; rfl
   have := go (wait ++ [arX (mm : Nat) (ys.length : Nat)]) 0 (by unfold cntI; rw [hit_arr]; rfl) (by rw [List.filter_cons_of_pos (by rfl), List.append_assoc]; rfl) (by simp; omega); rw [hb] at this
   have hmm : L0[mm]? = some (rowC ys) := by rw [hloc mm (by omega) (by omega)]; exact hr
   refine .push rfl rfl (may_arX (N := mm) (is := ys) (by rw [List.getElem?_set_ne (by omega)]; exact hmm) (by omega) (by omega) _ rfl) (by omega) (by simpa using this)
theorem TreeB.arr9 {a : O} (h : TreeB L d lo a hi) (h9 : a.kind = 9) : ∃ d' xs m, d = d' + 1 ∧ a = arX (m : Nat) (xs.length : Nat) ∧ L[m]? = some (rowC xs) ∧ xs.length ≤ 100 ∧ hi = m + 1 ∧ lo ≤ m ∧ ForB (TreeB L d') lo xs m := by
 rcases h.cases with ⟨h, -⟩ | ⟨s, rfl, -⟩ | ⟨d', xs, m, h1, h2, h3, h4, h5, h6⟩
 · rcases h with ⟨n, rfl, -⟩ | ⟨n, rfl, -⟩ | ⟨ex, s, rfl, -⟩ | ⟨i, -, rfl⟩
   · exact absurd h9 (by show ¬ (3 : Int) = 9; decide)
   · exact absurd h9 (by show ¬ (4 : Int) = 9; decide)
   · exact absurd h9 (by show ¬ (5 : Int) = 9; decide)
   · exact absurd h9 (by show ¬ (7 : Int) = 9; decide)
 · exact absurd h9 (by show ¬ (8 : Int) = 9; decide)
 · exact ⟨d', xs, m, h1, h2, h3, h4, h5, h6.le (fun lo o hi h => TreeB.le h), h6⟩
theorem cnt_le (F : ByteArray → O × Int) : ∀ xs : List O, (xs.map (cntI F)).sum ≤ xs.length
 | [] => Nat.le_refl _
 | x :: xs => by
  have := cnt_le F xs
  have h1 : cntI F x ≤ 1 := by unfold cntI; split <;> omega
  simp only [List.map_cons, List.sum_cons, List.length_cons]; omega
theorem size_ge {ws : List Wt} (h : ∀ w ∈ ws, w.2.1 < w.2.2) : ws.length ≤ sizeW ws := by
 induction ws with
 | nil => exact Nat.le_refl _
 | cons w ws ih =>
  have h1 := h w (List.mem_cons_self ..); have h2 := ih fun x hx => h x (List.mem_cons_of_mem _ hx); simp only [sizeW, List.map_cons, List.sum_cons, List.length_cons] at h2 ⊢; omega
theorem size_app (ws vs : List Wt) : sizeW (ws ++ vs) = sizeW ws + sizeW vs := by simp [sizeW]
theorem mapP_nil (F : ByteArray → O × Int) (L : List C) : mapP F (allP []) L = L := by
 refine List.ext_getElem? fun i => ?_; rw [mapP_at]
 cases L[i]? <;> rfl
theorem cntP_nil (F : ByteArray → O × Int) (L : List C) : cntP F (allP []) L = 0 := by
 have := sum_add (cntAt F (allP []) L) (cntAt F (allP []) L) (cntAt F (allP []) L) L.length (fun i _ => rfl); unfold cntP; omega
theorem outer_tree {F : ByteArray → O × Int} (hF : GoodN F) {HB : List C} : ∀ (f : Nat) (L : List C) (ws : List Wt) (seen : List (Int × Int × Int)) (n : Nat), BaseB HB L → HB.length ≤ L.length → L.length ≤ 2000 → sizeW ws ≤ f → f ≤ 800 →
 (∀ w ∈ ws, (∃ d, TreeB L d w.2.1 w.1 w.2.2) ∧ w.1.kind = 9 ∧ HB.length ≤ w.2.1 ∧ w.2.2 ≤ L.length) → ApartW ws → (∀ q ∈ seen, ∀ i : Nat, q.1 = (i : Int) → allP ws i = false) → n + 100 * f ≤ 98000 →
 OuterR (FRB F HB) f L (ws.map (·.1)) seen n (mapP F (allP ws) L, ((n + cntP F (allP ws) L : Nat) : Int)) := by
 intro f
 induction f with
 | zero =>
  intro L ws seen n hB hl2 hL9 hsz hwl hws hap hseen hn
  have hge := size_ge (ws := ws) fun w hw => by
   obtain ⟨⟨d, ht⟩, h9, -, -⟩ := hws w hw; obtain ⟨d', xs, m, -, -, -, -, h5, h6, -⟩ := ht.arr9 h9; omega
  obtain rfl : ws = [] := List.eq_nil_of_length_eq_zero (by omega); rw [mapP_nil, cntP_nil]; exact .done
 | succ f ih =>
  intro L ws seen n hB hl2 hL9 hsz hwl hws hap hseen hn
  rcases List.eq_nil_or_concat ws with rfl | ⟨W, w, rfl⟩
  · rw [mapP_nil, cntP_nil]; exact .done
  · rw [List.concat_eq_append] at *
    have hge := size_ge (ws := W) fun w hw => by
     obtain ⟨⟨d, ht⟩, h9, -, -⟩ := hws w (List.mem_append_left _ hw); obtain ⟨d', xs, m, -, -, -, -, h5, h6, -⟩ := ht.arr9 h9; omega
    obtain ⟨a, lo, hi⟩ := w; obtain ⟨⟨d, ht⟩, h9, hlo2, hhi⟩ := hws _ (List.mem_append_right _ (List.mem_cons_self ..)); simp only at ht h9 hlo2 hhi; obtain ⟨d', xs, m, rfl, rfl, hr, hx, rfl, hlm, hf⟩ := ht.arr9 h9; obtain ⟨ks, k1, k2, k3, k4, -, k6⟩ := kids_of hF hf; rw [size_app] at hsz
    have hsz1 : sizeW [((arX (m : Nat) (xs.length : Nat)), lo, m + 1)] = m + 1 - lo := by simp [sizeW]
    have hWap : ∀ v ∈ W, ∀ i, ¬ (v.2.1 ≤ i ∧ i < v.2.2 ∧ lo ≤ i ∧ i < m + 1) := fun v hv i => (List.pairwise_append.1 hap).2.2 v hv _ (List.mem_cons_self ..) i; have hcl := cnt_le F xs
    have hin : ∀ i, allP (W ++ [((arX (m : Nat) (xs.length : Nat)), lo, m + 1)]) i = (allP W i || inI lo (m + 1) i) := fun i => by rw [allP_app]; simp [allP]
    have hWm : allP W m = false := by
     cases hq : allP W m with
     | false => rfl
     | true =>
      obtain ⟨v, hv, h1, h2⟩ := allP_iff.1 hq; exact absurd ⟨h1, h2, hlm, Nat.lt_succ_self _⟩ (hWap v hv m)
    have hks : ∀ i, allP ks i = true → lo ≤ i ∧ i < m := fun i hq => by
     obtain ⟨v, hv, h1, h2⟩ := allP_iff.1 hq; obtain ⟨-, -, g3, g4⟩ := k2 v hv; omega
    have hkm : allP ks m = false := by
     cases hq : allP ks m with
     | false => rfl
     | true => have := hks m hq; omega
    have hset : L.set m (rowC xs) = L := by
     refine List.ext_getElem? fun i => ?_
     by_cases c : m = i
     · subst c; rw [List.getElem?_set_self (by omega), hr]
     · rw [List.getElem?_set_ne c]
    have hl1 : (L.set m (rowC (xs.map (bindI F)))).length = L.length := List.length_set; have hat : ∀ i, i ≠ m → (L.set m (rowC (xs.map (bindI F))))[i]? = L[i]? := fun i hi => List.getElem?_set_ne (fun e => hi e.symm); have hloc : ∀ {d a b : Nat} {x : O}, TreeB L d a x b → ¬ (a ≤ m ∧ m < b) → TreeB (L.set m (rowC (xs.map (bindI F)))) d a x b := fun h hnm => h.local fun i i1 i2 => hat i (fun e => hnm (by omega)); have hin0 := inner_tree hF hB hl2 (m := m) (by omega) (by omega) hL9 xs.length (by omega) (Nat.le_refl m) (fun i _ _ => rfl) hf [] (W.map (·.1)) (n : Int) _ (by simp) (by omega) (by omega) (by rw [List.length_map]; omega) .nil; rw [List.nil_append, List.nil_append, hset] at hin0
    have hrest := ih (L.set m (rowC (xs.map (bindI F)))) (W ++ ks) (seen ++ [partO (arX (m : Nat) (xs.length : Nat))]) (n + (xs.map (cntI F)).sum) (hB.set (by omega) _) (by rw [hl1]; exact hl2) (by rw [hl1]; exact hL9) (by rw [size_app]; omega) (by omega) (fun v hv => by
     rw [hl1]
     rcases List.mem_append.1 hv with hv | hv
     · obtain ⟨⟨dd, g1⟩, g2, g3, g4⟩ := hws v (List.mem_append_left _ hv); exact ⟨⟨dd, hloc g1 fun hh => hWap v hv m ⟨hh.1, hh.2, hlm, Nat.lt_succ_self _⟩⟩, g2, g3, g4⟩
     · obtain ⟨g1, g2, g3, g4⟩ := k2 v hv
       exact ⟨⟨d', hloc g1 fun hh => by omega⟩, g2, by omega, by omega⟩) (by
     refine List.pairwise_append.2 ⟨(List.pairwise_append.1 hap).1, k3, fun v hv u hu i => ?_⟩; obtain ⟨-, -, g3, g4⟩ := k2 u hu; intro hh
     exact hWap v hv i ⟨hh.1, hh.2.1, by omega, by omega⟩) (fun q hq i hi => by
     rw [allP_app]
     rcases List.mem_append.1 hq with hq | hq
     · have := hseen q hq i hi; rw [hin, Bool.or_eq_false_iff] at this; rw [this.1, Bool.false_or]
       cases hk : allP ks i with
       | false => rfl
       | true =>
        have h1 := hks i hk
        have h2 : inI lo (m + 1) i = true := by simp [inI]; omega
        rw [this.2] at h2; exact absurd h2 (by decide)
     · simp only [List.mem_cons, List.not_mem_nil, or_false] at hq; subst hq
       obtain rfl : m = i := by have hi' : (m : Int) = (i : Int) := hi; omega
       rw [hWm, hkm]; rfl) (by omega)
    have hmap : mapP F (allP (W ++ ks)) (L.set m (rowC (xs.map (bindI F)))) = mapP F (allP (W ++ [((arX (m : Nat) (xs.length : Nat)), lo, m + 1)])) L := by
     refine List.ext_getElem? fun i => ?_; rw [mapP_at, mapP_at, hin, allP_app]
     by_cases c : i = m
     · subst c; rw [List.getElem?_set_self (by omega), hr, hWm, hkm]
       have : inI lo (i + 1) i = true := by simp [inI]; omega
       rw [this]; rfl
     · rw [hat i c]
       by_cases cW : allP W i = true
       · rw [cW]; rfl
       · have cW : allP W i = false := by simpa using cW
         rw [cW, Bool.false_or, Bool.false_or]
         by_cases ck : allP ks i = true
         · have h1 := hks i ck
           have h2 : inI lo (m + 1) i = true := by simp [inI]; omega
           rw [ck, h2]
         · have ck : allP ks i = false := by simpa using ck
           rw [ck]
           by_cases ci : inI lo (m + 1) i = true
           · have h1 : lo ≤ i ∧ i < m := by simp [inI] at ci; omega
             obtain ⟨cc, e1, e2⟩ := k6 i h1.1 h1.2 ck; rw [ci, e1]; simp only [Option.map_some, if_true, Bool.false_eq_true, if_false]
             congr 1
             obtain ⟨a1, a2, a3, a4, a5⟩ := cc; simp only at e2; subst e2; rfl
           · have ci : inI lo (m + 1) i = false := by simpa using ci
             rw [ci]
    have hcnt : cntP F (allP (W ++ [((arX (m : Nat) (xs.length : Nat)), lo, m + 1)])) L = cntP F (allP (W ++ ks)) (L.set m (rowC (xs.map (bindI F)))) + (xs.map (cntI F)).sum := by
     unfold cntP
     rw [hl1, sum_one (cntAt F (allP (W ++ ks)) (L.set m (rowC (xs.map (bindI F))))) (cntAt F (allP (W ++ [((arX (m : Nat) (xs.length : Nat)), lo, m + 1)])) L) m (by
      unfold cntAt; rw [allP_app, hWm, hkm]
      rfl) L.length (fun i hi c => by
      unfold cntAt; rw [hin, allP_app, hat i c]
      by_cases cW : allP W i = true
      · rw [cW]; rfl
      · have cW : allP W i = false := by simpa using cW
        rw [cW, Bool.false_or, Bool.false_or]
        by_cases ck : allP ks i = true
        · have h1 := hks i ck
          have h2 : inI lo (m + 1) i = true := by simp [inI]; omega
          rw [ck, h2]
        · have ck : allP ks i = false := by simpa using ck
          rw [ck]
          by_cases ci : inI lo (m + 1) i = true
          · have h1 : lo ≤ i ∧ i < m := by simp [inI] at ci; omega
            obtain ⟨cc, e1, e2⟩ := k6 i h1.1 h1.2 ck; rw [ci, e1]; simp only [if_true, Bool.false_eq_true, if_false, cntC, e2]; rfl
          · have ci : inI lo (m + 1) i = false := by simpa using ci
            rw [ci]), if_pos (by omega)]
     congr 1
     unfold cntAt
     have : inI lo (m + 1) m = true := by simp [inI]; omega
     rw [hin, this, Bool.or_true, if_pos rfl, hr]; rfl
    rw [hmap] at hrest; rw [hcnt]; rw [show n + (xs.map (cntI F)).sum + cntP F (allP (W ++ ks)) (L.set m (rowC (xs.map (bindI F)))) = n + (cntP F (allP (W ++ ks)) (L.set m (rowC (xs.map (bindI F)))) + (xs.map (cntI F)).sum) by omega] at hrest; rw [List.map_append, k1] at hrest; rw [List.map_append]
    refine OuterR.fresh (a := arX (m : Nat) (xs.length : Nat)) (e := 0) ⟨wf_small m (by omega) (by omega), wf_small 0 (by decide) (by decide), wf_small (xs.length : Nat) (by omega) (by omega)⟩ (fun hq => ?_) (by rw [List.length_map]; omega) (items_arX (N := m) hr (by omega) (by omega) _ rfl) (by omega) hin0 (by
     rw [Int.natCast_add] at hrest
     exact hrest)
    have := hseen _ hq m rfl; rw [hin, Bool.or_eq_false_iff] at this
    have h2 : inI lo (m + 1) m = true := by simp [inI]; omega
    rw [this.2] at h2; exact absurd h2 (by decide)
end
theorem k22_pl : ∀ j (h : j < k22.size), PlainC k22 j h ∧ (wordF (k22.toList.drop j)).1 = 0 := by
 have e : ∀ j : Fin 10, k22[j.1]'j.2 ≠ 40 ∧ k22[j.1]'j.2 ≠ 60 ∧ k22[j.1]'j.2 ≠ 62 ∧ k22[j.1]'j.2 ≠ 41 ∧ (k22[j.1]'j.2 = 47 → j.1 = 8) ∧ (readF (([123, 49, 32, 97, 100, 100, 125, 32, 47, 98].drop j.1).take (regL ([123, 49, 32, 97, 100, 100, 125, 32, 47, 98].drop j.1)))).2.2 ≠ 2 ∧ (wordF ([123, 49, 32, 97, 100, 100, 125, 32, 47, 98].drop j.1)).1 = 0 := by decide +kernel
 intro j h; obtain ⟨h1, h2, h3, h4, h5, h6, h7⟩ := e ⟨j, h⟩; unfold PlainC; rw [k22_lst]; refine ⟨⟨h1, h2, h3, h4, fun h => ?_, h6⟩, h7⟩; obtain rfl : j = 8 := h5 h; exact ⟨by decide, by decide⟩
theorem k22_pr : ∀ a, a ≤ k22.size → (nextF (k22.toList.drop a)).1 = 0 ∧ ((tokAt a (k22.toList.drop a)).kind ≠ 0 → 1 ≤ (nextF (k22.toList.drop a)).2.2.1 + (nextF (k22.toList.drop a)).2.2.2 ∧ (nextF (k22.toList.drop a)).2.2.1 + (nextF (k22.toList.drop a)).2.2.2 ≤ k22.size - a) := by
 have e : ∀ a : Fin 11, (nextF ([123, 49, 32, 97, 100, 100, 125, 32, 47, 98].drop a.1)).1 = 0 ∧ ((tokAt a.1 ([123, 49, 32, 97, 100, 100, 125, 32, 47, 98].drop a.1)).kind ≠ 0 → 1 ≤ (nextF ([123, 49, 32, 97, 100, 100, 125, 32, 47, 98].drop a.1)).2.2.1 + (nextF ([123, 49, 32, 97, 100, 100, 125, 32, 47, 98].drop a.1)).2.2.2 ∧ (nextF ([123, 49, 32, 97, 100, 100, 125, 32, 47, 98].drop a.1)).2.2.1 + (nextF ([123, 49, 32, 97, 100, 100, 125, 32, 47, 98].drop a.1)).2.2.2 ≤ 10 - a.1) := by decide +kernel
 intro a h; rw [k22_lst]; exact e ⟨a, Nat.lt_succ_of_le h⟩
set_option maxRecDepth 100000 in
theorem words22_pl (A : Ats w0 w M K) :
 Calls Tryz.prog 22 #[.string k22] w fun r w' => ∃ v R, r = .returned v ∧ RowG 41 4 R v k22t.length (toksV k22t) ∧ Ats w0 w' M (R ++ K) := by
 have HA := hid' (all_pl k22 (by decide) k22_pl k22_pr); rw [k22_lst, k22_all] at HA; generalize k22 = s at *; go_enter Tryz.func22, Tryz.ntmps22
 go_wp2_with fail
 refine (HA.out w).mono ?_; rintro r w1 ⟨v, rfl, X, hown, -⟩; obtain ⟨R, hR, A1⟩ := A.ofOwnsB X hown; go_wp2_with fail
 go_ret; exact ⟨v, R, rfl, hR, A1⟩
theorem t22_tree : TreeB H22 1 2 (arX 2 2) 3 := by
 refine TreeB.arr (m := 2) (xs := [int1, nmAdd]) h22_at (by decide) ?_; exact .cons (TreeB.leaf (.inl ⟨.inl ⟨1, rfl, by decide, by decide⟩, rfl⟩) 0) (.cons (TreeB.leaf (.inl ⟨.inr (.inr (.inl ⟨true, bAdd, rfl, by decide⟩)), rfl⟩) 0) .nil)
theorem t22_txt : txtT H22 20 (arX 2 2) = [123, 49, 32, 97, 100, 100, 125] := by
 have e1 : leafX H22 int1 = [49] := by
  unfold leafX; rw [if_neg (by show ¬ (3 : Int) = 7; decide), if_neg (by show ¬ (3 : Int) = 9; decide)]; exact intL_1
 have e2 : leafX H22 nmAdd = [97, 100, 100] := by
  unfold leafX; rw [if_neg (by show ¬ (5 : Int) = 7; decide), if_neg (by show ¬ (5 : Int) = 9; decide)]; show bAdd.toList = _; rw [ByteArray.toList_eq]
 have f1 : txtT H22 19 int1 = [49] := by rw [txtT, if_neg (by show ¬ (3 : Int) = 9; decide), e1]
 have f2 : txtT H22 19 nmAdd = [97, 100, 100] := by rw [txtT, if_neg (by show ¬ (5 : Int) = 9; decide), e2]
 rw [txtT, if_pos rfl, s22_i]; simp only [arrT, jn, List.length_cons, List.length_nil, List.getD_cons_zero, List.getD_cons_succ]; rw [f1, f2]; rfl
set_option maxRecDepth 100000 in
set_option maxHeartbeats 2000000 in
theorem known22_pl (w : World) : Calls Tryz.prog 4 #[] w fun e w' => e = .returned (.bool true) ∧ Chg NoB w w' := by
 have HW := hid' (fun (W : World) (M : List (Nat × List C)) (K : List (Nat × Obj)) (A : Ats w W M K) => words22_pl A); have HO := hid' (fun (W : World) (hp cp : Nat) (v : Value) (R : List (Nat × Obj)) (hR : RowG 41 4 R v k22t.length (toksV k22t)) (A : Ats w W [(hp, hQ sysQ)] (R ++ [])) => objs_any (cp := cp) A v k22t (fun W' M' E A' => toksG hR A') k22_ok (by decide) noF (no5 k22_no5) k22_objs)
 have HF := hid' (fun (W : World) (hp : Nat) (K : List (Nat × Obj)) (A : Ats w W [(hp, H22)] K) => (show Calls Tryz.prog 18 #[ptr hp, (arX 2 2).val] W fun r w' => r = .returned (.string k22s) ∧ Ats w w' [(hp, H22)] K by
  have := full_tree A m0 (by rw [List.length_append, sysQ_len8]; decide) (arX 2 2) t22_tree; rw [t22_txt] at this
  exact this))
 go_enter Tryz.func4, Tryz.ntmps4
 go_wp2_with fail
 refine (at_hnew (Ats.start (Chg.refl NoB w))).mono ?_; rintro e w1 ⟨hp, rfl, A0⟩; go_wp2_with fail
 refine (new22 A0).mono ?_; rintro e w2 ⟨cp, rfl, A1⟩; clear A0; go_wp2_with fail
 refine (HW.out _ _ _ A1).mono ?_; rintro e w3 ⟨v, R, rfl, hR, A2⟩; clear A1; have HP := hid' (HO.out w3 hp cp v R hR A2); clear hR A2 HW HO; go_wp2_with fail
 refine HP.out.mono ?_; rintro e w4 ⟨v2, R2, rfl, hR2, A3⟩; clear HP; obtain ⟨g, cap, cur, rfl, rfl, hc⟩ := hR2.shape (by decide); obtain ⟨a2, c2, he2, hcap⟩ := rowG_slice hR2; simp only [Value.slice.injEq] at he2
 have hcap' : (2 : Nat) ≤ cap := by rw [he2.2.2]; exact hcap
 have q0 := hc 0 (by decide); have q1 := hc 1 (by decide); have q2 := hc 2 (by decide); have q3 := hc 3 (by decide); have q4 := hc 4 (by decide); have q5 := hc 5 (by decide); have p0 := hc 6 (by decide); have p1 := hc 7 (by decide); have p2 := hc 8 (by decide); have p3 := hc 9 (by decide); have p4 := hc 10 (by decide); have p5 := hc 11 (by decide); simp [O.cells] at q0 q1 q2 q3 q4 q5 p0 p1 p2 p3 p4 p5
 clear hc hR2 he2 hcap; simp only [List.length_cons, List.length_nil] at *
 (try clear Rr); (try clear yr); (try clear Zr)
 have Rr := cells_of (A3.box _ m0); have yr := blk_lt (A3.box _ m0)
 (try simp only at Rr yr)
 have qb : eqO ⟨5, false, 0, 0, 0, ⟨#[98]⟩⟩ ⟨5, false, 0, 0, 0, ⟨#[98]⟩⟩ = true := eqO_self _; have HG := hid' (HF.out w4 hp _ A3); clear A3 HF; go_wp2_with fail
 refine HG.out.mono ?_; rintro e w5 ⟨rfl, A4⟩; clear HG Rr yr
 (try clear Rr); (try clear yr); (try clear Zr)
 have Rr := cells_of (A4.box _ m0); have yr := blk_lt (A4.box _ m0)
 (try simp only at Rr yr)
 go_wp2_with fail
 go_ret; exact ⟨rfl, A4.chg⟩
end Go.Proofs.YtoogmimbmgdflaaGreat
