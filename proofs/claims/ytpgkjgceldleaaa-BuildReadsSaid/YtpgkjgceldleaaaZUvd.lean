/- Walks: say's (*teller).whole at an empty procedure, and at whatever Program makes; say.Full of it. -/
import Derived.Test.YtpgkjgceldleaaaZReadsa
import Derived.Test.YtpgkjgceldleaaaZSayc
import Derived.Test.YtpgkjgceldleaaaZBuildc
namespace Go.Proofs.Ytpgkjgceldleaaa
open Go.RowKit

theorem at_titems0 {w0 w : World} {M : List (Nat × List C)} {K : List (Nat × Obj)} {hp bt : Nat} {b : List UInt8} (A : Told w0 w M K hp bt b) {H : List C} (hm : (hp, H) ∈ M) (o : O) (hr : itemsH H o = ([], 0)) :
    Calls Try.prog 48 #[ptr hp, o.val] w fun r w' => ∃ a c, r = .returned (.tuple #[.slice a 0 c, .int .i64 0]) ∧ Told w0 w' M K hp bt b := by
  obtain ⟨v, R, h, A⟩ := A
  obtain ⟨hs, rfl, rfl, HR⟩ := A.rep hm
  refine (items_any hs o w HR).mono ?_
  rintro r w' ⟨u, rfl, X, own⟩
  rw [hr] at own ⊢
  obtain ⟨R2, hR, A'⟩ := A.ofOwnsB X own
  obtain ⟨a, c, rfl, -⟩ := rowG_slice hR
  exact ⟨a, c, rfl, v, R, h, A'.keep (List.sublist_append_right _ _)⟩
set_option maxRecDepth 100000 in
set_option maxHeartbeats 4000000 in
theorem whole_arr_none {w0 w : World} {M : List (Nat × List C)} {K : List (Nat × Obj)} {hp bt : Nat} {b : List UInt8} (A : Told w0 w M K hp bt b) (hb : b.length ≤ 1000) {H : List C} (hM : (hp, H) ∈ M) (deep : Int) (d0 : 0 ≤ deep) (d1 : deep < 20) (n a l : Int) (s : ByteArray)
    (hr : itemsH H ⟨9, true, n, a, l, s⟩ = ([], 0)) :
    Calls Try.prog 39 #[ptr bt, O.val ⟨9, true, n, a, l, s⟩, .int .i64 deep] w fun r w' => r = .returned (.bool (decide ((b ++ [123, 125]).length < 1000))) ∧ Told w0 w' M K hp bt ((b ++ [123, 125]).take 1000) := by
  have hU0 : b ++ [123, 125] = b ++ [123] ++ [125] := by simp
  obtain ⟨U, hU⟩ : ∃ U : List UInt8, U = b ++ [123] := ⟨_, rfl⟩
  obtain ⟨F, hF⟩ : ∃ F : List UInt8, F = U ++ [125] := ⟨_, rfl⟩
  rw [hU0, ← hU, ← hF]
  have HF := hid' hF
  have HU0 := hid' hU
  clear hU0 hU hF
  have q1 : ((⟨#[123]⟩ : ByteArray)).toList = [123] := by rw [ByteArray.toList_eq]
  have q2 : ((⟨#[125]⟩ : ByteArray)).toList = [125] := by rw [ByteArray.toList_eq]
  have A1 := A.alloc (.cells #[.int .i64 9, .bool true, .int .i64 n, .int .i64 a, .int .i64 l, .string s] 36)
  have l1 := blk_lt (A1.box _ (List.mem_cons_self ..))
  have RC := fun W => TellS.cells (w0 := w0) (M := M) (K := K) (hp := hp) (bt := bt) (g := w.heap.size) (cs := #[.int .i64 9, .bool true, .int .i64 n, .int .i64 a, .int .i64 l, .string s]) (T := 36) (fz := (0, 0)) W
  have LS := hid' (fun W b => Told.lose (w0 := w0) (w := W) (M := M) (K := K) (hp := hp) (bt := bt) (b := b) (q := (w.heap.size, .cells #[.int .i64 9, .bool true, .int .i64 n, .int .i64 a, .int .i64 l, .string s] 36)))
  generalize ((w.heap.size, Obj.cells #[.int .i64 9, .bool true, .int .i64 n, .int .i64 a, .int .i64 l, .string s] 36) :: K : List (Nat × Obj)) = K' at *
  have HA := hid' A1
  have HIT := hid' (fun (w2 : World) (A2 : Told w0 w2 M K' hp bt b) => at_titems0 A2 hM ⟨9, true, n, a, l, s⟩ hr)
  have S0 : TellS w0 M K' hp bt (w.alloc (.cells #[.int .i64 9, .bool true, .int .i64 n, .int .i64 a, .int .i64 l, .string s] 36)) := ⟨_, A1⟩
  have RT := fun W => TellS.tell (w0 := w0) (M := M) (K := K') (hp := hp) (bt := bt) W
  simp only at l1
  clear A A1 hr
  go_enter Try.func39, Try.ntmps39
  go_wp2_with fail
  generalize hW : w.alloc _ = w1 at *
  clear hW
  generalize w.heap.size = g at *
  go_region_held3 (fun W' => TellS w0 M K' hp bt W') (first | assumption | (exact TellS.drew (by assumption)) | (exact ⟨_, by assumption⟩))
    ((go_at_call 48; refine (HIT.out _ (HA.out.pure (Chg.refl NoB w1).drew)).mono ?_; rintro r w2 ⟨ga, cap, rfl, A2⟩))
  have S3 : TellS w0 M K' hp bt w2 := ⟨_, A2⟩
  have R3 := RC w2 S3
  have l3 : g < w2.heap.size := cell_lt' (R3 0)
  have P1 := hid' (at_tput A2 hb ⟨#[123]⟩ (by decide))
  rw [q1, ← HU0.out] at P1
  clear A2 S0 l1 S3 RT
  go_wp2_with fail
  refine P1.out.mono ?_
  rintro r w3 ⟨rfl, A4⟩
  have HA4 := hid' A4
  clear A4 R3 l3 RC P1
  by_cases ck : U.length < 1000
  rotate_left
  · have e1 : decide (U.length < 1000) = false := decide_eq_false ck
    have e2 : F.take 1000 = U.take 1000 ∧ decide (F.length < 1000) = false := by
      rw [HF.out]
      exact cut_pre _ _ ck
    have HE2 := hid' e2
    rw [e1]
    clear e1 e2 ck
    go_wp2_with fail
    go_loopw [12, 13] (fun kv iv wr => iv = .int .i64 0 ∧ kv = .bool false ∧ wr = w3) (fun _ iv _ => 0)
    case atStart => exact ⟨rfl, rfl, rfl⟩
    case round =>
      obtain ⟨rfl, rfl, rfl⟩ := hrel
      go_wp2_with fail
      go_ret
      rw [HE2.out.1, HE2.out.2]
      exact ⟨rfl, LS.out _ _ HA4.out⟩
  · have e1 : decide (U.length < 1000) = true := decide_eq_true ck
    have e3 : U.take 1000 = U := List.take_of_length_le (by omega)
    have A5 := HA4.out
    rw [e3] at A5
    have P2 := at_tput A5 (by omega) ⟨#[125]⟩ (by decide)
    rw [q2, ← HF.out] at P2
    obtain ⟨R, hR⟩ : ∃ R, decide (F.length < 1000) = R := ⟨_, rfl⟩
    rw [hR] at P2
    have HR := hid' hR
    have HP2 := hid' P2
    rw [e1]
    clear e1 e3 A5 hR P2 ck HA4
    go_wp2_with fail
    go_loopw [12, 13] (fun kv iv wr => iv = .int .i64 0 ∧ kv = .bool true ∧ wr = w3) (fun _ iv _ => 0)
    case atStart => exact ⟨rfl, rfl, rfl⟩
    case round =>
      obtain ⟨rfl, rfl, rfl⟩ := hrel
      go_wp2_with fail
      refine HP2.out.mono ?_
      rintro r w4 ⟨rfl, A6⟩
      go_wp2_with fail
      go_ret
      rw [HR.out]
      exact ⟨rfl, LS.out _ _ A6⟩
theorem whole_leafG {w0 w : World} {M : List (Nat × List C)} {K : List (Nat × Obj)} {hp bt : Nat} {b : List UInt8} (A : Told w0 w M K hp bt b) (hb : b.length ≤ 1000) {H : List C} (hM : (hp, H) ∈ M) (deep : Int) (o : O) (h : leafG H o) :
    Calls Try.prog 39 #[ptr bt, o.val, .int .i64 deep] w fun r w' => r = .returned (.bool (decide ((b ++ printL (wordO H o)).length < 1000))) ∧ Told w0 w' M K hp bt ((b ++ printL (wordO H o)).take 1000) := by
  have hmay := h.may
  obtain ⟨h1, h2⟩ := h
  have hmo : mayO o = true := by unfold mayH at hmay; rw [Bool.and_eq_true] at hmay; exact hmay.1
  obtain ⟨k, ex, n, a, l, s⟩ := o
  rcases h2 with h | h | h | h
  · simp only [O.mk.injEq] at h
    obtain ⟨rfl, rfl, -, rfl, rfl, rfl⟩ := h
    have h := whole_leaf A hb deep ⟨3, false, n, 0, 0, ⟨#[]⟩⟩ hmo (.inr (.inl rfl))
    rw [show plainB ⟨3, false, n, 0, 0, ⟨#[]⟩⟩ = bytesB (intL n) from rfl, bytesB_lst] at h
    exact h
  · simp only [O.mk.injEq] at h
    obtain ⟨rfl, rfl, -, rfl, rfl, rfl⟩ := h
    unfold wordO mayT at h1
    simp only [if_true, Bool.and_eq_true, decide_eq_true_eq, show ¬ (4 : Int) = 3 by decide, if_false, show ¬ (2 : Int) = 1 by decide] at h1
    have h := whole_fix A hb deep n h1.1.2 h1.2
    rw [bytesB_lst] at h
    exact h
  · simp only [O.mk.injEq] at h
    obtain ⟨rfl, -, rfl, rfl, rfl, -⟩ := h
    cases ex with
    | true => exact whole_leaf A hb deep ⟨5, true, 0, 0, 0, s⟩ hmo (.inr (.inr (.inr ⟨rfl, rfl⟩)))
    | false => exact whole_name A hb deep 0 0 0 s hmo
  · obtain ⟨h3, h4⟩ := h
    simp only at h3
    subst h3
    obtain ⟨x, hx⟩ : ∃ x, bytesH H ⟨8, ex, n, a, l, s⟩ = (x, 0) := ⟨_, Prod.ext rfl h4⟩
    have e : wordO H ⟨8, ex, n, a, l, s⟩ = ⟨6, 0, x, 0⟩ := by unfold wordO; rw [if_neg (by show ¬ (8 : Int) = 3; decide), if_neg (by show ¬ (8 : Int) = 4; decide), if_neg (by show ¬ (8 : Int) = 5; decide), hx]
    rw [e] at h1 ⊢
    have hs : x.size ≤ 4000 := by
      unfold mayT at h1
      simpa using h1
    have h := whole_str A hb deep hM ex n a l s x 0 hx (by omega)
    rw [bytesB_lst] at h
    exact h
theorem whole_good {w0 : World} {M : List (Nat × List C)} {hp bt : Nat} {H : List C} (hM : (hp, H) ∈ M) : ∀ (d : Nat), d ≤ 20 → ∀ (o : O), GoodR H d o → ∀ (w : World) (K : List (Nat × Obj)) (b : List UInt8), Told w0 w M K hp bt b → b.length ≤ 1000 →
    Calls Try.prog 39 #[ptr bt, o.val, .int .i64 (20 - (d : Int))] w fun r w' => r = .returned (.bool (decide ((b ++ textR H d o).length < 1000))) ∧ Told w0 w' M K hp bt ((b ++ textR H d o).take 1000)
  | 0, _, o, hg, w, K, b, A, hb => by rw [textR]; exact whole_leafG A hb hM _ o hg
  | d + 1, hd, o, hg, w, K, b, A, hb => by
    rw [GoodR] at hg
    rw [textR]
    by_cases c : o.kind = 9
    · rw [if_pos c] at hg
      rw [if_pos c]
      obtain ⟨h1, h2, h3, h4⟩ := hg
      have ih := fun x hx => whole_good (w0 := w0) (bt := bt) hM d (by omega) x (h4 x hx)
      rw [show (20 : Int) - (d : Int) = 20 - ((d + 1 : Nat) : Int) + 1 by omega] at ih
      obtain ⟨k, ex, n, a, l, s⟩ := o
      simp only at c h1
      subst c h1
      by_cases c0 : (itemsH H ⟨9, true, n, a, l, s⟩).1 = []
      · rw [c0]
        exact whole_arr_none A hb hM _ (by omega) (by omega) n a l s (Prod.ext c0 h2)
      · exact whole_arr_true A hb hM _ (by omega) (by omega) n a l s (Prod.ext rfl h2) (List.length_pos_iff.2 c0) h3 (textR H d) ih
    · rw [if_neg c] at hg
      rw [if_neg c]
      exact whole_leafG A hb hM _ o hg
theorem full_good {w0 w : World} {M : List (Nat × List C)} {K : List (Nat × Obj)} {hp : Nat} {H : List C} (A : Ats w0 w M K) (hM : (hp, H) ∈ M) (o : O) (hg : GoodR H 20 o) (hl : (textR H 20 o).length ≤ 1000) :
    Calls Try.prog 13 #[ptr hp, o.val] w fun r w' => r = .returned (.string (bytesB (textR H 20 o))) ∧ Ats w0 w' M K := by
  refine full_T A o _ hl fun w K bt B => ?_
  have := whole_good (w0 := w0) (bt := bt) hM 20 (Nat.le_refl _) o hg w K [] B (by simp)
  exact this
end Go.Proofs.Ytpgkjgceldleaaa
