/- Walks: say.Full at a number, a name, a string. -/
import Derived.Test.YtpgkjgceldleaaaZSayc
import Derived.Test.YtpgkjgceldleaaaZFxw
import Derived.Test.YtpgkjgceldleaaaZTokd
import Derived.Test.YtpgkjgceldleaaaZQpr
namespace Go.Proofs.Ytpgkjgceldleaaa
open Go.RowKit

theorem fix_len (x : Int) (x0 : -1073741823 ≤ x) (x1 : x ≤ 1073741823) : (fixL x).length ≤ 30 := by
  obtain ⟨k1, k2⟩ := kF_rng x.natAbs
  have hp : (10 : Int) ^ kF x.natAbs ≤ 100000 ∧ 1 ≤ (10 : Int) ^ kF x.natAbs := by
    have : kF x.natAbs = 1 ∨ kF x.natAbs = 2 ∨ kF x.natAbs = 3 ∨ kF x.natAbs = 4 ∨ kF x.natAbs = 5 := by omega
    rcases this with h | h | h | h | h <;> rw [h] <;> decide
  unfold fixL sizeL
  generalize kF (x.natAbs : Int) = k at *
  have hn : 0 ≤ nearF k x.natAbs ∧ nearF k x.natAbs ≤ 107374182300001 := by
    unfold nearF
    have h1 : 0 ≤ (x.natAbs : Int) * 10 ^ k := Int.mul_nonneg (by omega) (by omega)
    have h2 : (x.natAbs : Int) * 10 ^ k ≤ 1073741823 * 100000 := Int.mul_le_mul (by omega) hp.1 (by omega) (by decide)
    have := nearI_le ((x.natAbs : Int) * 10 ^ k) 65536 h1 (by decide)
    omega
  generalize nearF k x.natAbs = n at *
  have hq : 0 ≤ n / 10 ^ k ∧ n / 10 ^ k ≤ n := ⟨Int.ediv_nonneg hn.1 (by omega), Int.ediv_le_self _ hn.1⟩
  have hr : 0 ≤ n % 10 ^ k ∧ n % 10 ^ k < 10 ^ k := ⟨Int.emod_nonneg _ (by omega), Int.emod_lt_of_pos _ (by omega)⟩
  have l1 := decL_len (n / 10 ^ k).toNat 14 (by omega)
  have l2 : (padL k (decL (n % 10 ^ k).toNat)).length ≤ 10 := by
    have l3 := decL_len (n % 10 ^ k).toNat 5 (by omega)
    simp [padL]
    omega
  simp only [List.length_append, List.length_cons]
  split <;> simp <;> omega
theorem fix_short (x : Int) (x0 : -1073741823 ≤ x) (x1 : x ≤ 1073741823) : (bytesB (fixL x)).size ≤ 1000000 := by
  have := fix_len x x0 x1
  show (fixL x).length ≤ 1000000
  omega
set_option maxRecDepth 100000 in
set_option maxHeartbeats 400000 in
theorem whole_fix {w0 w : World} {M : List (Nat × List C)} {K : List (Nat × Obj)} {hp bt : Nat} {b : List UInt8} (A : Told w0 w M K hp bt b) (hb : b.length ≤ 1000) (deep : Int) (x : Int) (x0 : -1073741823 ≤ x) (x1 : x ≤ 1073741823) :
    Calls Try.prog 39 #[ptr bt, (fO x).val, .int .i64 deep] w fun r w' => r = .returned (.bool (decide ((b ++ (bytesB (fixL x)).toList).length < 1000))) ∧ Told w0 w' M K hp bt ((b ++ (bytesB (fixL x)).toList).take 1000) := by
  have hsz : (bytesB (fixL x)).size ≤ 1000000 := fix_short x x0 x1
  have HP : ∀ w, Calls Try.prog 67 #[ptr hp, (fO x).val] w fun r w' => r = .returned (.string (bytesB (fixL x))) ∧ Chg NoB w w' := fun w => plain_fix x hp x0 x1 w
  generalize bytesB (fixL x) = T at *
  obtain ⟨R, hR⟩ : ∃ R, decide ((b ++ T.toList).length < 1000) = R := ⟨_, rfl⟩
  have HPL := hid' HP
  have HR := hid' hR
  clear HP hR x0 x1
  have A1 := A.alloc (.cells #[.int .i64 4, .bool false, .int .i64 x, .int .i64 0, .int .i64 0, .string ⟨#[]⟩] 36)
  have l1 := blk_lt (A1.box _ (List.mem_cons_self ..))
  have RC := fun W => TellS.cells (w0 := w0) (M := M) (K := K) (hp := hp) (bt := bt) (g := w.heap.size) (cs := #[.int .i64 4, .bool false, .int .i64 x, .int .i64 0, .int .i64 0, .string ⟨#[]⟩]) (T := 36) (fz := (0, 0)) W
  have LS := hid' (fun W b => Told.lose (w0 := w0) (w := W) (M := M) (K := K) (hp := hp) (bt := bt) (b := b) (q := (w.heap.size, .cells #[.int .i64 4, .bool false, .int .i64 x, .int .i64 0, .int .i64 0, .string ⟨#[]⟩] 36)))
  generalize ((w.heap.size, Obj.cells #[.int .i64 4, .bool false, .int .i64 x, .int .i64 0, .int .i64 0, .string ⟨#[]⟩] 36) :: K : List (Nat × Obj)) = K' at *
  have FIN : Hid (∀ (w2 : World) (A2 : Told w0 w2 M K' hp bt b),
      Calls Try.prog 65 #[ptr bt, .string T] w2 fun r w' => r = .returned (.bool R) ∧ Told w0 w' M K' hp bt ((b ++ T.toList).take 1000)) := hid' (fun w2 A2 => by
    have := at_tput A2 hb T hsz
    rwa [HR.out] at this)
  have HA := hid' A1
  have S0 : TellS w0 M K' hp bt (w.alloc (.cells #[.int .i64 4, .bool false, .int .i64 x, .int .i64 0, .int .i64 0, .string ⟨#[]⟩] 36)) := ⟨_, A1⟩
  have RT := fun W => TellS.tell (w0 := w0) (M := M) (K := K') (hp := hp) (bt := bt) W
  simp only at l1
  clear A A1
  go_enter Try.func39, Try.ntmps39
  go_wp2_with fail
  generalize hW : w.alloc _ = w1 at *
  clear hW
  generalize w.heap.size = g at *
  go_region_held3 (fun W' => TellS w0 M K' hp bt W') (first | assumption | (exact TellS.drew (by assumption)) | (exact ⟨_, by assumption⟩))
    (first | (go_at_call 67; refine (HPL.out _).mono ?_; rintro r w4 ⟨rfl, X4⟩; have A4 := HA.out.pure ((Chg.refl NoB w1).drew.trans X4)) | (go_at_call 65; refine (FIN.out _ A4).mono ?_; rintro r w5 ⟨rfl, A5⟩))
  go_wp2_with fail
  go_ret
  rw [HR.out]
  exact ⟨rfl, LS.out _ _ A5⟩
theorem Told.ask {w0 w : World} {M : List (Nat × List C)} {K : List (Nat × Obj)} {hp bt : Nat} {b : List UInt8} {f : Nat} {args : Array Value} {r : Value} (A : Told w0 w M K hp bt b)
    (h : ∀ K', Ats w0 w M K' → Calls Try.prog f args w fun e w' => e = .returned r ∧ Ats w0 w' M K') :
    Calls Try.prog f args w fun e w' => e = .returned r ∧ Told w0 w' M K hp bt b := by
  obtain ⟨v, R, hR, A⟩ := A
  exact (h _ A).mono fun e w' ⟨h1, h2⟩ => ⟨h1, v, R, hR, h2⟩
set_option maxRecDepth 100000 in
theorem plain_str {w0 w : World} {hp : Nat} {H : List C} {M : List (Nat × List C)} {K : List (Nat × Obj)} (A : Ats w0 w M K) (hm : (hp, H) ∈ M) (o : O) (hk : o.kind = 8) (b : ByteArray) (e : Int) (hb : bytesH H o = (b, e)) :
    Calls Try.prog 67 #[ptr hp, o.val] w fun r w' => r = .returned (.string b) ∧ Ats w0 w' M K := by
  have HB := hid' (fun (w' : World) (K' : List (Nat × Obj)) (A' : Ats w0 w' M K') => at_bytes A' o hb hm)
  obtain ⟨kk, kx, kn, kp, kl, ks⟩ := o
  simp only at hk
  subst hk
  have A1 := A.alloc (.cells #[.int .i64 8, .bool kx, .int .i64 kn, .int .i64 kp, .int .i64 kl, .string ks] 36)
  clear A hb hm
  go_enter Try.func67, Try.ntmps67
  go_wp2_with fail
  refine (HB.out _ _ A1).mono ?_
  rintro r w2 ⟨rfl, A2⟩
  go_wp2_with fail
  go_ret
  exact ⟨rfl, A2.keep (List.sublist_cons_self _ _)⟩
set_option maxRecDepth 100000 in
set_option maxHeartbeats 400000 in
theorem whole_str {w0 w : World} {M : List (Nat × List C)} {K : List (Nat × Obj)} {hp bt : Nat} {b : List UInt8} (A : Told w0 w M K hp bt b) (hb : b.length ≤ 1000) (deep : Int) {H : List C} (hM : (hp, H) ∈ M) (ex : Bool) (n a l : Int) (s x : ByteArray) (e : Int) (hx : bytesH H ⟨8, ex, n, a, l, s⟩ = (x, e)) (hsx : x.size ≤ 100000) :
    Calls Try.prog 39 #[ptr bt, O.val ⟨8, ex, n, a, l, s⟩, .int .i64 deep] w fun r w' => r = .returned (.bool (decide ((b ++ (bytesB (parenL x.toList)).toList).length < 1000))) ∧ Told w0 w' M K hp bt ((b ++ (bytesB (parenL x.toList)).toList).take 1000) := by
  have hsz : (bytesB (parenL x.toList)).size ≤ 1000000 := by
    have := quote_len x.toList
    rw [size_lst] at this
    show (parenL x.toList).length ≤ 1000000
    simp [parenL]
    omega
  have HP := hid' (fun (w' : World) (K' : List (Nat × Obj)) (A' : Told w0 w' M K' hp bt b) => A'.ask (r := .string x) (fun K2 A2 => plain_str A2 hM ⟨8, ex, n, a, l, s⟩ rfl x e hx))
  have HQ := hid' (fun w' => parenP_any x hsx w')
  generalize bytesB (parenL x.toList) = T at *
  obtain ⟨R, hR⟩ : ∃ R, decide ((b ++ T.toList).length < 1000) = R := ⟨_, rfl⟩
  have HR := hid' hR
  clear hR hx hsx hM
  have A1 := A.alloc (.cells #[.int .i64 8, .bool ex, .int .i64 n, .int .i64 a, .int .i64 l, .string s] 36)
  have l1 := blk_lt (A1.box _ (List.mem_cons_self ..))
  have RC := fun W => TellS.cells (w0 := w0) (M := M) (K := K) (hp := hp) (bt := bt) (g := w.heap.size) (cs := #[.int .i64 8, .bool ex, .int .i64 n, .int .i64 a, .int .i64 l, .string s]) (T := 36) (fz := (0, 0)) W
  have LS := hid' (fun W b => Told.lose (w0 := w0) (w := W) (M := M) (K := K) (hp := hp) (bt := bt) (b := b) (q := (w.heap.size, .cells #[.int .i64 8, .bool ex, .int .i64 n, .int .i64 a, .int .i64 l, .string s] 36)))
  generalize ((w.heap.size, Obj.cells #[.int .i64 8, .bool ex, .int .i64 n, .int .i64 a, .int .i64 l, .string s] 36) :: K : List (Nat × Obj)) = K' at *
  have FIN : Hid (∀ (w2 : World) (A2 : Told w0 w2 M K' hp bt b),
      Calls Try.prog 65 #[ptr bt, .string T] w2 fun r w' => r = .returned (.bool R) ∧ Told w0 w' M K' hp bt ((b ++ T.toList).take 1000)) := hid' (fun w2 A2 => by
    have := at_tput A2 hb T hsz
    rwa [HR.out] at this)
  have HA := hid' A1
  have S0 : TellS w0 M K' hp bt (w.alloc (.cells #[.int .i64 8, .bool ex, .int .i64 n, .int .i64 a, .int .i64 l, .string s] 36)) := ⟨_, A1⟩
  have RT := fun W => TellS.tell (w0 := w0) (M := M) (K := K') (hp := hp) (bt := bt) W
  simp only at l1
  clear A A1
  go_enter Try.func39, Try.ntmps39
  go_wp2_with fail
  generalize hW : w.alloc _ = w1 at *
  clear hW
  generalize w.heap.size = g at *
  go_region_held3 (fun W' => TellS w0 M K' hp bt W') (first | assumption | (exact TellS.drew (by assumption)) | (exact ⟨_, by assumption⟩))
    (first | (go_at_call 67; refine (HP.out _ _ (by first | exact HA.out | exact HA.out.pure (Chg.refl NoB w1).drew)).mono ?_; rintro r w4 ⟨rfl, A4⟩) | (go_at_call 66; refine (HQ.out _).mono ?_; rintro r w5 ⟨rfl, X5⟩; have A6 := A4.pure X5) | (go_at_call 65; refine (FIN.out _ A6).mono ?_; rintro r w5 ⟨rfl, A5⟩))
  go_wp2_with fail
  go_ret
  rw [HR.out]
  exact ⟨rfl, LS.out _ _ A5⟩
set_option maxRecDepth 100000 in
set_option maxHeartbeats 400000 in
theorem at_fullT {w0 w : World} {M : List (Nat × List C)} {K : List (Nat × Obj)} {hp : Nat} (A : Ats w0 w M K) (o : O) (T : List UInt8) (HW : ∀ w K bt, Told w0 w M K hp bt [] → Calls Try.prog 39 #[ptr bt, o.val, .int .i64 0] w fun r w' => ∃ bv, r = .returned (.bool bv) ∧ Told w0 w' M K hp bt (T.take 1000)) :
    Calls Try.prog 13 #[ptr hp, o.val] w fun r w' => r = .returned (.string ⟨(T.take 1000).toArray⟩) ∧ Ats w0 w' M K := by
  obtain ⟨k, ex, n, a, l, s⟩ := o
  have A1 := A.alloc (.cells #[.int .i64 k, .bool ex, .int .i64 n, .int .i64 a, .int .i64 l, .string s] 36)
  have A2 := A1.alloc (.cells #[ptr hp, .slice none 0 0] 83)
  have T0 : Told w0 ((w.alloc (.cells #[.int .i64 k, .bool ex, .int .i64 n, .int .i64 a, .int .i64 l, .string s] 36)).alloc (.cells #[ptr hp, .slice none 0 0] 83)) M ((w.heap.size, .cells #[.int .i64 k, .bool ex, .int .i64 n, .int .i64 a, .int .i64 l, .string s] 36) :: K) hp (w.heap.size + 1) [] :=
    ⟨.slice none 0 0, [], .inl ⟨rfl, rfl, rfl, rfl⟩, by have h := A2; rw [show (w.alloc (.cells #[.int .i64 k, .bool ex, .int .i64 n, .int .i64 a, .int .i64 l, .string s] 36)).heap.size = w.heap.size + 1 by simp] at h; exact h⟩
  have R2 := cells_of (T0.box _ (List.mem_cons_self ..))
  have l2 := blk_lt (T0.box _ (List.mem_cons_self ..))
  have P := HW _ _ _ T0
  have HP := hid' P
  simp only at R2 l2
  clear A A1 A2 HW T0 P
  go_enter Try.func13, Try.ntmps13
  go_wp2_with fail
  refine HP.out.mono ?_
  rintro r w3 ⟨bv, rfl, A3⟩
  obtain ⟨v, R, hR, A4⟩ := A3
  have hv := own_strF (Ats.ownsG (A4.perm (List.perm_middle (l₁ := R) (l₂ := (w.heap.size, .cells #[.int .i64 k, .bool ex, .int .i64 n, .int .i64 a, .int .i64 l, .string s] 36) :: K) (a := (w.heap.size + 1, tlBox hp v))).symm) hR)
  have R4 := cells_of (A4.box _ (List.mem_cons_self ..))
  have l4 := blk_lt (A4.box _ (List.mem_cons_self ..))
  simp only at R4 l4
  have HA := hid' A4
  clear A4 hR
  go_wp2_with fail
  go_ret
  refine ⟨rfl, HA.out.keep ?_⟩
  exact ((List.sublist_cons_self _ K).trans (List.sublist_append_right R _)).trans (List.sublist_cons_self _ _)
end Go.Proofs.Ytpgkjgceldleaaa
