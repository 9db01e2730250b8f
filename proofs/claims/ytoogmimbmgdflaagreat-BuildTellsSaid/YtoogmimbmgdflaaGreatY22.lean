/- Parts of the proof: Whf, Uva, Rf6, Ra7. -/
import Derived.Test.YtoogmimbmgdflaaGreatY11
import Derived.Test.YtoogmimbmgdflaaGreatY16
namespace Go.Proofs.YtoogmimbmgdflaaGreat
open Go.RowKit
variable {w w0 : World} {M : List (Nat × List C)} {K : List (Nat × Obj)} {bt hp : Nat} {b : List UInt8}
theorem fix_len (x : Int) (x0 : -1073741823 ≤ x) (x1 : x ≤ 1073741823) : (fixL x).length ≤ 30 := by
 obtain ⟨k1, k2⟩ := kF_rng x.natAbs
 have hp : (10 : Int) ^ kF x.natAbs ≤ 100000 ∧ 1 ≤ (10 : Int) ^ kF x.natAbs := by
  have : kF x.natAbs = 1 ∨ kF x.natAbs = 2 ∨ kF x.natAbs = 3 ∨ kF x.natAbs = 4 ∨ kF x.natAbs = 5 := by omega
  rcases this with h | h | h | h | h <;> rw [h] <;> decide
 unfold fixL sizeL; generalize kF (x.natAbs : Int) = k at *
 have hn : 0 ≤ nearF k x.natAbs ∧ nearF k x.natAbs ≤ 107374182300001 := by
  unfold nearF; have h1 : 0 ≤ (x.natAbs : Int) * 10 ^ k := Int.mul_nonneg (by omega) (by omega); have h2 : (x.natAbs : Int) * 10 ^ k ≤ 1073741823 * 100000 := Int.mul_le_mul (by omega) hp.1 (by omega) (by decide); have := nearI_le ((x.natAbs : Int) * 10 ^ k) 65536 h1 (by decide); omega
 generalize nearF k x.natAbs = n at *
 have hq : 0 ≤ n / 10 ^ k ∧ n / 10 ^ k ≤ n := ⟨Int.ediv_nonneg hn.1 (by omega), Int.ediv_le_self _ hn.1⟩
 have hr : 0 ≤ n % 10 ^ k ∧ n % 10 ^ k < 10 ^ k := ⟨Int.emod_nonneg _ (by omega), Int.emod_lt_of_pos _ (by omega)⟩
 have l1 := decL_len (n / 10 ^ k).toNat 14 (by omega)
 have l2 : (padL k (decL (n % 10 ^ k).toNat)).length ≤ 10 := by
  have l3 := decL_len (n % 10 ^ k).toNat 5 (by omega); simp [padL]
  omega
 simp only [List.length_append, List.length_cons]
 split <;> simp <;> omega
theorem fix_short (x : Int) (x0 : -1073741823 ≤ x) (x1 : x ≤ 1073741823) : (bytesB (fixL x)).size ≤ 1000000 := by
 have := fix_len x x0 x1; show (fixL x).length ≤ 1000000; omega
set_option maxRecDepth 100000 in
set_option maxHeartbeats 400000 in
theorem whole_fix (A : Told w0 w M K hp bt b) (hb : b.length ≤ 1000) (deep : Int) (x : Int) (x0 : -1073741823 ≤ x) (x1 : x ≤ 1073741823) :
 Calls Tryz.prog 52 #[ptr bt, (fO x).val, .int .i64 deep] w fun r w' => r = .returned (.bool (decide ((b ++ (bytesB (fixL x)).toList).length < 1000))) ∧ Told w0 w' M K hp bt ((b ++ (bytesB (fixL x)).toList).take 1000) := by
 have hsz : (bytesB (fixL x)).size ≤ 1000000 := fix_short x x0 x1; have HP : ∀ w, Calls Tryz.prog 96 #[ptr hp, (fO x).val] w fun r w' => r = .returned (.string (bytesB (fixL x))) ∧ Chg NoB w w' := fun w => plain_fix x hp x0 x1 w; generalize bytesB (fixL x) = T at *
 obtain ⟨R, hR⟩ : ∃ R, decide ((b ++ T.toList).length < 1000) = R := ⟨_, rfl⟩
 have HPL := hid' HP; have HR := hid' hR; clear HP hR x0 x1; have A1 := A.alloc (.cells #[.int .i64 4, .bool false, .int .i64 x, .int .i64 0, .int .i64 0, .string ⟨#[]⟩] 39); have l1 := blk_lt (A1.box _ (List.mem_cons_self ..)); have RC := fun W => TellS.cells (w0 := w0) (M := M) (K := K) (hp := hp) (bt := bt) (g := w.heap.size) (cs := #[.int .i64 4, .bool false, .int .i64 x, .int .i64 0, .int .i64 0, .string ⟨#[]⟩]) (T := 39) (fz := (0, 0)) W; have LS := hid' (fun W b => Told.lose (w0 := w0) (w := W) (M := M) (K := K) (hp := hp) (bt := bt) (b := b) (q := (w.heap.size, .cells #[.int .i64 4, .bool false, .int .i64 x, .int .i64 0, .int .i64 0, .string ⟨#[]⟩] 39))); generalize ((w.heap.size, Obj.cells #[.int .i64 4, .bool false, .int .i64 x, .int .i64 0, .int .i64 0, .string ⟨#[]⟩] 39) :: K : List (Nat × Obj)) = K' at *
 have FIN : Hid (∀ (w2 : World) (A2 : Told w0 w2 M K' hp bt b),
  Calls Tryz.prog 94 #[ptr bt, .string T] w2 fun r w' => r = .returned (.bool R) ∧ Told w0 w' M K' hp bt ((b ++ T.toList).take 1000)) := hid' (fun w2 A2 => by
  have := at_tput A2 hb T hsz
  rwa [HR.out] at this)
 have HA := hid' A1
 have S0 : TellS w0 M K' hp bt (w.alloc (.cells #[.int .i64 4, .bool false, .int .i64 x, .int .i64 0, .int .i64 0, .string ⟨#[]⟩] 39)) := ⟨_, A1⟩
 have RT := fun W => TellS.tell (w0 := w0) (M := M) (K := K') (hp := hp) (bt := bt) W; simp only at l1; clear A A1; go_enter Tryz.func52, Tryz.ntmps52
 go_wp2_with fail
 generalize hW : w.alloc _ = w1 at *; clear hW; generalize w.heap.size = g at *
 go_region_held3 (fun W' => TellS w0 M K' hp bt W') (first | assumption | (exact TellS.drew (by assumption)) | (exact ⟨_, by assumption⟩))
  (first | (go_at_call 96; refine (HPL.out _).mono ?_; rintro r w4 ⟨rfl, X4⟩; have A4 := HA.out.pure ((Chg.refl NoB w1).drew.trans X4)) | (go_at_call 94; refine (FIN.out _ A4).mono ?_; rintro r w5 ⟨rfl, A5⟩))
 go_wp2_with fail
 go_ret; rw [HR.out]; exact ⟨rfl, LS.out _ _ A5⟩
theorem Told.ask {f : Nat} {args : Array Value} {r : Value} (A : Told w0 w M K hp bt b)
 (h : ∀ K', Ats w0 w M K' → Calls Tryz.prog f args w fun e w' => e = .returned r ∧ Ats w0 w' M K') :
 Calls Tryz.prog f args w fun e w' => e = .returned r ∧ Told w0 w' M K hp bt b := by
 obtain ⟨v, R, hR, A⟩ := A
 exact (h _ A).mono fun e w' ⟨h1, h2⟩ => ⟨h1, v, R, hR, h2⟩
set_option maxRecDepth 100000 in
theorem plain_str {H : List C} (A : Ats w0 w M K) (hm : (hp, H) ∈ M) (o : O) (hk : o.kind = 8) (b : ByteArray) (e : Int) (hb : bytesH H o = (b, e)) :
 Calls Tryz.prog 96 #[ptr hp, o.val] w fun r w' => r = .returned (.string b) ∧ Ats w0 w' M K := by
 have HB := hid' (fun (w' : World) (K' : List (Nat × Obj)) (A' : Ats w0 w' M K') => at_bytes A' o hb hm); obtain ⟨kk, kx, kn, kp, kl, ks⟩ := o; simp only at hk; subst hk; have A1 := A.alloc (.cells #[.int .i64 8, .bool kx, .int .i64 kn, .int .i64 kp, .int .i64 kl, .string ks] 39); clear A hb hm; go_enter Tryz.func96, Tryz.ntmps96
 go_wp2_with fail
 refine (HB.out _ _ A1).mono ?_; rintro r w2 ⟨rfl, A2⟩; go_wp2_with fail
 go_ret; exact ⟨rfl, A2.keep (List.sublist_cons_self _ _)⟩
set_option maxRecDepth 100000 in
set_option maxHeartbeats 400000 in
theorem whole_str (A : Told w0 w M K hp bt b) (hb : b.length ≤ 1000) (deep : Int) {H : List C} (hM : (hp, H) ∈ M) (ex : Bool) (n a l : Int) (s x : ByteArray) (e : Int) (hx : bytesH H ⟨8, ex, n, a, l, s⟩ = (x, e)) (hsx : x.size ≤ 100000) :
 Calls Tryz.prog 52 #[ptr bt, O.val ⟨8, ex, n, a, l, s⟩, .int .i64 deep] w fun r w' => r = .returned (.bool (decide ((b ++ (bytesB (parenL x.toList)).toList).length < 1000))) ∧ Told w0 w' M K hp bt ((b ++ (bytesB (parenL x.toList)).toList).take 1000) := by
 have hsz : (bytesB (parenL x.toList)).size ≤ 1000000 := by
  have := quote_len x.toList; rw [size_lst] at this; show (parenL x.toList).length ≤ 1000000; simp [parenL]
  omega
 have HP := hid' (fun (w' : World) (K' : List (Nat × Obj)) (A' : Told w0 w' M K' hp bt b) => A'.ask (r := .string x) (fun K2 A2 => plain_str A2 hM ⟨8, ex, n, a, l, s⟩ rfl x e hx)); have HQ := hid' (fun w' => parenP_any x hsx w'); generalize bytesB (parenL x.toList) = T at *
 obtain ⟨R, hR⟩ : ∃ R, decide ((b ++ T.toList).length < 1000) = R := ⟨_, rfl⟩
 have HR := hid' hR; clear hR hx hsx hM; have A1 := A.alloc (.cells #[.int .i64 8, .bool ex, .int .i64 n, .int .i64 a, .int .i64 l, .string s] 39); have l1 := blk_lt (A1.box _ (List.mem_cons_self ..)); have RC := fun W => TellS.cells (w0 := w0) (M := M) (K := K) (hp := hp) (bt := bt) (g := w.heap.size) (cs := #[.int .i64 8, .bool ex, .int .i64 n, .int .i64 a, .int .i64 l, .string s]) (T := 39) (fz := (0, 0)) W; have LS := hid' (fun W b => Told.lose (w0 := w0) (w := W) (M := M) (K := K) (hp := hp) (bt := bt) (b := b) (q := (w.heap.size, .cells #[.int .i64 8, .bool ex, .int .i64 n, .int .i64 a, .int .i64 l, .string s] 39))); generalize ((w.heap.size, Obj.cells #[.int .i64 8, .bool ex, .int .i64 n, .int .i64 a, .int .i64 l, .string s] 39) :: K : List (Nat × Obj)) = K' at *
 have FIN : Hid (∀ (w2 : World) (A2 : Told w0 w2 M K' hp bt b),
  Calls Tryz.prog 94 #[ptr bt, .string T] w2 fun r w' => r = .returned (.bool R) ∧ Told w0 w' M K' hp bt ((b ++ T.toList).take 1000)) := hid' (fun w2 A2 => by
  have := at_tput A2 hb T hsz
  rwa [HR.out] at this)
 have HA := hid' A1
 have S0 : TellS w0 M K' hp bt (w.alloc (.cells #[.int .i64 8, .bool ex, .int .i64 n, .int .i64 a, .int .i64 l, .string s] 39)) := ⟨_, A1⟩
 have RT := fun W => TellS.tell (w0 := w0) (M := M) (K := K') (hp := hp) (bt := bt) W; simp only at l1; clear A A1; go_enter Tryz.func52, Tryz.ntmps52
 go_wp2_with fail
 generalize hW : w.alloc _ = w1 at *; clear hW; generalize w.heap.size = g at *
 go_region_held3 (fun W' => TellS w0 M K' hp bt W') (first | assumption | (exact TellS.drew (by assumption)) | (exact ⟨_, by assumption⟩))
  (first | (go_at_call 96; refine (HP.out _ _ (by first | exact HA.out | exact HA.out.pure (Chg.refl NoB w1).drew)).mono ?_; rintro r w4 ⟨rfl, A4⟩) | (go_at_call 95; refine (HQ.out _).mono ?_; rintro r w5 ⟨rfl, X5⟩; have A6 := A4.pure X5) | (go_at_call 94; refine (FIN.out _ A6).mono ?_; rintro r w5 ⟨rfl, A5⟩))
 go_wp2_with fail
 go_ret; rw [HR.out]; exact ⟨rfl, LS.out _ _ A5⟩
set_option maxRecDepth 100000 in
set_option maxHeartbeats 400000 in
theorem at_fullT (A : Ats w0 w M K) (o : O) (T : List UInt8) (HW : ∀ w K bt, Told w0 w M K hp bt [] → Calls Tryz.prog 52 #[ptr bt, o.val, .int .i64 0] w fun r w' => ∃ bv, r = .returned (.bool bv) ∧ Told w0 w' M K hp bt (T.take 1000)) :
 Calls Tryz.prog 18 #[ptr hp, o.val] w fun r w' => r = .returned (.string ⟨(T.take 1000).toArray⟩) ∧ Ats w0 w' M K := by
 obtain ⟨k, ex, n, a, l, s⟩ := o; have A1 := A.alloc (.cells #[.int .i64 k, .bool ex, .int .i64 n, .int .i64 a, .int .i64 l, .string s] 39); have A2 := A1.alloc (.cells #[ptr hp, .slice none 0 0] 101)
 have T0 : Told w0 ((w.alloc (.cells #[.int .i64 k, .bool ex, .int .i64 n, .int .i64 a, .int .i64 l, .string s] 39)).alloc (.cells #[ptr hp, .slice none 0 0] 101)) M ((w.heap.size, .cells #[.int .i64 k, .bool ex, .int .i64 n, .int .i64 a, .int .i64 l, .string s] 39) :: K) hp (w.heap.size + 1) [] :=
  ⟨.slice none 0 0, [], .inl ⟨rfl, rfl, rfl, rfl⟩, by have h := A2; rw [show (w.alloc (.cells #[.int .i64 k, .bool ex, .int .i64 n, .int .i64 a, .int .i64 l, .string s] 39)).heap.size = w.heap.size + 1 by simp] at h; exact h⟩
 have R2 := cells_of (T0.box _ (List.mem_cons_self ..)); have l2 := blk_lt (T0.box _ (List.mem_cons_self ..)); have P := HW _ _ _ T0; have HP := hid' P; simp only at R2 l2; clear A A1 A2 HW T0 P; go_enter Tryz.func18, Tryz.ntmps18
 go_wp2_with fail
 refine HP.out.mono ?_; rintro r w3 ⟨bv, rfl, A3⟩; obtain ⟨v, R, hR, A4⟩ := A3; have hv := own_strF (Ats.ownsG (A4.perm (List.perm_middle (l₁ := R) (l₂ := (w.heap.size, .cells #[.int .i64 k, .bool ex, .int .i64 n, .int .i64 a, .int .i64 l, .string s] 39) :: K) (a := (w.heap.size + 1, tlBox hp v))).symm) hR); have R4 := cells_of (A4.box _ (List.mem_cons_self ..)); have l4 := blk_lt (A4.box _ (List.mem_cons_self ..)); simp only at R4 l4; have HA := hid' A4; clear A4 hR; go_wp2_with fail
 go_ret; refine ⟨rfl, HA.out.keep ?_⟩; exact ((List.sublist_cons_self _ K).trans (List.sublist_append_right R _)).trans (List.sublist_cons_self _ _)
def k3 (t : Tok) : Int × Int × ByteArray := (t.kind, t.n, t.s)
theorem size_big (k : Nat) (hk : 1 ≤ k) (hk5 : k ≤ 5) (n : Int) (hn0 : 0 ≤ n) (hn1 : n ≤ 2000000000) (hbig : 1073741823 < nearI (n * 65536) (10 ^ k)) :
 readS (sizeL k n) 0 false = (0, 0, 2) := by
 have hp : (0 : Int) < 10 ^ k := Int.pow_pos (by decide)
 obtain ⟨p, hpp⟩ : ∃ p : Int, (10 : Int) ^ k = p := ⟨_, rfl⟩
 have hpk : (10 : Nat) ^ k = p.toNat := by
  have : ((10 ^ k : Nat) : Int) = p := by rw [← hpp]; push_cast; rfl
  omega
 unfold sizeL; rw [hpp] at hp hbig ⊢
 obtain ⟨a, ha⟩ : ∃ a : Nat, n / p = (a : Int) := ⟨(n / p).toNat, by have := Int.ediv_nonneg hn0 (show 0 ≤ p by omega); omega⟩
 obtain ⟨r, hr⟩ : ∃ r : Nat, n % p = (r : Int) := ⟨(n % p).toNat, by have := Int.emod_nonneg n (show p ≠ 0 by omega); omega⟩
 have hrp : (r : Int) < p := by rw [← hr]; exact Int.emod_lt_of_pos n hp
 have hnp : n = a * p + r := by have := Int.mul_ediv_add_emod n p; rw [ha, hr, Int.mul_comm] at this; omega
 have hsp : (a : Int) * 65536 + nearI ((r : Int) * 65536) p = nearI (n * 65536) p := by
  rw [hnp, Int.add_mul, show (a : Int) * p * 65536 = (a * 65536) * p by rw [Int.mul_assoc, Int.mul_comm p, ← Int.mul_assoc], near_split _ _ _ hp (by omega)]
 have ha2 : (a : Int) ≤ 2000000000 := by
  rw [← ha]; exact Int.le_trans (Int.ediv_le_self p hn0) hn1
 rw [ha, hr, Int.toNat_natCast, Int.toNat_natCast]
 have hlen : (decL r).length ≤ k := by
  obtain ⟨j, rfl⟩ : ∃ j, k = j + 1 := ⟨k - 1, by omega⟩
  exact decL_len r j (by rw [hpk]; omega)
 have hB := padL_len k (decL r) hlen; have hBd := padL_dig k (decL r) (decL_dig r)
 have hBv : accD 1000000000000 0 (padL k (decL r)) = r := by
  rw [accD_pad _ (by decide), accD_decL]
  have : p ≤ 100000 := by rw [← hpp]; have : k = 1 ∨ k = 2 ∨ k = 3 ∨ k = 4 ∨ k = 5 := by omega
                          rcases this with rfl | rfl | rfl | rfl | rfl <;> decide
  omega
 generalize hBB : padL k (decL r) = B at *; have hd : digL (decL a ++ 46 :: B) = decL a := takeWh isDig 46 _ (by decide) _ (decL_dig a); have hdB : digL B = B := takeW_all _ _ hBd
 have hdr : (decL a ++ 46 :: B).drop ((decL a).length + 1) = B := by
  rw [show decL a ++ 46 :: B = (decL a ++ [46]) ++ B by simp, show (decL a).length + 1 = (decL a ++ [46]).length by simp, List.drop_left]
 have hat : (decL a ++ 46 :: B)[(decL a).length]? = some 46 := by
  rw [List.getElem?_append_right (Nat.le_refl _), Nat.sub_self]; rfl
 have hll : (decL a ++ 46 :: B).length = (decL a).length + 1 + k := by simp [hB]; omega
 unfold readS; rw [List.drop_zero, hd]; simp only [Nat.zero_add]; rw [hdr, hdB, hat, hll, hB, hBv, accD_decL _ a (by omega)]; rw [if_neg (by omega), if_neg (by simp; omega), if_neg (by omega)]
 by_cases c : 12 < k ∨ 16383 < (a : Int)
 · rw [if_pos c]
 · rw [if_neg c, hpp, hsp, if_pos hbig]
theorem size_F (k : Nat) (hk : 1 ≤ k) (hk5 : k ≤ 5) (n : Int) (hn0 : 0 ≤ n) (hn1 : n ≤ 2000000000) :
 readF (sizeL k n) = if 1073741823 < nearI (n * 65536) (10 ^ k) then (0, 0, 2) else (2, nearI (n * 65536) (10 ^ k), 0) := by
 have hb : basedF (sizeL k n) = none := by
  unfold sizeL; have hd : ∀ a : Nat, ∀ B, digL (decL a ++ 46 :: B) = decL a := fun a B => takeWh isDig 46 _ (by decide) _ (decL_dig a); unfold basedF; rw [hd, if_pos ?_]
  right; right; right; right; right; right
  rw [List.getElem?_append_right (Nat.le_refl _), Nat.sub_self]; simp
 have hh := head_dec (n / 10 ^ k).toNat (46 :: padL k (decL (n % 10 ^ k).toNat))
 have hF : readF (sizeL k n) = readS (sizeL k n) 0 false := by
  unfold readF; rw [hb]; simp only; rw [if_neg (show ¬ (sizeL k n).head? = some 43 from hh.1), if_neg (show ¬ (sizeL k n).head? = some 45 from hh.2)]
 rw [hF]; have hy := nearI_le (n * 65536) (10 ^ k) (by omega) (pow_18 k (by omega)).1
 by_cases c : 1073741823 < nearI (n * 65536) (10 ^ k)
 · rw [if_pos c, size_big k hk hk5 n hn0 hn1 c]
 · rw [if_neg c]; exact size_read k hk hk5 _ n hy.1 (by omega) hn0 rfl [] false
theorem nearF_rng (k : Nat) (hk5 : k ≤ 5) (v : Int) (h0 : 0 ≤ v) (h1 : v ≤ 1073741823) : 0 ≤ nearF k v ∧ nearF k v ≤ 2000000000 := by
 have hp : (0 : Int) ≤ 10 ^ k := Int.le_of_lt (Int.pow_pos (by decide))
 have hp5 : (10 : Int) ^ k ≤ 100000 := by
  have : (10 : Nat) ^ k ≤ 10 ^ 5 := Nat.pow_le_pow_right (by decide) hk5
  have e : ((10 ^ k : Nat) : Int) = (10 : Int) ^ k := by simp
  omega
 have m0 : 0 ≤ v * 10 ^ k := Int.mul_nonneg h0 hp; have m1 : v * 10 ^ k ≤ 107374182300000 := Int.le_trans (Int.mul_le_mul_of_nonneg_left hp5 h0) (by omega); unfold nearF nearI
 split <;> omega
theorem fixN (v : Int) (h : 0 ≤ v) : fixL v = sizeL (kF v) (nearF (kF v) v) := by
 unfold fixL; rw [if_neg (by omega), show ((v.natAbs : Nat) : Int) = v by omega]; rfl
set_option maxRecDepth 100000 in
set_option maxHeartbeats 1000000 in
theorem may3_any (v : Int) (w : World) : Calls Tryz.prog 79 #[.int .i64 v] w fun e w' => e = .returned (.bool (decide (-1073741823 ≤ v) && decide (v ≤ 1073741823))) ∧ w = w' := by
 by_cases a1 : -1073741823 ≤ v
 all_goals by_cases a2 : v ≤ 1073741823
 all_goals
  go_enter Tryz.func79, Tryz.ntmps79
  go_wp2
  go_ret; simp [a1, a2]
set_option maxRecDepth 100000 in
set_option maxHeartbeats 2000000 in
theorem rfixN_any (v : Int) (h0 : 0 ≤ v) (h1 : v ≤ 1073741823) (w : World) :
 Calls Tryz.prog 135 #[.int .i64 v] w fun r w' => r = .returned (.string (bytesB (fixL v))) ∧ Chg NoB w w' := by
 rw [fixN v h0]; have HMY := hid' (fun w => by have := may3_any v w; rwa [decide_eq_true (show -1073741823 ≤ v by omega), decide_eq_true h1] at this : ∀ w, Calls Tryz.prog 79 #[.int .i64 v] w fun e w' => e = .returned (.bool true) ∧ w = w'); have HKR := hid' (kF_rng v); have HKO := hid' (kF_ok v h0 h1); have HKN := hid' (kF_no v)
 have step : ∀ k : Nat, 1 ≤ k → k ≤ 5 → (∀ w, Calls Tryz.prog 148 #[.int .i64 k] w fun e w' => e = .returned (.int .i64 (10 ^ k)) ∧ w = w') ∧
  (∀ w, Calls Tryz.prog 147 #[.int .i64 v, .int .i64 (10 ^ k), .int .i64 65536] w fun e w' => e = .returned (.tuple #[.int .i64 (nearF k v), .bool true]) ∧ Chg NoB w w') ∧
  (∀ w, Calls Tryz.prog 154 #[.int .i64 (nearF k v), .int .i64 k] w fun e w' => e = .returned (.string (bytesB (sizeL k (nearF k v)))) ∧ Chg NoB w w') := fun k hk hk5 => by
  have hn := nearF_rng k hk5 v h0 h1
  have e3 : ((10 ^ k : Nat) : Int) = (10 : Int) ^ k := by simp
  have hp5 : (10 : Nat) ^ k ≤ 10 ^ 5 := Nat.pow_le_pow_right (by decide) hk5; refine ⟨fun w => rten_any k (by omega) w, fun w => ?_, fun w => ?_⟩
  · have hm : v.toNat * 10 ^ k ≤ 1073741823 * 10 ^ 5 := Nat.mul_le_mul (by omega) hp5; have := muldiv_any v.toNat (10 ^ k) 65536 (by omega) (by omega) (by omega) (by omega) (by omega) w; rw [show ((v.toNat * 10 ^ k : Nat) : Int) = v * 10 ^ k by rw [Int.natCast_mul, e3, show ((v.toNat : Nat) : Int) = v by omega], e3, show ((v.toNat : Nat) : Int) = v by omega] at this; exact this
  · have := rplaces_any (nearF k v).toNat k (by omega) hk (by omega) w; rwa [show (((nearF k v).toNat : Nat) : Int) = nearF k v by omega] at this
 have HST := hid' step; clear step; go_enter Tryz.func135, Tryz.ntmps135
 go_wp2_with fail
 refine (HMY.out _).mono ?_; rintro e w1 ⟨rfl, rfl⟩; go_wp2_with fail
 go_loopw [3] (fun cv wr => ∃ k : Nat, 1 ≤ k ∧ k ≤ kF v ∧ cv = .int .i64 k ∧ Chg NoB w wr) (fun cv _ => 6 - (intOf cv).toNat)
 case atStart => exact ⟨1, Nat.le_refl _, HKR.out.1, rfl, Chg.refl _ _⟩
 case round =>
  obtain ⟨k, hk1, hk2, rfl, X⟩ := hrel
  have k5 : k ≤ 5 := by have := HKR.out; omega
  obtain ⟨t1, t2, t3⟩ := HST.out k hk1 k5
  by_cases c : k < 5
  · have c' : (k : Int) < 5 := by omega
    have hn := nearF_rng k k5 v h0 h1
    have hrd := fun w => rread6_any (bytesB (sizeL k (nearF k v))) (by
     have hl : (sizeL k (nearF k v)).length ≤ 100 := by
      unfold sizeL; have q0 : 0 ≤ nearF k v / 10 ^ k := Int.ediv_nonneg hn.1 (Int.le_of_lt (Int.pow_pos (by decide))); have q1 : nearF k v / 10 ^ k ≤ nearF k v := Int.ediv_le_self _ hn.1; have l1 := decL_size (nearF k v / 10 ^ k).toNat (by omega); have r0 : 0 ≤ nearF k v % 10 ^ k := Int.emod_nonneg _ (by have := (pow_18 k (by omega)).1; omega); have r1 : nearF k v % 10 ^ k < 10 ^ k := Int.emod_lt_of_pos _ (Int.pow_pos (by decide))
      have l2 := decL_size (nearF k v % 10 ^ k).toNat (by
       have : (10 : Nat) ^ k ≤ 10 ^ 5 := Nat.pow_le_pow_right (by decide) k5
       have e : ((10 ^ k : Nat) : Int) = (10 : Int) ^ k := by simp
       omega)
      unfold padL; simp only [List.length_append, List.length_cons, List.length_replicate]; omega
     show (sizeL k (nearF k v)).toArray.size ≤ _
     simp; omega) w
    rw [arr_lst, size_F k hk1 k5 (nearF k v) hn.1 hn.2] at hrd; have hok : okF k v = (nearI (nearF k v * 65536) (10 ^ k) == v) := rfl; have HT1 := hid' t1; have HT2 := hid' t2; have HT3 := hid' t3; have HRD0 := hid' hrd
    have HLT := hid' (show okF k v = false → k < kF v from fun e => by
     apply Classical.byContradiction
     intro h
     obtain rfl : k = kF v := by omega
     rw [HKO.out] at e; exact absurd e (by decide))
    have HEQ := hid' (show okF k v = true → k = kF v from fun e => by
     apply Classical.byContradiction
     intro h
     rw [HKN.out k hk1 (by omega)] at e; exact absurd e (by decide))
    generalize nearI (nearF k v * 65536) (10 ^ k) = y at *; clear t1 t2 t3 hrd; generalize hN : nearF k v = N at *; generalize (10 : Int) ^ k = T at *; generalize hSZ : bytesB (sizeL k N) = SZ at *; clear hn
    by_cases big : 1073741823 < y
    · have HRD := hid' HRD0.out; simp only [if_pos big] at HRD
      have hf : okF k v = false := by rw [hok]; simp; omega
      have hlt := HLT.out hf; clear HRD0 HLT HEQ hok; go_wp2_with fail
      refine (HT1.out _).mono ?_; rintro e w2 ⟨rfl, rfl⟩; go_wp2_with fail
      refine (HT2.out _).mono ?_; rintro e w3 ⟨rfl, X3⟩; go_wp2_with fail
      refine (HT3.out _).mono ?_; rintro e w4 ⟨rfl, X4⟩; go_wp2_with fail
      refine (HRD.out _).mono ?_; rintro e w5 ⟨rfl, X5⟩; go_wp2_with fail
      go_roundw
      case rel => exact ⟨k + 1, by omega, by omega, by go_num, ((X.trans X3).trans X4).trans X5⟩
      case measure => simp [intOf]; omega
    · have HRD := hid' HRD0.out; simp only [if_neg big] at HRD
      by_cases cy : y = v
      · have cy' : (y == v) = true := by simpa using cy
        have heq := HEQ.out (by rw [hok]; exact cy'); have HQ := hid' (show bytesB (sizeL (kF v) (nearF (kF v) v)) = SZ by rw [← heq, hN, hSZ]); clear HRD0 HLT HEQ hok heq hN hSZ cy; go_wp2_with fail
        refine (HT1.out _).mono ?_; rintro e w2 ⟨rfl, rfl⟩; go_wp2_with fail
        refine (HT2.out _).mono ?_; rintro e w3 ⟨rfl, X3⟩; go_wp2_with fail
        refine (HT3.out _).mono ?_; rintro e w4 ⟨rfl, X4⟩; go_wp2_with fail
        refine (HRD.out _).mono ?_; rintro e w5 ⟨rfl, X5⟩; go_wp2_with fail
        go_ret; exact ⟨by rw [HQ.out]; rfl, ((X.trans X3).trans X4).trans X5⟩
      · have cy' : (y == v) = false := by simpa using cy
        have hlt := HLT.out (by rw [hok]; exact cy'); clear HRD0 HLT HEQ hok cy; go_wp2_with fail
        refine (HT1.out _).mono ?_; rintro e w2 ⟨rfl, rfl⟩; go_wp2_with fail
        refine (HT2.out _).mono ?_; rintro e w3 ⟨rfl, X3⟩; go_wp2_with fail
        refine (HT3.out _).mono ?_; rintro e w4 ⟨rfl, X4⟩; go_wp2_with fail
        refine (HRD.out _).mono ?_; rintro e w5 ⟨rfl, X5⟩; go_wp2_with fail
        go_roundw
        case rel => exact ⟨k + 1, by omega, by omega, by go_num, ((X.trans X3).trans X4).trans X5⟩
        case measure => simp [intOf]; omega
  · obtain rfl : k = 5 := by omega
    have hk : kF v = 5 := by have := HKR.out; omega
    have HT1 := hid' t1; have HT2 := hid' t2; have HT3 := hid' t3; have HQ := hid' hk; clear t1 t2 t3 hk hk2; generalize hSZ : bytesB (sizeL 5 (nearF 5 v)) = SZ at *; have HQ2 := hid' hSZ; clear hSZ; generalize hN : nearF 5 v = N at *; rw [show ((5 : Nat) : Int) = 5 from rfl] at HT1 HT3; generalize hT : (10 : Int) ^ 5 = T at *; have HN := hid' hN; clear hN hT; go_wp2_with fail
    refine (HT1.out _).mono ?_; rintro e w2 ⟨rfl, rfl⟩; go_wp2_with fail
    refine (HT2.out _).mono ?_; rintro e w3 ⟨rfl, X3⟩; go_wp2_with fail
    refine (HT3.out _).mono ?_; rintro e w4 ⟨rfl, X4⟩; go_wp2_with fail
    go_ret; exact ⟨by rw [HQ.out, HN.out, HQ2.out]; rfl, (X.trans X3).trans X4⟩
set_option maxRecDepth 100000 in
set_option maxHeartbeats 2000000 in
theorem rfix_any (v : Int) (h0 : -1073741823 ≤ v) (h1 : v ≤ 1073741823) (w : World) :
 Calls Tryz.prog 135 #[.int .i64 v] w fun r w' => r = .returned (.string (bytesB (fixL v))) ∧ Chg NoB w w' := by
 by_cases c : 0 ≤ v
 · exact rfixN_any v c h1 w
 have c' : v < 0 := by omega
 have HMY := hid' (fun w => by have := may3_any v w; rwa [decide_eq_true h0, decide_eq_true (show v ≤ 1073741823 by omega)] at this : ∀ w, Calls Tryz.prog 79 #[.int .i64 v] w fun e w' => e = .returned (.bool true) ∧ w = w'); have HN := hid' (fun w => rfixN_any (-v) (by omega) (by omega) w)
 have hP : bytesB (fixL v) = ⟨#[45]⟩ ++ bytesB (fixL (-v)) := by
  apply lst_inj; rw [app_lst, one_lst, arr_lst, arr_lst]
  unfold fixL; rw [if_pos c', if_neg (by omega), Int.natAbs_neg]; rfl
 have hl : (bytesB (fixL (-v))).size ≤ 100 := by
  show (fixL (-v)).toArray.size ≤ 100; have := fix_len (-v) (by omega) (by omega); simp; omega
 have hS2 : ¬ (9223372036854775807 < (⟨#[45]⟩ : ByteArray).size + (bytesB (fixL (-v))).size) := by
  have : (⟨#[45]⟩ : ByteArray).size = 1 := rfl; omega
 rw [hP]; generalize bytesB (fixL (-v)) = Y at *; clear hP c; go_enter Tryz.func135, Tryz.ntmps135
 go_wp2_with fail
 refine (HMY.out _).mono ?_; rintro e w1 ⟨rfl, rfl⟩; go_wp2_with fail
 refine (HN.out _).mono ?_; rintro e w1 ⟨rfl, X⟩; go_wp2_with fail
 go_ret; exact ⟨rfl, X⟩
def shortI (c : Int) : Int := if c = 8 then 98 else if c = 9 then 116 else if c = 10 then 110 else if c = 12 then 102 else if c = 13 then 114 else 0
set_option maxRecDepth 100000 in
theorem rshort_any (c : Int) (w : World) : Calls Tryz.prog 151 #[.int .u8 c] w fun e w' => e = .returned (.int .u8 (shortI c)) ∧ w = w' := by
 have hr : shortI c = if c = 8 then 98 else if c = 9 then 116 else if c = 10 then 110 else if c = 12 then 102 else if c = 13 then 114 else 0 := rfl
 have HR := hid' hr; clear hr; go_enter Tryz.func151, Tryz.ntmps151
 go_wp2
 all_goals
  go_ret; rw [HR.out]; refine ⟨?_, rfl⟩
  simp_all
theorem str_new (l : List UInt8) (n : Nat) (hn : l.length = n) (W : World) (g : Nat) (h : ∀ i (hi : i < l.length), W.cell? ⟨g, i, none⟩ = some (u8V l[i])) :
 (convert 99 9 (.slice (some ⟨g, 0, none⟩) n n)).run Tryz.prog W = .ok (.string (bytesB l)) W := by
 subst hn; simp only [convert, Sem.run_bind, run_underlying nt_underStr, run_underlying nt_under, run_underlying nt_underByte, Result.andThen_ok]; exact bytesToString_T Tryz.prog W ⟨g, 0, none⟩ l l.length (fun i hi => by rw [add_z]; exact h i hi)
theorem two_new (w : World) (x y : UInt8) (X Y : Int) (hx : X = x.toNat) (hy : Y = y.toNat) :
 (convert 99 9 (.slice (some ⟨w.heap.size, 0, none⟩) 2 2)).run Tryz.prog (w.alloc (.cells #[.int .u8 X, .int .u8 Y] 5)) = .ok (.string (bytesB [x, y])) (w.alloc (.cells #[.int .u8 X, .int .u8 Y] 5)) := by
 subst hx hy; have hb := blk_new w (.cells #[.int .u8 x.toNat, .int .u8 y.toNat] 5)
 exact str_new [x, y] 2 rfl _ w.heap.size (fun i hi => by
  rw [cells_of hb]
  rcases i with _ | _ | i
  · rfl
  · rfl
  · simp at hi; omega)
theorem one_new (w : World) (x : UInt8) (X : Int) (hx : X = x.toNat) :
 (convert 99 9 (.slice (some ⟨w.heap.size, 0, none⟩) 1 1)).run Tryz.prog (w.alloc (.cells #[.int .u8 X] 5)) = .ok (.string (bytesB [x])) (w.alloc (.cells #[.int .u8 X] 5)) := by
 subst hx; have hb := blk_new w (.cells #[.int .u8 x.toNat] 5)
 exact str_new [x] 1 rfl _ w.heap.size (fun i hi => by
  rw [cells_of hb]
  rcases i with _ | i
  · rfl
  · simp at hi)
theorem four_new (w : World) (x y z u : UInt8) (X Y Z U : Int) (hx : X = x.toNat) (hy : Y = y.toNat) (hz : Z = z.toNat) (hu : U = u.toNat) :
 (convert 99 9 (.slice (some ⟨w.heap.size, 0, none⟩) 4 4)).run Tryz.prog (w.alloc (.cells #[.int .u8 X, .int .u8 Y, .int .u8 Z, .int .u8 U] 5)) = .ok (.string (bytesB [x, y, z, u])) (w.alloc (.cells #[.int .u8 X, .int .u8 Y, .int .u8 Z, .int .u8 U] 5)) := by
 subst hx hy hz hu; have hb := blk_new w (.cells #[.int .u8 x.toNat, .int .u8 y.toNat, .int .u8 z.toNat, .int .u8 u.toNat] 5)
 exact str_new [x, y, z, u] 4 rfl _ w.heap.size (fun i hi => by
  rw [cells_of hb]
  rcases i with _ | _ | _ | _ | i
  · rfl
  · rfl
  · rfl
  · rfl
  · simp at hi; omega)
set_option maxRecDepth 100000 in
set_option maxHeartbeats 1000000 in
theorem rone_any (c : UInt8) (w : World) : Calls Tryz.prog 133 #[.int .u8 c.toNat] w fun e w' => e = .returned (.string (bytesB (oneQ c))) ∧ Chg NoB w w' := by
 have hs := fun w => rshort_any c.toNat w; have f : ∀ (n : UInt8) (m : Int), m = n.toNat → ¬ c = n → ¬ (c.toNat : Int) = m := fun n m hm h e => h (UInt8.toNat_inj.1 (by omega))
 have fb : ∀ (n : UInt8) (m : Int), m = n.toNat → ¬ c = n → ((c.toNat : Int) == m) = false := fun n m hm h => by simpa using f n m hm h
 have hc0 : (0 : Int) ≤ c.toNat := by omega
 have hc1 : (c.toNat : Int) < 256 := by have := c.toNat_lt; omega
 by_cases h1 : c = 40 ∨ c = 41 ∨ c = 92
 · have e1 : oneQ c = [92, c] := by unfold oneQ; rw [if_pos h1]
   rw [e1]; have hcv := two_new w 92 c 92 c.toNat rfl rfl
   have hx : (((c.toNat : Int) == 40) = true) ∨ (((c.toNat : Int) == 40) = false ∧ ((c.toNat : Int) == 41) = true) ∨ (((c.toNat : Int) == 40) = false ∧ ((c.toNat : Int) == 41) = false ∧ ((c.toNat : Int) == 92) = true) := by
    rcases h1 with rfl | rfl | rfl
    · exact .inl rfl
    · exact .inr (.inl ⟨rfl, rfl⟩)
    · exact .inr (.inr ⟨rfl, rfl, rfl⟩)
   clear h1 hs f fb; generalize (c.toNat : Int) = C at *; generalize bytesB [92, c] = B at *
   rcases hx with g1 | ⟨g1, g2⟩ | ⟨g1, g2, g3⟩
   all_goals
    go_enter Tryz.func133, Tryz.ntmps133
    go_wp2_with fail
    go_ret; exact ⟨rfl, (Chg.refl _ _).alloc _⟩
 have h1' := h1; simp only [not_or] at h1'; have g1 := fb 40 40 rfl h1'.1; have g2 := fb 41 41 rfl h1'.2.1; have g3 := fb 92 92 rfl h1'.2.2
 by_cases h2 : c = 8 ∨ c = 9 ∨ c = 10 ∨ c = 12 ∨ c = 13
 · obtain ⟨z, hz⟩ : ∃ z : UInt8, shortI c.toNat = (z.toNat : Int) ∧ oneQ c = [92, z] ∧ ((z.toNat : Int) != 0) = true := by
    rcases h2 with rfl | rfl | rfl | rfl | rfl
    · exact ⟨98, rfl, rfl, rfl⟩
    · exact ⟨116, rfl, rfl, rfl⟩
    · exact ⟨110, rfl, rfl, rfl⟩
    · exact ⟨102, rfl, rfl, rfl⟩
    · exact ⟨114, rfl, rfl, rfl⟩
   obtain ⟨hz1, hz2, hz3⟩ := hz; rw [hz1] at hs; rw [hz2]; have hcv := two_new w 92 z 92 z.toNat rfl rfl; have HS := hid' hs; clear h1 h2 hs f fb h1' hz1 hz2; generalize (c.toNat : Int) = C at *; generalize (z.toNat : Int) = Z at *; generalize bytesB [92, z] = B at *; go_enter Tryz.func133, Tryz.ntmps133
   go_wp2_with (go_at_call 151; refine (HS.out _).mono ?_; rintro e w2 ⟨rfl, rfl⟩)
   go_ret; exact ⟨rfl, (Chg.refl _ _).alloc _⟩
 have h2' := h2; simp only [not_or] at h2'
 have hz1 : shortI c.toNat = 0 := by
  unfold shortI; rw [if_neg (f 8 8 rfl h2'.1), if_neg (f 9 9 rfl h2'.2.1), if_neg (f 10 10 rfl h2'.2.2.1), if_neg (f 12 12 rfl h2'.2.2.2.1), if_neg (f 13 13 rfl h2'.2.2.2.2)]
 rw [hz1] at hs; have HS := hid' hs
 have hq : oneQ c = if c < 32 ∨ 126 < c then [92, 48 + c / 64, 48 + c / 8 % 8, 48 + c % 8] else [c] := by
  unfold oneQ; rw [if_neg h1, if_neg h2'.1, if_neg h2'.2.1, if_neg h2'.2.2.1, if_neg h2'.2.2.2.1, if_neg h2'.2.2.2.2]
 rw [hq]
 by_cases h3 : c < 32 ∨ 126 < c
 · rw [if_pos h3]
   have hx : (decide ((c.toNat : Int) < 32) = true) ∨ (decide ((c.toNat : Int) < 32) = false ∧ decide (126 < (c.toNat : Int)) = true) := by
    rcases h3 with h | h
    · left
      have := UInt8.lt_iff_toNat_lt.1 h; have e : (32 : UInt8).toNat = 32 := rfl; simp; omega
    · have := UInt8.lt_iff_toNat_lt.1 h; have e : (126 : UInt8).toNat = 126 := rfl
      by_cases k : (c.toNat : Int) < 32
      · left; simpa using k
      · right; simp at k ⊢; omega
   obtain ⟨o1, o2, o3⟩ := oct_val c; have hcv := four_new w 92 (48 + c / 64) (48 + c / 8 % 8) (48 + c % 8) 92 _ _ _ rfl o1.symm o2.symm o3.symm; clear h1 h2 hs f fb h1' h2' hz1 hq h3 o1 o2 o3; generalize bytesB [92, 48 + c / 64, 48 + c / 8 % 8, 48 + c % 8] = B at *; generalize (c.toNat : Int) = C at *
   rcases hx with d1 | ⟨d1, d2⟩
   all_goals
    go_enter Tryz.func133, Tryz.ntmps133
    go_wp2_with (go_at_call 151; refine (HS.out _).mono ?_; rintro e w2 ⟨rfl, rfl⟩)
    go_ret; exact ⟨rfl, (Chg.refl _ _).alloc _⟩
 · rw [if_neg h3]; simp only [not_or] at h3
   have d1 : decide ((c.toNat : Int) < 32) = false := by
    have e : (32 : UInt8).toNat = 32 := rfl; have : ¬ c.toNat < (32 : UInt8).toNat := fun h => h3.1 (UInt8.lt_iff_toNat_lt.2 h); simp; omega
   have d2 : decide (126 < (c.toNat : Int)) = false := by
    have e : (126 : UInt8).toNat = 126 := rfl; have : ¬ (126 : UInt8).toNat < c.toNat := fun h => h3.2 (UInt8.lt_iff_toNat_lt.2 h); simp; omega
   have hcv := one_new w c c.toNat rfl; clear h1 h2 hs f fb h1' h2' hz1 hq h3; generalize bytesB [c] = B at *; generalize (c.toNat : Int) = C at *; go_enter Tryz.func133, Tryz.ntmps133
   go_wp2_with (go_at_call 151; refine (HS.out _).mono ?_; rintro e w2 ⟨rfl, rfl⟩)
   go_ret; exact ⟨rfl, (Chg.refl _ _).alloc _⟩
set_option maxRecDepth 100000 in
set_option maxHeartbeats 1000000 in
theorem rparen_any (s : ByteArray) (hs : s.size ≤ 1000000) (w : World) :
 Calls Tryz.prog 98 #[.string s] w fun r w' => r = .returned (.string (bytesB (parenL s.toList))) ∧ Chg NoB w w' := by
 have hsi : (s.size : Int) ≤ 1000000 := by omega
 go_enter Tryz.func98, Tryz.ntmps98
 go_wp2_with fail
 go_loopw [3, 4] (fun ov iv wr => ∃ (i : Nat) (D : ByteArray), i ≤ s.size ∧ iv = .int .i64 i ∧ ov = .string D ∧ D.toList = 40 :: quoteQ (s.toList.take i) ∧ Chg NoB w wr) (fun _ iv _ => s.size - (intOf iv).toNat)
 case atStart => exact ⟨0, ⟨#[40]⟩, Nat.zero_le _, rfl, rfl, by rw [one_lst]; rfl, Chg.refl _ _⟩
 case round =>
  obtain ⟨i, D, hi, rfl, rfl, hD, X⟩ := hrel; have hl := quote_len (s.toList.take i)
  have hDs : D.size ≤ 4000001 := by
   rw [← size_lst, hD, List.length_cons]; have := List.length_take (i := i) (l := s.toList); rw [size_lst] at this; omega
  by_cases hlt : i < s.size
  · have hc : s.toList[i]? = some s[i] := lst_get s i hlt
    have hlt' : (i : Int) < s.size := by omega
    have h0i : (0 : Int) ≤ i := by omega
    have HC := hid' (fun w => rone_any s[i] w); have hol := oneQ_len s[i]
    have hOs : (bytesB (oneQ s[i])).size ≤ 4 := by show (oneQ s[i]).toArray.size ≤ 4; simpa using hol
    have HT := hid' (show (D ++ bytesB (oneQ s[i])).toList = 40 :: quoteQ (s.toList.take (i + 1)) by
     rw [app_lst, hD, List.take_add_one, hc, Option.toList_some, quote_snoc]
     exact congrArg (fun t => 40 :: quoteQ (s.toList.take i) ++ t) (bytesB_lst (oneQ s[i])))
    have hS : ¬ (9223372036854775807 < D.size + (bytesB (oneQ s[i])).size) := by omega
    generalize bytesB (oneQ s[i]) = Y at *; clear hD hc hl hol
    go_wp2_with (go_at_call 133; refine (HC.out _).mono ?_; rintro e w2 ⟨rfl, X2⟩)
    go_roundw
    case rel => exact ⟨i + 1, _, by omega, by go_num, rfl, HT.out, X.trans X2⟩
    case measure => simp [intOf]; omega
  · obtain rfl : i = s.size := by omega
    rw [List.take_of_length_le (by rw [size_lst]; exact Nat.le_refl _)] at hD; have HT := hid' (show bytesB (parenL s.toList) = D ++ ⟨#[41]⟩ by apply lst_inj; rw [app_lst, one_lst, hD]; exact (bytesB_lst _))
    have hS : ¬ (9223372036854775807 < D.size + (⟨#[41]⟩ : ByteArray).size) := by
     have : (⟨#[41]⟩ : ByteArray).size = 1 := rfl; omega
    clear hD hl; go_wp2_with fail
    go_ret; exact ⟨by rw [HT.out]; rfl, X⟩
end Go.Proofs.YtoogmimbmgdflaaGreat
