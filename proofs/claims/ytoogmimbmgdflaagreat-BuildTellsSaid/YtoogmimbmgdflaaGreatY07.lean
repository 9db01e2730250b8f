/- Parts of the proof: Pl0, Fxp, Fxw, Twd, Tnx, Tal, Teq, Twp, Ltk, Prn, Prw, Tmy. -/
import Derived.StillTailTactics
import Derived.Deep.DeepCutAuto
import Derived.Deep.Slices
import Derived.Test.YtoogmimbmgdflaaGreatY04
import Derived.Test.YtoogmimbmgdflaaGreatY05
namespace Go.Proofs.YtoogmimbmgdflaaGreat
open Go.RowKit
variable {w w' : World} {v : Value}
theorem head_app {α : Type} {a : List α} (r : List α) (h : a ≠ []) : (a ++ r).head? = a.head? := by cases a with
 | nil => exact absurd rfl h
 | cons x a => rfl
theorem takeWh (p : UInt8 → Bool) (c : UInt8) (r : List UInt8) (hc : p c = false) : ∀ a : List UInt8, a.all p = true → (a ++ c :: r).takeWhile p = a
 | [], _ => by simp [hc]
 | x :: a, h => by
  simp only [List.all_cons, Bool.and_eq_true] at h; rw [List.cons_append, List.takeWhile_cons, if_pos h.1, takeWh p c r hc a h.2]
theorem isDig_dgB (d : Nat) (h : d < 10) : isDig (dgB d) = true ∧ ((dgB d).toNat : Int) - 48 = d := by
 have : ∀ d : Fin 10, isDig (dgB d.val) = true ∧ ((dgB d.val).toNat : Int) - 48 = (d.val : Int) := by decide +kernel
 exact this ⟨d, h⟩
theorem decL_dig (n : Nat) : (decL n).all isDig = true := by
 induction n using Nat.strongRecOn with
 | _ n ih =>
  by_cases c : n < 10
  · rw [decL_lo n c]; simp [(isDig_dgB n c).1]
  · rw [decL_hi n c, List.all_append, ih (n / 10) (Nat.div_lt_self (by omega) (by decide))]; simp [(isDig_dgB (n % 10) (Nat.mod_lt _ (by decide))).1]
theorem accD_snoc (most v : Int) (l : List UInt8) (c : UInt8) : accD most v (l ++ [c]) = if most < accD most v l * 10 + ((c.toNat : Int) - 48) then most else accD most v l * 10 + ((c.toNat : Int) - 48) := by
 unfold accD; rw [List.foldl_append]; rfl
theorem accD_decL (most : Int) (n : Nat) (h : (n : Int) ≤ most) : accD most 0 (decL n) = n := by
 induction n using Nat.strongRecOn with
 | _ n ih =>
  by_cases c : n < 10
  · rw [decL_lo n c, show [dgB n] = [] ++ [dgB n] from rfl, accD_snoc, (isDig_dgB n c).2, show accD most 0 [] = 0 from rfl, if_neg (by omega)]; omega
  · rw [decL_hi n c, accD_snoc, ih (n / 10) (Nat.div_lt_self (by omega) (by decide)) (by omega), (isDig_dgB (n % 10) (Nat.mod_lt _ (by decide))).2, if_neg (by omega)]; omega
def padL (k : Nat) (l : List UInt8) : List UInt8 := List.replicate (k - l.length) 48 ++ l
theorem padL_len (k : Nat) (l : List UInt8) (h : l.length ≤ k) : (padL k l).length = k := by simp [padL]; omega
theorem padL_dig (k : Nat) (l : List UInt8) (h : l.all isDig = true) : (padL k l).all isDig = true := by
 unfold padL; rw [List.all_append, h, Bool.and_true, List.all_eq_true]; intro c hc; rw [(List.mem_replicate.1 hc).2]; decide
theorem accD_pad (most : Int) (hm : 0 ≤ most) (k : Nat) (l : List UInt8) : accD most 0 (padL k l) = accD most 0 l := by
 unfold padL; generalize k - l.length = j
 induction j with
 | zero => rfl
 | succ j ih =>
  rw [List.replicate_succ, List.cons_append, accD_cons]; rw [show (0 : Int) * 10 + (((48 : UInt8).toNat : Int) - 48) = 0 by decide, if_neg (by omega)]; exact ih
theorem takeW_all (p : UInt8 → Bool) : ∀ a : List UInt8, a.all p = true → a.takeWhile p = a
 | [], _ => rfl
 | x :: a, h => by
  simp only [List.all_cons, Bool.and_eq_true] at h; rw [List.takeWhile_cons, if_pos h.1, takeW_all p a h.2]
theorem decL_ne (n : Nat) : decL n ≠ [] := by
 by_cases c : n < 10
 · rw [decL_lo n c]; simp
 · rw [decL_hi n c]; simp
theorem head_dec (n : Nat) (r : List UInt8) : (decL n ++ r).head? ≠ some 43 ∧ (decL n ++ r).head? ≠ some 45 := by
 rw [head_app r (decL_ne n)]
 cases h : decL n with
 | nil => exact absurd h (decL_ne n)
 | cons c l =>
  have := decL_dig n; rw [h, List.all_cons, Bool.and_eq_true] at this; have := this.1; simp only [isDig, Bool.and_eq_true, decide_eq_true_eq] at this; refine ⟨fun e => ?_, fun e => ?_⟩
  · simp only [List.head?_cons, Option.some.injEq] at e; subst e; revert this; decide
  · simp only [List.head?_cons, Option.some.injEq] at e; subst e; revert this; decide
def nearF (k : Nat) (s : Int) : Int := nearI (s * 10 ^ k) 65536
def okF (k : Nat) (s : Int) : Bool := nearI (nearF k s * 65536) (10 ^ k) == s
theorem ok5 (s : Int) (_h0 : 0 ≤ s) (_h1 : s ≤ 1073741823) : okF 5 s = true := by
 unfold okF nearF; rw [show (10 : Int) ^ 5 = 100000 by decide]; generalize hn : nearI (s * 100000) 65536 = n
 have h2 : -32768 ≤ n * 65536 - s * 100000 ∧ n * 65536 - s * 100000 ≤ 32768 := by
  unfold nearI at hn
  split at hn <;> omega
 simp only [beq_iff_eq]; unfold nearI
 split <;> omega
def kF (s : Int) : Nat := if okF 1 s = true then 1 else if okF 2 s = true then 2 else if okF 3 s = true then 3 else if okF 4 s = true then 4 else 5
theorem kF_rng (s : Int) : 1 ≤ kF s ∧ kF s ≤ 5 := by
 unfold kF; repeat' split
 all_goals omega
theorem kF_ok (s : Int) (h0 : 0 ≤ s) (h1 : s ≤ 1073741823) : okF (kF s) s = true := by
 unfold kF; split
 · assumption
 split
 · assumption
 split
 · assumption
 split
 · assumption
 · exact ok5 s h0 h1
theorem kF_no (s : Int) (j : Nat) (h1 : 1 ≤ j) (h2 : j < kF s) : okF j s = false := by
 unfold kF at h2; split at h2
 · omega
 rename_i c1
 split at h2
 · obtain rfl : j = 1 := by omega
   simpa using c1
 rename_i c2
 split at h2
 · have : j = 1 ∨ j = 2 := by omega
   rcases this with rfl | rfl
   · simpa using c1
   · simpa using c2
 rename_i c3
 split at h2
 · have : j = 1 ∨ j = 2 ∨ j = 3 := by omega
   rcases this with rfl | rfl | rfl
   · simpa using c1
   · simpa using c2
   · simpa using c3
 rename_i c4
 have : j = 1 ∨ j = 2 ∨ j = 3 ∨ j = 4 := by omega
 rcases this with rfl | rfl | rfl | rfl
 · simpa using c1
 · simpa using c2
 · simpa using c3
 · simpa using c4
def sizeL (k : Nat) (n : Int) : List UInt8 := decL (n / 10 ^ k).toNat ++ 46 :: padL k (decL (n % 10 ^ k).toNat)
def fixL (v : Int) : List UInt8 := (if v < 0 then [45] else []) ++ sizeL (kF v.natAbs) (nearF (kF v.natAbs) v.natAbs)
theorem near_split (A r p : Int) (hp : 0 < p) (hA : A % 2 = 0) : nearI (A * p + r) p = A + nearI r p := by
 have e1 : (A * p + r) / p = A + r / p := by rw [Int.add_comm, Int.add_mul_ediv_right _ _ (by omega)]; omega
 have e2 : (A * p + r) % p = r % p := by rw [Int.add_comm, Int.add_mul_emod_self_right]
 have e3 : (A + r / p) % 2 = (r / p) % 2 := by omega
 unfold nearI; rw [e1, e2, e3]
 split <;> omega
theorem near_ge (a b : Int) : a / b ≤ nearI a b := by unfold nearI; split <;> omega
theorem size_read (k : Nat) (hk : 1 ≤ k) (hk5 : k ≤ 5) (s n : Int) (h0 : 0 ≤ s) (h1 : s ≤ 1073741823) (hn0 : 0 ≤ n) (hok : nearI (n * 65536) (10 ^ k) = s) (pre : List UInt8) (b : Bool) :
 readS (pre ++ sizeL k n) pre.length b = (2, sgnI b s, 0) := by
 have hp : (0 : Int) < 10 ^ k := Int.pow_pos (by decide)
 obtain ⟨p, hpp⟩ : ∃ p : Int, (10 : Int) ^ k = p := ⟨_, rfl⟩
 have hpk : (10 : Nat) ^ k = p.toNat := by
  have : ((10 ^ k : Nat) : Int) = p := by rw [← hpp]; push_cast; rfl
  omega
 unfold sizeL; rw [hpp] at hp hok ⊢
 obtain ⟨a, ha⟩ : ∃ a : Nat, n / p = (a : Int) := ⟨(n / p).toNat, by have := Int.ediv_nonneg hn0 (show 0 ≤ p by omega); omega⟩
 obtain ⟨r, hr⟩ : ∃ r : Nat, n % p = (r : Int) := ⟨(n % p).toNat, by have := Int.emod_nonneg n (show p ≠ 0 by omega); omega⟩
 have hrp : (r : Int) < p := by rw [← hr]; exact Int.emod_lt_of_pos n hp
 have hnp : n = a * p + r := by have := Int.mul_ediv_add_emod n p; rw [ha, hr, Int.mul_comm] at this; omega
 have hsp : (a : Int) * 65536 + nearI ((r : Int) * 65536) p = s := by
  rw [← hok, hnp, Int.add_mul, show (a : Int) * p * 65536 = (a * 65536) * p by rw [Int.mul_assoc, Int.mul_comm p, ← Int.mul_assoc], near_split _ _ _ hp (by omega)]
 have hr0 : 0 ≤ nearI ((r : Int) * 65536) p := by
  have := near_ge ((r : Int) * 65536) p; have := Int.ediv_nonneg (show 0 ≤ (r : Int) * 65536 by omega) (show 0 ≤ p by omega); omega
 have ha2 : a ≤ 16383 := by omega
 rw [ha, hr, Int.toNat_natCast, Int.toNat_natCast]
 have hlen : (decL r).length ≤ k := by
  obtain ⟨j, rfl⟩ : ∃ j, k = j + 1 := ⟨k - 1, by omega⟩
  exact decL_len r j (by rw [hpk]; omega)
 have hB := padL_len k (decL r) hlen; have hBd := padL_dig k (decL r) (decL_dig r)
 have hBv : accD 1000000000000 0 (padL k (decL r)) = r := by
  rw [accD_pad _ (by decide), accD_decL]
  have : p ≤ 100000 := by rw [← hpp]; have : k = 1 ∨ k = 2 ∨ k = 3 ∨ k = 4 ∨ k = 5 := by omega
                          rcases this with rfl | rfl | rfl | rfl | rfl <;> decide
  omega
 generalize hBB : padL k (decL r) = B at *; have hd : digL (decL a ++ 46 :: B) = decL a := takeWh isDig 46 _ (by decide) _ (decL_dig a); have hdB : digL B = B := takeW_all _ _ hBd
 have hdr : (pre ++ (decL a ++ 46 :: B)).drop (pre.length + (decL a).length + 1) = B := by
  rw [show pre ++ (decL a ++ 46 :: B) = (pre ++ decL a ++ [46]) ++ B by simp, show pre.length + (decL a).length + 1 = (pre ++ decL a ++ [46]).length by simp; omega, List.drop_left]
 have hat : (pre ++ (decL a ++ 46 :: B))[pre.length + (decL a).length]? = some 46 := by
  rw [← List.append_assoc, List.getElem?_append_right (by simp), List.length_append, Nat.sub_self]; rfl
 have hll : (pre ++ (decL a ++ 46 :: B)).length = pre.length + (decL a).length + 1 + k := by simp [hB]; omega
 unfold readS; rw [List.drop_left, hd, hdr, hdB, hat, hll, hB, hBv, accD_decL _ a (by omega)]; rw [if_neg (by omega), if_neg (by simp; omega), if_neg (by omega), if_neg (by omega), hpp, hsp, if_neg (by omega)]
set_option maxRecDepth 100000 in
set_option maxHeartbeats 4000000 in
theorem fixText_any (v : Int) (h0 : -1073741823 ≤ v) (h1 : v ≤ 1073741823) (w : World) :
 Calls Tryz.prog 132 #[.int .i64 v] w fun r w' => r = .returned (.string ⟨(fixL v).toArray⟩) ∧ Chg NoB w w' := by
 obtain ⟨s, hs⟩ : ∃ s : Int, (v.natAbs : Int) = s := ⟨_, rfl⟩
 obtain ⟨sg, hsg⟩ : ∃ sg : ByteArray, sg = ⟨(if v < 0 then [45] else ([] : List UInt8)).toArray⟩ := ⟨_, rfl⟩
 have hsgl : sg.toList = if v < 0 then [45] else [] := by rw [hsg, arr_lst]
 have hsgs : sg.size ≤ 1 := by rw [hsg]; split <;> simp [ByteArray.size]
 have hs0 : 0 ≤ s := by omega
 have hs1 : s ≤ 1073741823 := by omega
 have HFL := hid' (show (⟨(fixL v).toArray⟩ : ByteArray) = ⟨(sg.toList ++ sizeL (kF s) (nearF (kF s) s)).toArray⟩ by rw [hsgl]; unfold fixL; rw [hs]); have key : ∀ (w1 : World), Chg NoB w w1 → True := fun _ _ => trivial; clear key; have HKR := hid' (kF_rng s); have HKO := hid' (kF_ok s hs0 hs1); have HKN := hid' (kF_no s)
 have hsgi : (sg.size : Int) ≤ 1 := by omega
 have hsv : (if v < 0 then (⟨#[45]⟩ : ByteArray) else ⟨#[]⟩) = sg := by rw [hsg]; split <;> rfl
 have hvv : (if v < 0 then -v else v) = s := by split <;> omega
 clear hsgl hsg hs; go_enter Tryz.func132, Tryz.ntmps132
 by_cases c : v < 0
 all_goals
  (first | rw [if_pos c] at hsv hvv | rw [if_neg c] at hsv hvv)
  go_upto_region 6 with (fail)
  (try rw [hsv])
  (try rw [hvv])
  clear hsv hvv c; go_wp2_with fail
  go_loopw [5] (fun cv wr => ∃ k : Nat, 1 ≤ k ∧ k ≤ kF s ∧ cv = .int .i64 k ∧ Chg NoB w wr) (fun cv _ => 6 - (intOf cv).toNat)
  case atStart => exact ⟨1, Nat.le_refl _, HKR.out.1, rfl, Chg.refl _ _⟩
  case round =>
   obtain ⟨k, hk1, hk2, rfl, X⟩ := hrel; have HX := hid' X
   obtain ⟨p, hp⟩ : ∃ p : Int, (10 : Int) ^ k = p := ⟨_, rfl⟩
   have hp1 : 1 ≤ p ∧ p ≤ 100000 := by
    rw [← hp]; have := HKR.out
    have : k = 1 ∨ k = 2 ∨ k = 3 ∨ k = 4 ∨ k = 5 := by omega
    rcases this with rfl | rfl | rfl | rfl | rfl <;> decide
   obtain ⟨p0, p1⟩ := hp1; have HT := hid' (fun w' => tens_any k (by have := HKR.out; omega) w'); rw [hp] at HT; have m0' : 0 ≤ s * p := Int.mul_nonneg hs0 (by omega); have m1' : s * p ≤ 107374182300000 := Int.le_trans (Int.mul_le_mul_of_nonneg_left p1 hs0) (by omega)
   obtain ⟨q, hq⟩ : ∃ q : Int, s * p = q := ⟨_, rfl⟩
   rw [hq] at m0' m1'
   obtain ⟨n, hn⟩ : ∃ n : Int, nearI q 65536 = n := ⟨_, rfl⟩
   have HN1 := hid' (fun w' => nearest_any q 65536 m0' (by omega) (by decide) (by decide) w'); rw [hn] at HN1
   have n01 : 0 ≤ n ∧ n ≤ 1638400000 := by
    rw [← hn]; unfold nearI
    split <;> omega
   obtain ⟨n0, n1⟩ := n01
   obtain ⟨z, hz⟩ : ∃ z : Int, nearI (n * 65536) p = z := ⟨_, rfl⟩
   have HN2 := hid' (fun w' => nearest_any (n * 65536) p (by omega) (by omega) p0 (by omega) w'); rw [hz] at HN2
   have hok : okF k s = (z == s) := by unfold okF nearF; rw [hp, hq, hn, hz]
   have hnf : nearF k s = n := by unfold nearF; rw [hp, hq, hn]
   have HNF := hid' hnf; have HP := hid' hp; have HQ := hid' hq
   have wq : IntKind.i64.wrap (s * p) = q := by rw [hq]; exact IntWalk.i64_in _ (by omega)
   have hk6 : (k : Int) ≤ 5 := by have := HKR.out; omega
   obtain ⟨a, ha⟩ : ∃ a : Nat, n / p = (a : Int) := ⟨(n / p).toNat, by have := Int.ediv_nonneg n0 (show 0 ≤ p by omega); omega⟩
   obtain ⟨rr, hr⟩ : ∃ rr : Nat, n % p = (rr : Int) := ⟨(n % p).toNat, by have := Int.emod_nonneg n (show p ≠ 0 by omega); omega⟩
   have hrp : (rr : Int) < p := by rw [← hr]; exact Int.emod_lt_of_pos n (by omega)
   have han : (a : Int) ≤ n := by rw [← ha]; exact Int.ediv_le_self p n0
   have tm : n.tmod p = rr := by rw [Int.tmod_eq_emod_of_nonneg n0, hr]
   have td : n.tdiv p = a := by rw [Int.tdiv_eq_ediv_of_nonneg n0, ha]
   have HDR := hid' (fun w' => decimal_any rr (by omega) w'); have HDA := hid' (fun w' => decimal_any a (by omega) w')
   have hlr : (decL rr).length ≤ k := by
    obtain ⟨j, rfl⟩ : ∃ j, k = j + 1 := ⟨k - 1, by omega⟩
    refine decL_len rr j ?_
    have : ((10 ^ (j + 1) : Nat) : Int) = p := by rw [← hp]; push_cast; rfl
    omega
   have hla : (decL a).length ≤ 15 := decL_len a 14 (by omega); have HSL := hid' (show sizeL k n = decL a ++ 46 :: padL k (decL rr) by unfold sizeL; rw [hp, ha, hr, Int.toNat_natCast, Int.toNat_natCast])
   by_cases hkk : k = kF s
   · have hzs : z = s := by
      have := HKO.out; rw [← hkk, hok] at this
      simpa using this
     subst hzs; have HKK := hid' hkk; clear hok hnf hp hn hz hkk hk2 X; go_wp2_with fail
     refine (HT.out _).mono ?_; rintro r w1 ⟨rfl, rfl⟩; go_wp2_with fail
     refine (HN1.out _).mono ?_; rintro r w2 ⟨rfl, X2⟩; have HX2 := hid' (HX.out.pure X2); clear X2; go_wp2_with fail
     refine (HN2.out _).mono ?_; rintro r w3 ⟨rfl, X3⟩; have HX3 := hid' (HX2.out.pure X3); clear X3 HX2 HX; go_wp2_with fail
     refine (HDR.out _).mono ?_; rintro r w4 ⟨rfl, X4⟩; have HX4 := hid' (HX3.out.pure X4); clear X4 HX3
     obtain ⟨S0, hS0⟩ : ∃ S0 : ByteArray, S0 = ⟨(decL rr).toArray⟩ := ⟨_, rfl⟩
     have hS0l : S0.toList = decL rr := by rw [hS0]; exact arr_lst _
     have hS0s : S0.size = (decL rr).length := by rw [← size_lst, hS0l]
     rw [← hS0]; have HS0 := hid' hS0l; have HS1 := hid' hS0s; have HLR := hid' hlr; clear hS0 hS0l hS0s hlr; go_wp2_with fail
     go_loopw [8] (fun bv wr => ∃ (S : ByteArray) (m : Nat), m ≤ k ∧ S.size = m ∧ bv = .string S ∧ S.toList = List.replicate (m - (decL rr).length) 48 ++ decL rr ∧ (decL rr).length ≤ m ∧ Chg NoB w wr) (fun bv _ => match bv with | .string S => k - S.size | _ => 0)
     case atStart => exact ⟨S0, (decL rr).length, HLR.out, HS1.out, rfl, by rw [Nat.sub_self, HS0.out]; rfl, Nat.le_refl _, HX4.out⟩
     case round =>
      obtain ⟨S, m, hm, hSz, rfl, hSl, hml, X5⟩ := hrel; have HX5 := hid' X5; have HSZ := hid' hSz; have HSQ := hid' hSl
      have hm5 : S.size ≤ 5 := by have := HKR.out; omega
      clear X5 hSl
      by_cases hlt : m < k
      · have hlt' : decide (S.size < k) = true := by rw [hSz]; simpa using hlt
        have hlt2 : S.size < k := by omega
        clear hSz hlt; go_wp2_with fail
        go_roundw
        case rel =>
         refine ⟨_, m + 1, by have := HSZ.out; omega, ?_, rfl, ?_, by omega, HX5.out⟩
         · rw [ByteArray.size_append, HSZ.out]; have : (⟨#[48]⟩ : ByteArray).size = 1 := rfl; omega
         · rw [app_lst, one_lst, HSQ.out, show m + 1 - (decL rr).length = (m - (decL rr).length) + 1 by omega, List.replicate_succ]; rfl
        case measure => change k - (⟨#[48]⟩ ++ S : ByteArray).size < k - S.size; rw [ByteArray.size_append]; have : (⟨#[48]⟩ : ByteArray).size = 1 := rfl; omega
      · obtain rfl : m = k := by omega
        have hge : ¬ S.size < m := by omega
        clear hSz hlt; go_wp2_with fail
        refine (HDA.out _).mono ?_; rintro r w6 ⟨rfl, X6⟩; have HX6 := hid' (HX5.out.pure X6)
        obtain ⟨D, hD⟩ : ∃ D : ByteArray, D = ⟨(decL a).toArray⟩ := ⟨_, rfl⟩
        have hDl : D.toList = decL a := by rw [hD]; exact arr_lst _
        have hDs : D.size ≤ 15 := by rw [← size_lst, hDl]; exact hla
        rw [← hD]; have HD := hid' hDl; clear hD hDl X6; go_wp2_with fail
        go_ret; refine ⟨congrArg (fun s => Ending.returned (.string s)) ?_, HX6.out⟩; rw [HFL.out, ← HKK.out, HNF.out, HSL.out]; refine lst_inj (s := sg ++ D ++ ⟨#[46]⟩ ++ S) ?_; refine Eq.trans ?_ (arr_lst _).symm; rw [app_lst, app_lst, app_lst, one_lst, HD.out, HSQ.out]; simp [padL]
   · have hno : okF k s = false := HKN.out k hk1 (by omega)
     have hzs : (z != s) = true := by rw [hok] at hno; simpa using hno
     have HKK := hid' hkk; have HK2 := hid' hk2; clear hok hnf hp hn hz hkk hk2 X hno; go_wp2_with fail
     refine (HT.out _).mono ?_; rintro r w1 ⟨rfl, rfl⟩; go_wp2_with fail
     refine (HN1.out _).mono ?_; rintro r w2 ⟨rfl, X2⟩; have HX2 := hid' (HX.out.pure X2); clear X2; go_wp2_with fail
     refine (HN2.out _).mono ?_; rintro r w3 ⟨rfl, X3⟩; have HX3 := hid' (HX2.out.pure X3); clear X3 HX2 HX; go_wp2_with fail
     go_roundw
     case rel => exact ⟨k + 1, by omega, by have := HKK.out; have := HK2.out; omega, by go_num, HX3.out⟩
     case measure => simp [intOf]; have := HK2.out; have := HKR.out; omega
theorem plain_fix (v : Int) (hp : Nat) (h0 : -1073741823 ≤ v) (h1 : v ≤ 1073741823) (w : World) :
 Calls Tryz.prog 96 #[ptr hp, (fO v).val] w fun r w' => r = .returned (.string ⟨(fixL v).toArray⟩) ∧ Chg NoB w w' := by
 have HM := may_any (fO v); rw [show mayO (fO v) = true by simp [mayO, eqO, bareO, O.nil, h0, h1]] at HM; have HM2 := hid' HM; have HN := hid' (fixText_any v h0 h1); clear HM; go_enter Tryz.func96, Tryz.ntmps96
 go_wp2_with fail
 have hb := blk_new w (.cells #[.int .i64 4, .bool false, .int .i64 v, .int .i64 0, .int .i64 0, .string ⟨#[]⟩] 39); have X := (Chg.refl NoB w).alloc (.cells #[.int .i64 4, .bool false, .int .i64 v, .int .i64 0, .int .i64 0, .string ⟨#[]⟩] 39); generalize w.alloc (.cells #[.int .i64 4, .bool false, .int .i64 v, .int .i64 0, .int .i64 0, .string ⟨#[]⟩] 39) = w1 at *; refine (HM2.out _).mono ?_; rintro r w2 ⟨rfl, X2⟩; have R2 := cells_of (X2.blk hb id); have l2 := blk_lt (X2.blk hb id); clear hb; go_wp2_with fail
 refine (HN.out _).mono ?_; rintro r w3 ⟨rfl, X3⟩; go_wp2_with fail
 go_ret; exact ⟨rfl, (X.trans X2).trans X3⟩
abbrev bytesB (l : List UInt8) : ByteArray := ⟨l.toArray⟩
abbrev nameT (k : Int) (l : List UInt8) : Tok := ⟨k, 0, bytesB l, 0⟩
def nameF (k : Int) (l : List UInt8) : Int × Tok × Nat := if 100 < regL l then (5, Tok.nil, 0) else (0, nameT k (l.take (regL l)), regL l)
abbrev wordV (t : Tok) (nx : Int) (e : Int) : Value := .tuple #[t.val, .int .i64 nx, .int .i64 e]
def WordEnd (w : World) (a : Nat) (R : Int × Tok × Nat) (r : Ending) (w' : World) : Prop :=
 ∃ t nx, r = .returned (wordV t nx R.1) ∧ Chg NoB w w' ∧ (R.1 = 0 → t = R.2.1 ∧ nx = ((a + R.2.2 : Nat) : Int))
theorem extract_lst (s : ByteArray) (a n : Nat) (_h : a + n ≤ s.size) : s.extract a (a + n) = bytesB ((s.toList.drop a).take n) := by
 have e : (s.extract a (a + n)).toList = (s.toList.drop a).take n := by
  rw [ByteArray.toList_eq, ByteArray.toList_eq, ByteArray.data_extract]; simp [List.extract_eq_take_drop]
 have e2 : s.extract a (a + n) = bytesB (s.extract a (a + n)).toList := by
  rw [ByteArray.toList_eq]
 rw [e2, e]
set_option maxRecDepth 100000 in
set_option maxHeartbeats 1000000 in
theorem tname_any (s : ByteArray) (a : Nat) (k : Int) (hs : s.size ≤ 1000000) (ha : a ≤ s.size) (w : World) :
 Calls Tryz.prog 156 #[.string s, .int .i64 a, .int .i64 k] w (WordEnd w a (nameF k (s.toList.drop a))) := by
 have hR : nameF k (s.toList.drop a) = if 100 < regL (s.toList.drop a) then (5, Tok.nil, 0) else (0, nameT k ((s.toList.drop a).take (regL (s.toList.drop a))), regL (s.toList.drop a)) := rfl
 have hn := regL_le (s.toList.drop a); rw [List.length_drop, size_lst] at hn; have hx := extract_lst s a (regL (s.toList.drop a)) (by omega); have hreg := fun w => regular_any s a hs (by omega) w; generalize nameF k (s.toList.drop a) = R at *; generalize regL (s.toList.drop a) = n at *; have HREG := hid' hreg
 have hn' : (n : Int) ≤ (s.size : Int) - a := by omega
 have hsum : (a : Int) + n ≤ s.size := by omega
 clear hreg
 by_cases c : 100 < n
 · have HR := hid' (hR.trans (if_pos c))
   have c' : 100 < (n : Int) := by omega
   clear hR hx c; go_enter Tryz.func156, Tryz.ntmps156
   go_wp2_with fail
   refine (HREG.out _).mono ?_; rintro r w1 ⟨rfl, rfl⟩; go_wp2_with fail
   refine bodyPost_ret (v := wordV Tok.nil 0 5) (by simp [results, Tryz.results156, go_sem, Tok.nil]) rfl ?_; unfold WordEnd; rw [HR.out]; refine ⟨Tok.nil, 0, rfl, ?_, fun h => absurd h (by decide)⟩
   (repeat' (first | with_reducible assumption | with_reducible refine Chg.alloc ?_ _ | with_reducible refine Chg.drew ?_ | with_reducible refine Chg.drewN ?_ _ | with_reducible refine Chg.setCell ?_ (Or.inr ?_) _ | exact Nat.le_refl _ | exact Nat.le_add_right _ _ | (simp; done) | (simp; omega)))
   exact Chg.refl _ _
 · have HR := hid' (hR.trans (if_neg c))
   have c' : (n : Int) ≤ 100 := by omega
   have HX := hid' hx; clear hR hx c; go_enter Tryz.func156, Tryz.ntmps156
   go_wp2_with fail
   refine (HREG.out _).mono ?_; rintro r w1 ⟨rfl, rfl⟩; go_wp2_with fail
   refine bodyPost_ret (v := wordV ⟨k, 0, s.extract a (a + n), 0⟩ (a + n) 0) (by simp [results, Tryz.results156, go_sem]) rfl ?_; unfold WordEnd; rw [HR.out]; exact ⟨_, _, rfl, (Chg.refl NoB w).alloc _, fun _ => ⟨by rw [HX.out], by simp only [Int.natCast_add]⟩⟩
theorem bytesB_lst (l : List UInt8) : (bytesB l).toList = l := by rw [ByteArray.toList_eq]
theorem ext_size (s : ByteArray) (a b : Nat) (h : b ≤ s.size) : (s.extract a b).size ≤ s.size := by
 rw [ByteArray.size_extract]; omega
def pre (k : Nat) (l : List UInt8) : Bool := (signL k).isPrefixOf l
def sgF : Nat → Nat → List UInt8 → Nat
 | 0, _, _ => 0
 | f + 1, k, l => if pre k l = true then k else sgF f (k + 1) l
theorem sgF_yes (f k : Nat) (l : List UInt8) (h : pre k l = true) : sgF (f + 1) k l = k := by rw [sgF, if_pos h]
theorem sgF_no (f k : Nat) (l : List UInt8) (h : ¬ pre k l = true) : sgF (f + 1) k l = sgF f (k + 1) l := by rw [sgF, if_neg h]
theorem pre_iff (s : ByteArray) (a k : Nat) (ha : a ≤ s.size) : pre k (s.toList.drop a) = true ↔ (a + (signB k).size ≤ s.size ∧ s.extract a (a + (signB k).size) = signB k) := by
 have hsz : (signB k).size = (signL k).length := rfl; unfold pre; rw [List.isPrefixOf_iff_prefix, List.prefix_iff_eq_take, hsz]
 have hl : (s.toList.drop a).length = s.size - a := by rw [List.length_drop, size_lst]
 constructor
 · intro h
   have h1 : (signL k).length ≤ s.size - a := by rw [h, List.length_take, hl]; omega
   have h2 : a + (signL k).length ≤ s.size := by omega
   refine ⟨h2, ?_⟩; rw [extract_lst s a _ h2, ← h]
 · rintro ⟨h1, h2⟩; rw [extract_lst s a _ h1] at h2; have := congrArg (fun b : ByteArray => b.data.toList) h2
   simpa using this.symm
theorem quiet_lf {P : Program} {f : FuncId} {args : Array Value} {n : Nat}
 (h : Calls P f args (w.drewN n) fun e w' => e = .returned v ∧ w.drewN n = w') : Calls P f args (w.drewN n) fun e w'' => e = .returned v ∧ ∃ m, w'' = w.drewN m :=
 h.mono fun _ _ ⟨he, hm⟩ => ⟨he, n, hm.symm⟩
def wordF (l : List UInt8) : Int × Tok × Nat :=
 if sgF 6 7 l ≠ 0 then (0, ⟨sgF 6 7 l, 0, ⟨#[]⟩, 0⟩, (signL (sgF 6 7 l)).length)
 else if l.head? = some 40 ∨ l.head? = some 60 then ((takeF l).1, ⟨6, 0, bytesB (takeF l).2.1, 0⟩, (takeF l).2.2)
 else if l.head? = some 62 ∨ l.head? = some 41 then (3, Tok.nil, 0)
 else if l.head? = some 47 then
  if (l.drop 1).head? = some 47 then ((nameF 5 (l.drop 2)).1, (nameF 5 (l.drop 2)).2.1, 2 + (nameF 5 (l.drop 2)).2.2)
  else ((nameF 4 (l.drop 1)).1, (nameF 4 (l.drop 1)).2.1, 1 + (nameF 4 (l.drop 1)).2.2)
 else if (readF (l.take (regL l))).2.2 = 0 then (0, ⟨(readF (l.take (regL l))).1, (readF (l.take (regL l))).2.1, ⟨#[]⟩, 0⟩, regL l)
 else if (readF (l.take (regL l))).2.2 = 2 then (2, Tok.nil, 0)
 else nameF 3 l
def nextF (l : List UInt8) : Int × Tok × Nat × Nat :=
 if l.drop (skipL false l) = [] then (0, Tok.nil, skipL false l, 0)
 else if (wordF (l.drop (skipL false l))).1 = 0 then (0, (wordF (l.drop (skipL false l))).2.1, skipL false l, (wordF (l.drop (skipL false l))).2.2)
 else ((wordF (l.drop (skipL false l))).1, Tok.nil, skipL false l, 0)
def tokAt (a : Nat) (l : List UInt8) : Tok := if l.drop (skipL false l) = [] ∨ (nextF l).1 ≠ 0 then Tok.nil else { (nextF l).2.1 with pos := ((a + skipL false l : Nat) : Int) }
abbrev nextV (a : Nat) (l : List UInt8) : Value := wordV (tokAt a l) ((a + (nextF l).2.2.1 + (nextF l).2.2.2 : Nat) : Int) (nextF l).1
theorem skipL_len : ∀ (b : Bool) (l : List UInt8), skipL b l ≤ l.length
 | true, [] => Nat.le_refl _
 | false, [] => Nat.le_refl _
 | true, c :: t => by
  have h1 := skipL_len false t; have h2 := skipL_len true t
  rw [skipL]; simp only [List.length_cons]; split <;> omega
 | false, c :: t => by
  have h1 := skipL_len false t; have h2 := skipL_len true t; rw [skipL]; simp only [List.length_cons]; split; · omega
  split <;> omega
def allW : Nat → List UInt8 → Nat → List Tok → Int × List Tok × Nat
 | 0, _, _, acc => (0, acc, 0)
 | f + 1, l, a, acc =>
  if (nextF l).1 ≠ 0 then ((nextF l).1, [], a + (nextF l).2.2.1 + (nextF l).2.2.2)
  else if (tokAt a l).kind = 0 then (0, acc, 0)
  else if acc.length = 4000 then (5, [], a + (nextF l).2.2.1)
  else allW f (l.drop ((nextF l).2.2.1 + (nextF l).2.2.2)) (a + (nextF l).2.2.1 + (nextF l).2.2.2) (acc ++ [tokAt a l])
def allF (l : List UInt8) : Int × List Tok × Nat := if 20000 < l.length then (5, [], 0) else allW (l.length + 1) l 0 []
def Tok.cells (t : Tok) : List Value := [.int .i64 t.kind, .int .i64 t.n, .string t.s, .int .i64 t.pos]
def toksV (l : List Tok) : List Value := l.flatMap Tok.cells
def AllEnd (w : World) (R : Int × List Tok × Nat) (r : Ending) (w' : World) : Prop :=
 ∃ v, r = .returned (.tuple #[v, .int .i64 (R.2.2 : Nat), .int .i64 R.1]) ∧ Chg NoB w w' ∧ w'.ownsRow w.heap.size 41 4 v R.2.1.length (toksV R.2.1) ∧ (R.2.1 = [] → v = .slice none 0 0)
theorem infoTok : (Tryz.prog.info? 41).map (fun i => (i.zero, i.size, i.bytes)) = some (some (.agg #[.int .i64 0, .int .i64 0, .string ⟨#[]⟩, .int .i64 0]), 4, 40) := by kernel_rfl
theorem underToks : Tryz.prog.underlying 22 = some (.slice 41) := by kernel_rfl
theorem cells_newT (w : World) (o : Obj) (cs : List Value) (t : TypeId) : ∀ j u, cs[j]? = some u → ((w.alloc o).alloc (.cells cs.toArray t)).cell? ((⟨w.heap.size + 1, 0, none⟩ : Addr).add j) = some u := fun j u hj => by
 have := cells_of (blk_new1 w o (.cells cs.toArray t)) j; rw [add_z, this]; simpa using hj
def eqT (a b : Tok) : Bool := decide (a = b)
theorem bytes_eq' (s s' : ByteArray) : (s.toList == s'.toList) = decide (s = s') := by
 by_cases h : s = s'
 · subst h; simp
 · have : s.toList ≠ s'.toList := by
    intro e; rw [ByteArray.toList_eq, ByteArray.toList_eq] at e; exact h (by cases s; cases s'; simp_all [Array.toList_inj])
   simp [h, this]
theorem Tok.ext_iff' (k k' n n' p p' : Int) (s s' : ByteArray) : ((⟨k, n, s, p⟩ : Tok) = ⟨k', n', s', p'⟩) ↔ (k = k' ∧ n = n' ∧ s = s' ∧ p = p') := by
 constructor
 · intro h; cases h; exact ⟨rfl, rfl, rfl, rfl⟩
 · rintro ⟨rfl, rfl, rfl, rfl⟩; rfl
theorem run_eqT (k k' n n' p p' : Int) (s s' : ByteArray) (w : World) :
 (Op.equalIn 10000 41 (.agg #[.int .i64 k, .int .i64 n, .string s, .int .i64 p]) (.agg #[.int .i64 k', .int .i64 n', .string s', .int .i64 p'])).run Tryz.prog w = .ok (eqT ⟨k, n, s, p⟩ ⟨k', n', s', p'⟩) w := by
 have e : (Op.equalIn 10000 41 (.agg #[.int .i64 k, .int .i64 n, .string s, .int .i64 p]) (.agg #[.int .i64 k', .int .i64 n', .string s', .int .i64 p'])).run Tryz.prog w = .ok ((k == k') && (n == n') && (s.toList == s'.toList) && (p == p')) w := by
  rw [run_equalIn_struct w 9999 41 _ _ (by kernel_rfl) (by kernel_rfl)]; simp [go_sem, Op.eqFields]
  by_cases h1 : k = k' <;> by_cases h2 : n = n' <;> by_cases h3 : p = p' <;> by_cases h4 : s.toList = s'.toList <;> simp [*]
 rw [e, bytes_eq']; unfold eqT; refine congrArg (fun b => Result.ok b w) ?_; simp only [Tok.ext_iff']
 by_cases h1 : k = k' <;> by_cases h2 : n = n' <;> by_cases h3 : p = p' <;> by_cases h4 : s = s' <;> simp [*]
@[go_sem high] theorem run_eqlT (k k' n n' p p' : Int) (s s' : ByteArray) (w : World) :
 (binOp .eql 41 (.agg #[.int .i64 k, .int .i64 n, .string s, .int .i64 p]) (.agg #[.int .i64 k', .int .i64 n', .string s', .int .i64 p'])).run Tryz.prog w = .ok (.bool (eqT ⟨k, n, s, p⟩ ⟨k', n', s', p'⟩)) w := by
 rw [run_eql_struct, run_eqT]; rfl
@[go_sem high] theorem run_neqT (k k' n n' p p' : Int) (s s' : ByteArray) (w : World) :
 (binOp .neq 41 (.agg #[.int .i64 k, .int .i64 n, .string s, .int .i64 p]) (.agg #[.int .i64 k', .int .i64 n', .string s', .int .i64 p'])).run Tryz.prog w = .ok (.bool (!eqT ⟨k, n, s, p⟩ ⟨k', n', s', p'⟩)) w := by
 rw [run_neq_struct, run_eqT]; rfl
def TokC (w : World) (b off : Nat) (t : Tok) : Prop := w.cell? ⟨b, off, none⟩ = some (.int .i64 t.kind) ∧ w.cell? ⟨b, off + 1, none⟩ = some (.int .i64 t.n) ∧ w.cell? ⟨b, off + 2, none⟩ = some (.string t.s) ∧ w.cell? ⟨b, off + 3, none⟩ = some (.int .i64 t.pos)
def ToksAt (w : World) (v : Value) (l : List Tok) : Prop :=
 ∃ a cap, v = .slice a l.length cap ∧ l.length ≤ cap ∧ (0 < l.length → ∃ b off, a = some ⟨b, off, none⟩ ∧ b < w.heap.size ∧ ∀ (i : Nat) (t : Tok), l[i]? = some t → TokC w b (off + i * 4) t)
theorem cell_lt {a : Addr} (h : w.cell? a = some v) : a.block < w.heap.size := by
 apply Classical.byContradiction
 intro hn; have : w.heap[a.block]? = none := Array.getElem?_eq_none (by omega); simp [World.cell?, this] at h
theorem Chg.keeps (h : Chg NoB w w') {a : Addr} {v : Value} (hv : w.cell? a = some v) : w'.cell? a = some v := by
 rw [h.below.cell (cell_lt hv)]; exact hv
theorem TokC.pure {b off : Nat} {t : Tok} (h : TokC w b off t) (X : Chg NoB w w') : TokC w' b off t :=
 ⟨X.keeps h.1, X.keeps h.2.1, X.keeps h.2.2.1, X.keeps h.2.2.2⟩
theorem ToksAt.pure {l : List Tok} (h : ToksAt w v l) (X : Chg NoB w w') : ToksAt w' v l := by
 obtain ⟨a, cap, h1, h2, h3⟩ := h; refine ⟨a, cap, h1, h2, fun hl => ?_⟩; obtain ⟨b, off, h4, h5, h6⟩ := h3 hl; exact ⟨b, off, h4, Nat.lt_of_lt_of_le h5 X.size, fun i t ht => (h6 i t ht).pure X⟩
theorem toksV_get (l : List Tok) (i j : Nat) (t : Tok) (h : l[i]? = some t) (hj : j < 4) : (toksV l)[i * 4 + j]? = (Tok.cells t)[j]? := by
 unfold toksV
 induction l generalizing i with
 | nil => simp at h
 | cons x l ih =>
  cases i with
  | zero =>
   simp at h; subst h
   rw [List.flatMap_cons, List.getElem?_append_left (by simp [Tok.cells]; omega)]; simp
  | succ i =>
   rw [List.flatMap_cons, List.getElem?_append_right (by simp [Tok.cells]; omega)]
   have : (i + 1) * 4 + j - (Tok.cells x).length = i * 4 + j := by simp [Tok.cells]; omega
   rw [this]; exact ih i (by simpa using h)
theorem ToksAt.of_own {B : Nat} {l : List Tok} (h : w.ownsRow B 41 4 v l.length (toksV l)) : ToksAt w v l := by
 rcases h.2 with ⟨rfl, h0⟩ | ⟨g, cap, cur, rfl, h1, h2, h3, h4, h5, h6⟩
 · exact ⟨none, 0, by rw [h0], by omega, fun h => by omega⟩
 · refine ⟨_, cap, rfl, h3, fun _ => ⟨g, 0, rfl, blk_lt h2, fun i t ht => ?_⟩⟩; have hi : i < l.length := (List.getElem?_eq_some_iff.1 ht).1
   have key : ∀ j, j < 4 → w.cell? ⟨g, 0 + i * 4 + j, none⟩ = (Tok.cells t)[j]? := fun j hj => by
    rw [Nat.zero_add, cells_of h2, ← Array.getElem?_toList]
    have : cur.toList[i * 4 + j]? = (cur.toList.take (l.length * 4))[i * 4 + j]? := by rw [List.getElem?_take, if_pos (by omega)]
    rw [this, h6, toksV_get l i j t ht hj]
   exact ⟨key 0 (by decide), key 1 (by decide), key 2 (by decide), key 3 (by decide)⟩
def PlainC (s : ByteArray) (j : Nat) (h : j < s.size) : Prop :=
 s[j] ≠ 40 ∧ s[j] ≠ 60 ∧ s[j] ≠ 62 ∧ s[j] ≠ 41 ∧ (s[j] = 47 → ∃ h2 : j + 1 < s.size, s[j + 1] ≠ 47) ∧ (readF ((s.toList.drop j).take (regL (s.toList.drop j)))).2.2 ≠ 2
set_option maxRecDepth 100000 in
set_option maxHeartbeats 4000000 in
theorem word_pl (s : ByteArray) (a : Nat) (hs : s.size ≤ 1000000) (ha : a < s.size) (hq : PlainC s a ha) (w : World) :
 Calls Tryz.prog 138 #[.string s, .int .i64 a] w (WordEnd w a (wordF (s.toList.drop a))) := by
 obtain ⟨R, hR⟩ : ∃ R, wordF (s.toList.drop a) = R := ⟨_, rfl⟩
 rw [hR]; have HR := hid' hR; clear hR
 have ha' : (a : Int) < s.size := by omega
 have h0 : (0 : Int) ≤ a := by omega
 go_enter Tryz.func138, Tryz.ntmps138
 go_wp2_with fail
 go_loopw [7] (fun kv wr => ∃ k : Nat, 7 ≤ k ∧ k ≤ 13 ∧ kv = .int .i64 k ∧ sgF 6 7 (s.toList.drop a) = sgF (13 - k) k (s.toList.drop a) ∧ Chg NoB w wr ∧ wr.heap[w.heap.size]? = some (.cells #[.int .i64 0, .int .i64 0, .string ⟨#[]⟩, .int .i64 0] 41 (0, 0))) (fun kv _ => 13 - (intOf kv).toNat)
 case atStart => exact ⟨7, by omega, by omega, rfl, rfl, (Chg.refl NoB w).alloc _, blk_new w _⟩
 case round =>
  obtain ⟨k, hk7, hk13, rfl, h1, X, hb⟩ := hrel; have H1 := hid' h1; clear h1
  by_cases hk : k < 13
  · have hk' : (k : Int) ≤ 12 := by omega
    have hp := pre_iff s a k (by omega); have hsg := fun w => sign_any (k : Int) (by omega) (by omega) w; have hsz : (signB k).size = (signL k).length := rfl
    have hszb : (signB k).size ≤ 2 := by
     rw [hsz]; unfold signL
     split <;> (try split) <;> (try split) <;> (try split) <;> (try split) <;> (try split) <;> simp
    have HLN := hid' hsz; clear hsz; generalize signB (k : Int) = S at *; have HSG := hid' hsg; clear hsg
    by_cases g1 : a + S.size ≤ s.size
    rotate_left
    · have g1' : decide (a + S.size ≤ s.size) = false := by simp; omega
      have g1'' : decide ((a : Int) + (S.size : Int) ≤ (s.size : Int)) = false := by simp; omega
      have wr1 : IntKind.i64.wrap ((a : Int) + (S.size : Int)) = (a : Int) + (S.size : Int) := IntWalk.i64_in _ (by omega); have HN := hid' (sgF_no (12 - k) k (s.toList.drop a) (fun h => g1 (hp.1 h).1)); clear hp g1; go_wp2_with fail
      refine (HSG.out _).mono ?_; rintro r w1 ⟨rfl, rfl⟩; go_wp2_with fail
      go_quiet ((go_at_call 74; exact quiet_lf (HSG.out _)))
      clear wr1; go_wp2_with fail
      go_roundw
      case rel => exact ⟨k + 1, by omega, by omega, by go_num, by rw [H1.out, show 13 - k = 12 - k + 1 by omega, HN.out, show 12 - k = 13 - (k + 1) by omega], X.drewN _, hb⟩
      case measure => simp [intOf]; omega
    have g1' : decide (a + S.size ≤ s.size) = true := by simp; omega
    have g1'' : decide ((a : Int) + (S.size : Int) ≤ (s.size : Int)) = true := by simp; omega
    have g0 : (a : Int) + (S.size : Int) ≤ (s.size : Int) := by omega
    have q0 : (0 : Int) ≤ (a : Int) + (S.size : Int) := by omega
    have q1 : (a : Int) ≤ (a : Int) + (S.size : Int) := by omega
    have q2 : ((a : Int) + (S.size : Int)).toNat = a + S.size := by omega
    have wr1 : IntKind.i64.wrap ((a : Int) + (S.size : Int)) = (a : Int) + (S.size : Int) := IntWalk.i64_in _ (by omega)
    by_cases g2 : s.extract a (a + S.size) = S
    · have HY := hid' (sgF_yes (12 - k) k (s.toList.drop a) (hp.2 ⟨g1, g2⟩))
      have e2 : ((s.extract a (a + S.size)).toList == S.toList) = true := by rw [g2]; simp
      clear hp g1 g2; go_wp2_with fail
      refine (HSG.out _).mono ?_; rintro r w1 ⟨rfl, rfl⟩; go_wp2_with fail
      go_quiet ((go_at_call 74; exact quiet_lf (HSG.out _)))
      clear wr1; have X' := X.drewN nq; have hb' : (wr.drewN nq).heap[w.heap.size]? = some (.cells #[.int .i64 0, .int .i64 0, .string ⟨#[]⟩, .int .i64 0] 41 (0, 0)) := hb; generalize wr.drewN nq = w2 at *; have R4 := cells_of hb'; have Z4 := free_of hb'; have l4 := blk_lt hb'; have HF := hid' (HR.out.symm.trans (if_pos (by rw [H1.out, show 13 - k = 12 - k + 1 by omega, HY.out]; omega) : wordF (s.toList.drop a) = _)); rw [show sgF 6 7 (s.toList.drop a) = k by rw [H1.out, show 13 - k = 12 - k + 1 by omega, HY.out], ← HLN.out] at HF; clear hb hb' HLN H1 HY HR; go_wp2
      refine bodyPost_ret (v := wordV ⟨k, 0, ⟨#[]⟩, 0⟩ (a + S.size) 0) (by simp [results, Tryz.results138, go_sem, R4, cell_set_at]) rfl ?_; unfold WordEnd; rw [HF.out]; refine ⟨_, _, rfl, ?_, fun _ => ⟨rfl, by simp only [Int.natCast_add]⟩⟩
      (repeat' (first | with_reducible assumption | with_reducible refine Chg.alloc ?_ _ | with_reducible refine Chg.drew ?_ | with_reducible refine Chg.drewN ?_ _ | with_reducible refine Chg.setCell ?_ (Or.inr ?_) _ | exact Nat.le_refl _ | exact Nat.le_add_right _ _ | (simp; done) | (simp; omega)))
    have e2 : ((s.extract a (a + S.size)).toList == S.toList) = false := by
     rw [beq_eq_false_iff_ne]; intro e; rw [ByteArray.toList_eq, ByteArray.toList_eq] at e; exact g2 (ByteArray.ext (Array.toList_inj.1 e))
    have HN := hid' (sgF_no (12 - k) k (s.toList.drop a) (fun h => g2 (hp.1 h).2)); clear hp g1 g2; go_wp2_with fail
    refine (HSG.out _).mono ?_; rintro r w1 ⟨rfl, rfl⟩; go_wp2_with fail
    go_quiet ((go_at_call 74; exact quiet_lf (HSG.out _)))
    clear wr1; go_wp2_with fail
    go_roundw
    case rel => exact ⟨k + 1, by omega, by omega, by go_num, by rw [H1.out, show 13 - k = 12 - k + 1 by omega, HN.out, show 12 - k = 13 - (k + 1) by omega], X.drewN _, hb⟩
    case measure => simp [intOf]; omega
  obtain rfl : k = 13 := by omega
  have hh : (s.toList.drop a).head? = some s[a] := by rw [drop_at s a ha]; rfl
  have hF0 := HR.out.symm.trans (if_neg (by rw [H1.out]; simp [sgF]) : wordF (s.toList.drop a) = _); rw [hh] at hF0; have hb0 := hb; clear HR H1 hb hh; have hge : w.heap.size ≤ wr.heap.size := X.size; have hb := hb0; clear hb0; obtain ⟨e40, e60, e62, e41, e47q, hr2⟩ := hq; have u40 := u8F 40 e40 (40 : Int); have u60 := u8F 60 e60 (60 : Int); have hF1 := hF0.trans (if_neg (by rintro (h | h); exact e40 (by simpa using h); exact e60 (by simpa using h))); clear hF0 e40 e60; have R4 := cells_of hb; have Z4 := free_of hb; have l4 := blk_lt hb; have u62 := u8F 62 e62 (62 : Int); have u41 := u8F 41 e41 (41 : Int); have hF2 := hF1.trans (if_neg (by rintro (h | h); exact e62 (by simpa using h); exact e41 (by simpa using h))); clear hF1 e62 e41
  by_cases e47 : s[a] = 47
  · have u47 := u8T 47 e47 (47 : Int); have hF3 := hF2.trans (if_pos (by rw [e47])); obtain ⟨hn, e2⟩ := e47q e47; clear hF2 e47 e47q
    · have hn' : (a : Int) + 1 < s.size := by omega
      have hh : ((s.toList.drop a).drop 1).head? = some s[a + 1] := by rw [List.drop_drop, drop_at s (a + 1) hn]; rfl
      rw [hh] at hF3
      · have v47 := u8F 47 e2 (47 : Int); have hF4 := hF3.trans (if_neg (by simpa using e2)); have HN := hid' (tname_any s (a + 1) 4 hs (by omega) wr); rw [List.drop_drop] at hF4; generalize nameF 4 (s.toList.drop (a + 1)) = N at *; obtain ⟨ne, nt, nn⟩ := N; simp only at hF4; have HF := hid' hF4; clear hF4 hF3 hh e2; go_wp2_with fail
        refine HN.out.mono ?_; rintro r w2 ⟨nt', nx, rfl, X2, hq⟩; have HQ := hid' hq; have hb2 := X2.blk hb id; have R4 := cells_of hb2; have Z4 := free_of hb2; have l4 := blk_lt hb2; have X3 := X.trans X2; clear hb hb2 HN hq; obtain ⟨nk, nv, ns, np⟩ := nt'; go_wp2
        refine bodyPost_ret (v := wordV ⟨nk, nv, ns, np⟩ nx ne) (by simp [results, Tryz.results138, go_sem, R4, cell_set_at]) rfl ?_; unfold WordEnd; rw [HF.out]; refine ⟨_, _, rfl, ?_, fun h => ⟨(HQ.out h).1, by rw [(HQ.out h).2]; simp only [Nat.add_assoc]⟩⟩
        (repeat' (first | with_reducible assumption | with_reducible refine Chg.alloc ?_ _ | with_reducible refine Chg.drew ?_ | with_reducible refine Chg.drewN ?_ _ | with_reducible refine Chg.setCell ?_ (Or.inr ?_) _ | exact Nat.le_refl _ | exact Nat.le_add_right _ _ | (simp; done) | (simp; omega)))
  have u47 := u8F 47 e47 (47 : Int); have hF3 := hF2.trans (if_neg (by simpa using e47)); clear hF2 e47 e47q; have hnl := regL_le (s.toList.drop a); rw [List.length_drop, size_lst] at hnl; have hx := extract_lst s a (regL (s.toList.drop a)) (by omega); have hreg := regular_any s a hs (by omega) wr; have hrd := fun w => read_any (s.extract a (a + regL (s.toList.drop a))) (by have := ext_size s a (a + regL (s.toList.drop a)) (by omega); omega) w
  have hxl : (s.extract a (a + regL (s.toList.drop a))).toList = (s.toList.drop a).take (regL (s.toList.drop a)) := by rw [hx]; exact bytesB_lst _
  rw [hxl] at hrd; clear hxl; have HNM := hid' (fun w => tname_any s a 3 hs (by omega) w); generalize nameF 3 (s.toList.drop a) = N at *; generalize readF ((s.toList.drop a).take (regL (s.toList.drop a))) = RD at *; generalize regL (s.toList.drop a) = n at *
  have hsum : (a : Int) + n ≤ s.size := by omega
  have HRG := hid' hreg; have HRD := hid' hrd; clear hreg hrd hx R4 Z4 l4; obtain ⟨rk, rv, re⟩ := RD; simp only at hF3 hr2
  by_cases c0 : re = 0
  · subst c0; have HF := hid' (hF3.trans (if_pos rfl)); clear hF3 hr2; go_wp2_with fail
    refine HRG.out.mono ?_; rintro r w2 ⟨rfl, rfl⟩; go_wp2_with fail
    refine (HRD.out _).mono ?_; rintro r w2 ⟨rfl, X2⟩; have hb2 := X2.blk hb id; have R4 := cells_of hb2; have Z4 := free_of hb2; have l4 := blk_lt hb2; have X3 := X.trans X2; clear hb hb2 HRG HRD HNM; go_wp2
    refine bodyPost_ret (v := wordV ⟨rk, rv, ⟨#[]⟩, 0⟩ (a + n) 0) (by simp [results, Tryz.results138, go_sem, R4, cell_set_at]) rfl ?_; unfold WordEnd; rw [HF.out]; refine ⟨_, _, rfl, ?_, fun _ => ⟨rfl, by simp only [Int.natCast_add]⟩⟩
    (repeat' (first | with_reducible assumption | with_reducible refine Chg.alloc ?_ _ | with_reducible refine Chg.drew ?_ | with_reducible refine Chg.drewN ?_ _ | with_reducible refine Chg.setCell ?_ (Or.inr ?_) _ | exact Nat.le_refl _ | exact Nat.le_add_right _ _ | (simp; done) | (simp; omega)))
  have c0' : (re == 0) = false := by simpa using c0
  have c2 : ¬ re = 2 := hr2
  have c2' : (re == 2) = false := by simpa using c2
  have HF := hid' (hF3.trans ((if_neg c0).trans (if_neg c2))); clear hF3 c0 c2; go_wp2_with fail
  refine HRG.out.mono ?_; rintro r w2 ⟨rfl, rfl⟩; go_wp2_with fail
  refine (HRD.out _).mono ?_; rintro r w2 ⟨rfl, X2⟩; have hb2 := X2.blk hb id; have X3 := X.trans X2; clear hb HRG HRD; go_wp2_with fail
  refine (HNM.out _).mono ?_; rintro r w3 ⟨nt', nx, rfl, X4, hq⟩; have HQ := hid' hq; have hb3 := X4.blk hb2 id; have R4 := cells_of hb3; have Z4 := free_of hb3; have l4 := blk_lt hb3; have X5 := X3.trans X4; clear hb2 hb3 HNM hq; obtain ⟨nk, nv, ns, np⟩ := nt'; obtain ⟨ne, nt, nn⟩ := N; go_wp2
  refine bodyPost_ret (v := wordV ⟨nk, nv, ns, np⟩ nx ne) (by simp [results, Tryz.results138, go_sem, R4, cell_set_at]) rfl ?_; unfold WordEnd; rw [HF.out]; refine ⟨_, _, rfl, ?_, fun h => HQ.out h⟩
  (repeat' (first | with_reducible assumption | with_reducible refine Chg.alloc ?_ _ | with_reducible refine Chg.drew ?_ | with_reducible refine Chg.drewN ?_ _ | with_reducible refine Chg.setCell ?_ (Or.inr ?_) _ | exact Nat.le_refl _ | exact Nat.le_add_right _ _ | (simp; done) | (simp; omega)))
set_option maxRecDepth 100000 in
set_option maxHeartbeats 400000 in
theorem next_pl (s : ByteArray) (a : Nat) (hs : s.size ≤ 1000000) (ha : a ≤ s.size) (hq : ∀ j (h : j < s.size), PlainC s j h ∧ (wordF (s.toList.drop j)).1 = 0) (w : World) :
 Calls Tryz.prog 101 #[.string s, .int .i64 a] w fun r w' => r = .returned (nextV a (s.toList.drop a)) ∧ Chg NoB w w' := by
 have ha' : (a : Int) ≤ s.size := by omega
 have hsk := skip_any s a hs ha; have hl := skipL_len false (s.toList.drop a); rw [List.length_drop, size_lst] at hl
 have hN : nextF (s.toList.drop a) = if (s.toList.drop a).drop (skipL false (s.toList.drop a)) = [] then (0, Tok.nil, skipL false (s.toList.drop a), 0)
  else if (wordF ((s.toList.drop a).drop (skipL false (s.toList.drop a)))).1 = 0 then (0, (wordF ((s.toList.drop a).drop (skipL false (s.toList.drop a)))).2.1, skipL false (s.toList.drop a), (wordF ((s.toList.drop a).drop (skipL false (s.toList.drop a)))).2.2)
  else ((wordF ((s.toList.drop a).drop (skipL false (s.toList.drop a)))).1, Tok.nil, skipL false (s.toList.drop a), 0) := rfl
 have hT : tokAt a (s.toList.drop a) = if (s.toList.drop a).drop (skipL false (s.toList.drop a)) = [] ∨ (nextF (s.toList.drop a)).1 ≠ 0 then Tok.nil else { (nextF (s.toList.drop a)).2.1 with pos := ((a + skipL false (s.toList.drop a) : Nat) : Int) } := rfl
 rw [List.drop_drop] at hN hT; change Calls _ _ _ _ (fun r w' => r = .returned (wordV (tokAt a (s.toList.drop a)) ((a + (nextF (s.toList.drop a)).2.2.1 + (nextF (s.toList.drop a)).2.2.2 : Nat) : Int) (nextF (s.toList.drop a)).1) ∧ Chg NoB w w'); generalize tokAt a (s.toList.drop a) = T at *; generalize nextF (s.toList.drop a) = N at *; generalize skipL false (s.toList.drop a) = k at *; generalize hj : a + k = j at *
 have hjs : j ≤ s.size := by omega
 have hjk : a + k ≤ j ∧ j ≤ a + k := by omega
 have HJ := hid' hj; have HSK := hid' hsk; clear hsk hj
 by_cases c : j = s.size
 · have c1 : ((j : Int) == (s.size : Int)) = true := by rw [c]; simp
   have c2 : (j == s.size) = true := by rw [c]; simp
   have hd : s.toList.drop j = [] := drop_end s j (by omega); have hN1 := hN.trans (if_pos hd); have HT := hid' (hT.trans (if_pos (.inl hd))); have HN := hid' hN1; clear hN hN1 hT hd c; go_enter Tryz.func101, Tryz.ntmps101
   go_wp2_with fail
   refine (HSK.out _).mono ?_; rintro r w1 ⟨rfl, rfl⟩; go_wp2
   refine bodyPost_ret (v := wordV Tok.nil j 0) (by simp [results, Tryz.results101, go_sem, Tok.nil]) rfl ?_; refine ⟨?_, (Chg.refl NoB w).alloc _⟩; rw [HT.out, HN.out]; simp only [HJ.out, Nat.add_zero]
 · have c1 : ((j : Int) == (s.size : Int)) = false := by simp; omega
   have c2 : (j == s.size) = false := by simpa using c
   have hjl : j < s.size := by omega
   have hd : ¬ s.toList.drop j = [] := by rw [drop_at s j hjl]; simp
   have hN1 := hN.trans (if_neg hd); have HW := hid' (fun w => word_pl s j hs hjl (hq j hjl).1 w); have hw0 := (hq j hjl).2; clear hq; generalize wordF (s.toList.drop j) = W at *; obtain ⟨we, wt, wn⟩ := W; simp only at hN1 hw0; clear hN c
   by_cases e0 : we = 0
   · subst e0; have hN2 := hN1.trans (if_pos rfl); have HT := hid' (hT.trans (if_neg (by rw [hN2]; rintro (h | h); exact hd h; exact h rfl))); have HN := hid' hN2; clear hN1 hN2 hT hd; go_enter Tryz.func101, Tryz.ntmps101
     go_wp2_with fail
     refine (HSK.out _).mono ?_; rintro r w1 ⟨rfl, rfl⟩; go_wp2_with fail
     refine (HW.out _).mono ?_; rintro r w1 ⟨t, nx, rfl, X1, hq⟩; obtain ⟨rfl, rfl⟩ := hq rfl; simp only; have hb := X1.blk (blk_new w (.cells #[.int .i64 0, .int .i64 0, .string ⟨#[]⟩, .int .i64 0] 41)) id; have R4 := cells_of hb; have Z4 := free_of hb; have l4 := blk_lt hb; have X2 := ((Chg.refl NoB w).alloc (.cells #[.int .i64 0, .int .i64 0, .string ⟨#[]⟩, .int .i64 0] 41)).trans X1; clear X1 hq HW HSK; obtain ⟨tk, tv, ts, tp⟩ := t
     go_upto_region 10 with (fail)
     have hb2 := blk_set (blk_set (blk_set (blk_set (blk_set hb 0 (.int .i64 tk)) 1 (.int .i64 tv)) 2 (.string ts)) 3 (.int .i64 tp)) 3 (.int .i64 j); simp only [List.setIfInBounds_toArray, List.set_cons_zero, List.set_cons_succ] at hb2
     have X3 : Chg NoB w (((((w1.setCell ⟨w.heap.size, 0, none⟩ (.int .i64 tk)).setCell ⟨w.heap.size, 1, none⟩ (.int .i64 tv)).setCell ⟨w.heap.size, 2, none⟩ (.string ts)).setCell ⟨w.heap.size, 3, none⟩ (.int .i64 tp)).setCell ⟨w.heap.size, 3, none⟩ (.int .i64 j)) := by (repeat' (first | with_reducible assumption | with_reducible refine Chg.alloc ?_ _ | with_reducible refine Chg.drew ?_ | with_reducible refine Chg.drewN ?_ _ | with_reducible refine Chg.setCell ?_ (Or.inr ?_) _ | exact Nat.le_refl _ | exact Nat.le_add_right _ _ | (simp; done) | (simp; omega)))
     generalize ((((w1.setCell ⟨w.heap.size, 0, none⟩ (.int .i64 tk)).setCell ⟨w.heap.size, 1, none⟩ (.int .i64 tv)).setCell ⟨w.heap.size, 2, none⟩ (.string ts)).setCell ⟨w.heap.size, 3, none⟩ (.int .i64 tp)).setCell ⟨w.heap.size, 3, none⟩ (.int .i64 j) = w2 at *; clear hb R4 Z4 l4 X2; have R4 := cells_of hb2; have Z4 := free_of hb2; have l4 := blk_lt hb2; clear hb2; go_wp2
     refine bodyPost_ret (v := wordV ⟨tk, tv, ts, j⟩ (j + wn) 0) (by simp [results, Tryz.results101, go_sem, R4, cell_set_at]) rfl ?_; refine ⟨?_, ?_⟩
     · rw [HT.out, HN.out]; simp only [HJ.out, Int.natCast_add]
     · (repeat' (first | with_reducible assumption | with_reducible refine Chg.alloc ?_ _ | with_reducible refine Chg.drew ?_ | with_reducible refine Chg.drewN ?_ _ | with_reducible refine Chg.setCell ?_ (Or.inr ?_) _ | exact Nat.le_refl _ | exact Nat.le_add_right _ _ | (simp; done) | (simp; omega)))
   · exact absurd hw0 e0
set_option maxRecDepth 100000 in
set_option maxHeartbeats 2000000 in
theorem all_pl (s : ByteArray) (hs : s.size ≤ 1000) (hq : ∀ j (h : j < s.size), PlainC s j h ∧ (wordF (s.toList.drop j)).1 = 0)
 (hp : ∀ a, a ≤ s.size → (nextF (s.toList.drop a)).1 = 0 ∧ ((tokAt a (s.toList.drop a)).kind ≠ 0 → 1 ≤ (nextF (s.toList.drop a)).2.2.1 + (nextF (s.toList.drop a)).2.2.2 ∧ (nextF (s.toList.drop a)).2.2.1 + (nextF (s.toList.drop a)).2.2.2 ≤ s.size - a)) (w : World) :
 Calls Tryz.prog 55 #[.string s] w (AllEnd w (allF s.toList)) := by
 obtain ⟨R, hR⟩ : ∃ R, allF s.toList = R := ⟨_, rfl⟩
 rw [hR]
 have hA : R = if 20000 < s.toList.length then (5, [], 0) else allW (s.toList.length + 1) s.toList 0 [] := hR.symm
 rw [size_lst] at hA; clear hR; obtain ⟨i0, hi, hz0, hz1, hz2⟩ := info_parts infoTok
 have c : ¬ 20000 < s.size := by omega
 have HR := hid' (hA.trans (if_neg c))
 have c' : (s.size : Int) ≤ 20000 := by omega
 clear hA; go_enter Tryz.func55, Tryz.ntmps55
 go_wp2_with fail
 go_loopw [2, 3] (fun lv av wr => ∃ (a f : Nat) (acc : List Tok), a ≤ s.size ∧ s.size - a < f ∧ av = .int .i64 a ∧ acc.length ≤ a ∧ R = allW f (s.toList.drop a) a acc ∧ Chg NoB w wr ∧ wr.ownsRow w.heap.size 41 4 lv acc.length (toksV acc) ∧ (acc = [] → lv = .slice none 0 0)) (fun _ av _ => s.size - (intOf av).toNat)
 case atStart => exact ⟨0, s.size + 1, [], by omega, by omega, rfl, by simp, HR.out, Chg.refl _ _, World.ownsRow_nil _ _ _ _, fun _ => rfl⟩
 case round =>
  obtain ⟨a, f, acc, ha, hf, rfl, hal, hW, X, hown, hnil⟩ := hrel
  obtain ⟨f, rfl⟩ : ∃ f', f = f' + 1 := ⟨f - 1, by omega⟩
  have hNx := next_pl s a (by omega) ha hq wr; have hpr := hp a ha; change Calls _ _ _ _ (fun r w' => r = .returned (wordV (tokAt a (s.toList.drop a)) ((a + (nextF (s.toList.drop a)).2.2.1 + (nextF (s.toList.drop a)).2.2.2 : Nat) : Int) (nextF (s.toList.drop a)).1) ∧ Chg NoB wr w') at hNx; rw [allW, List.drop_drop] at hW; generalize nextF (s.toList.drop a) = N at *; generalize tokAt a (s.toList.drop a) = T at *; obtain ⟨ne, nt, nk, nn⟩ := N; obtain ⟨tk, tv, ts, tp⟩ := T; simp only at hNx hpr hW; have HN := hid' hNx; have HP := hid' hpr; have HO := hid' hown; have HNL := hid' hnil; obtain ⟨oa, oc, rfl, -⟩ := own_val hown; clear hNx hpr hown hnil HR; obtain ⟨c1, hpr⟩ := HP.out; clear HP; have HP := hid' hpr; clear hpr
  have c1' : (ne != 0) = false := by rw [c1]; rfl
  have hW1 := hW.trans (if_neg (by simpa using c1)); subst c1; clear hW
  by_cases c2 : tk = 0
  · have HF := hid' (hW1.trans (if_pos c2))
    have c2' : (tk == 0) = true := by simpa using c2
    clear hW1 c2; go_wp2_with fail
    refine HN.out.mono ?_; rintro r w1 ⟨rfl, X1⟩; go_wp2_with fail
    go_ret3; unfold AllEnd; rw [HF.out]; have X2 := X1.alloc (.cells #[.int .i64 tk, .int .i64 tv, .string ts, .int .i64 tp] 41); exact ⟨_, rfl, X.trans X2, ownB HO.out X2 (fun _ _ e => e), HNL.out⟩
  have c2' : (tk == 0) = false := by simpa using c2
  have hW2 := hW1.trans (if_neg c2); obtain ⟨p1, p2⟩ := HP.out c2; clear hW1 HP c2
  have c3 : ¬ acc.length = 4000 := by omega
  have c3' : ((acc.length : Int) == 4000) = false := by simp; omega
  have hW3 := hW2.trans (if_neg c3); have HF := hid' hW3
  have c4 : acc.length < 4000 := by omega
  clear hW2 hW3 c3; go_wp2_with fail
  refine HN.out.mono ?_; rintro r w1 ⟨rfl, X1⟩; have HO2 := hid' (fun o o' => ownB HO.out ((X1.alloc o).alloc o') (fun _ _ e => e)); have HX := hid' (fun o o' => (X.trans X1).alloc o |>.alloc o')
  go_wp2_with (at_builtin; refine wpList_append_own_at _ rfl (.tmp 31) (.tmp 33) 22 rfl w.heap.size 41 i0 (.agg #[.int .i64 0, .int .i64 0, .string ⟨#[]⟩, .int .i64 0]) 4 40 underToks hi hz0 hz1 hz2 rfl (by decide) (.slice oa acc.length oc) acc.length (toksV acc) rfl (HO2.out _ _) _ 1 1 (Tok.cells ⟨tk, tv, ts, tp⟩) rfl rfl (fun j' u hj' => cells_newT _ _ _ _ j' u hj') (fun u hu => by simp only [Tok.cells, List.mem_cons, List.not_mem_nil, or_false] at hu; rcases hu with rfl | rfl | rfl | rfl <;> rfl) ?_ ?_ ?_ ?_; (unfold maxLen; omega); omega; (have := X.size; have := X1.size; simp; omega))
  intro v' w2 hown' hgr' hn' hat'
  have HO' := hid' (show w2.ownsRow w.heap.size 41 4 v' (acc ++ [(⟨tk, tv, ts, tp⟩ : Tok)]).length (toksV (acc ++ [(⟨tk, tv, ts, tp⟩ : Tok)])) by
   have e : toksV (acc ++ [(⟨tk, tv, ts, tp⟩ : Tok)]) = toksV acc ++ Tok.cells ⟨tk, tv, ts, tp⟩ := by simp [toksV]
   rw [e, List.length_append, List.length_singleton]; exact hown')
  have HX' := hid' (Chg.grown (HX.out _ _) hgr' (fun k hk => .inr (own_ge HO.out k (by simpa using hk)).1)); clear hown' hgr' hn' hat'; go_wp2_with fail
  go_roundw
  case rel => exact ⟨a + nk + nn, f, acc ++ [⟨tk, tv, ts, tp⟩], by omega, by omega, by first | rfl | go_num, by simp; omega, by rw [HF.out]; simp only [Nat.add_assoc], HX'.out, HO'.out, fun e => by simp at e⟩
  case measure => simp [intOf]; omega
section
open Go.ChangeShapes Go.WideShapes Go.ChangeAt Go.RowKit
def TokOk (t : Tok) : Prop := (Lit.int .i64 t.kind).wf = true ∧ (Lit.int .i64 t.n).wf = true ∧ t.s.size ≤ maxLen ∧ (Lit.int .i64 t.pos).wf = true
def ToksIn (w : World) (v : Value) (l : List Tok) : Prop := ToksAt w v l ∧ l.length ≤ maxLen ∧ ∀ t ∈ l, TokOk t
set_option maxRecDepth 100000 in
theorem toks_in {H : Type} {enc : TypeId × Value → H} {W : World} {d : DataW H} {p : List MemPlace} {base : Nat}
 (hv : Value.okWide Tryz.prog W .any base 22 v) (h : DataW.Trod enc Tryz.prog W 0 (fun _ => true) true 22 v d p) :
 ∃ l, ToksIn W v l := by
 obtain ⟨a, len, cap, rfl⟩ := okWide_slice Tryz.underlying22 hv; obtain ⟨fuel, hf⟩ := h
 have hC : Tryz.prog.cellsOf 41 = 4 := by kernel_rfl
 rcases Go.Deep.open_slice Tryz.underlying22 hf with ⟨hcs, _⟩ | ⟨x, l, c, m, n, D, Pl, hcs, _, hl, hm, hmm, _, hcell⟩
 · simp [Value.cells] at hcs
   obtain ⟨rfl, rfl, rfl⟩ := hcs; exact ⟨[], ⟨_, _, rfl, Nat.le_refl _, fun h => absurd h (by simp)⟩, Nat.zero_le _, fun t ht => by simp at ht⟩
 · simp [Value.cells] at hcs
   obtain ⟨rfl, rfl, rfl⟩ := hcs; simp only [if_true] at hmm
   have each : ∀ i, i < len → ∃ t : Tok, TokOk t ∧ W.cell? (x.add (i * 4)) = some (.int .i64 t.kind) ∧ W.cell? (x.add (i * 4 + 1)) = some (.int .i64 t.n) ∧ W.cell? (x.add (i * 4 + 2)) = some (.string t.s) ∧ W.cell? (x.add (i * 4 + 3)) = some (.int .i64 t.pos) := by
    intro i hi; obtain ⟨cs', h1, h2⟩ := hcell i (by omega); rw [hC] at h1; obtain ⟨_, hlen, hc'⟩ := World.cells?_some h1; obtain ⟨xs, k, hk, hxy, _, hxl, hg⟩ := DataW.trod_struct Tryz.underlying41 h2
    match xs, hxl, cs', hlen with
    | [y0, y1, y2, y3], _, [c0, c1, c2, c3], _ =>
     have q0 := hg 0 _ rfl; have q1 := hg 1 _ rfl; have q2 := hg 2 _ rfl; have q3 := hg 3 _ rfl; obtain ⟨k', e0, z0, w0⟩ := DataW.trod_int (k := .i64) (by kernel_rfl) q0; obtain ⟨n', e1, z1, w1⟩ := DataW.trod_int (k := .i64) (by kernel_rfl) q1; obtain ⟨s', e2, z2, w2⟩ := DataW.trod_string (by kernel_rfl) q2; obtain ⟨p', e3, z3, w3⟩ := DataW.trod_int (k := .i64) (by kernel_rfl) q3
     have g1 : Tryz.prog.cellsOf 3 = 1 := by kernel_rfl
     have g3 : Tryz.prog.cellsOf 9 = 1 := by kernel_rfl
     simp [g1] at e0 e1 e3
     simp [g3] at e2
     subst e0 e1 e2 e3; have d0 := hc' 0 (by omega); have d1 := hc' 1 (by omega); have d2 := hc' 2 (by omega); have d3 := hc' 3 (by omega); rw [Go.Deep.add_add] at d0 d1 d2 d3; exact ⟨⟨k', n', s', p'⟩, ⟨w0, w1, w2, w3⟩, by simpa using d0, by simpa using d1, by simpa using d2, by simpa using d3⟩
   haveI : Inhabited Tok := ⟨⟨0, 0, ⟨#[]⟩, 0⟩⟩
   obtain ⟨f, hF⟩ := Go.Deep.choose_lt each; refine ⟨(List.range len).map f, ⟨_, _, by rw [List.length_map, List.length_range], by simpa using hl, fun hp => ?_⟩, by simp; omega, fun t ht => ?_⟩
   · obtain ⟨b, off, spot⟩ := x
     have hspot : spot = none := by simpa [Addr.add] using World.cell?_spot (hF 0 (by simpa using hp)).2.1
     subst hspot; simp only [Go.WideShapes.add_plain] at hF; refine ⟨b, off, rfl, cell_some_lt (hF 0 (by simpa using hp)).2.1, fun i t ht => ?_⟩
     have hi : i < len := by simpa using (List.getElem?_eq_some_iff.1 ht).1
     rw [List.getElem?_map, List.getElem?_range hi] at ht; simp only [Option.map_some, Option.some.injEq] at ht; subst ht; obtain ⟨-, e0, e1, e2, e3⟩ := hF i hi; exact ⟨e0, by rw [Nat.add_assoc]; exact e1, by rw [Nat.add_assoc]; exact e2, by rw [Nat.add_assoc]; exact e3⟩
   · simp only [List.mem_map, List.mem_range] at ht; obtain ⟨i, hi, rfl⟩ := ht; exact (hF i hi).1
end
def oneQ (c : UInt8) : List UInt8 :=
 if c = 40 ∨ c = 41 ∨ c = 92 then [92, c]
 else if c = 8 then [92, 98]
 else if c = 9 then [92, 116]
 else if c = 10 then [92, 110]
 else if c = 12 then [92, 102]
 else if c = 13 then [92, 114]
 else if c < 32 ∨ 126 < c then [92, 48 + c / 64, 48 + c / 8 % 8, 48 + c % 8]
 else [c]
def quoteQ (l : List UInt8) : List UInt8 := l.flatMap oneQ
def parenL (l : List UInt8) : List UInt8 := 40 :: (quoteQ l ++ [41])
def printL (t : Tok) : List UInt8 :=
 if t.kind = 1 then intL t.n
 else if t.kind = 2 then fixL t.n
 else if t.kind = 3 then t.s.toList
 else if t.kind = 4 then 47 :: t.s.toList
 else if t.kind = 5 then 47 :: 47 :: t.s.toList
 else if t.kind = 6 then parenL t.s.toList
 else signL t.kind
def mayT (t : Tok) : Bool :=
 if t.kind = 1 then decide (t.s.size = 0) && decide (-2147483647 ≤ t.n) && decide (t.n ≤ 2147483647)
 else if t.kind = 2 then decide (t.s.size = 0) && decide (-1073741823 ≤ t.n) && decide (t.n ≤ 1073741823)
 else if t.n ≠ 0 then false
 else if t.kind = 3 then decide ((readF t.s.toList).2.2 = 3) && decide (t.s.size ≠ 0) && decide (t.s.size ≤ 100) && decide (regL t.s.toList = t.s.size)
 else if t.kind = 4 ∨ t.kind = 5 then decide (t.s.size ≤ 100) && decide (regL t.s.toList = t.s.size)
 else if t.kind = 6 then decide (t.s.size ≤ 4000)
 else decide (signL t.kind ≠ []) && decide (t.s.size = 0)
theorem size0 {s : ByteArray} (h : s.size = 0) : s = ⟨#[]⟩ := by
 apply ByteArray.ext
 exact Array.eq_empty_of_size_eq_zero h
theorem tl_size (s : ByteArray) : s.toList.length = s.size := size_lst s
abbrev tokBox (k n : Int) (s : ByteArray) (p : Int) : Obj := .cells #[.int .i64 k, .int .i64 n, .string s, .int .i64 p] 41
end Go.Proofs.YtoogmimbmgdflaaGreat
