/- Parts of the proof: Pl0, Fxp. -/
import Derived.Test.YtpiomapnmempoaaGreatY18
import Derived.Test.YtpiomapnmempoaaGreatY23
namespace Go.Proofs.YtpiomapnmempoaaGreat
open Go.RowKit
theorem head_app {α : Type} {a : List α} (r : List α) (h : a ≠ []) : (a ++ r).head? = a.head? := by cases a with
 | nil => exact absurd rfl h
 | cons x a => rfl
theorem takeWh (p : UInt8 → Bool) (c : UInt8) (r : List UInt8) (hc : p c = false) : ∀ a : List UInt8, a.all p = true → (a ++ c :: r).takeWhile p = a
 | [], _ => by simp [hc]
 | x :: a, h => by
  simp only [List.all_cons, Bool.and_eq_true] at h; rw [List.cons_append, List.takeWhile_cons, if_pos h.1, takeWh p c r hc a h.2]
theorem isDig_dgB (d : Nat) (h : d < 10) : isDig (dgB d) = true ∧ ((dgB d).toNat : Int) - 48 = d := by
 have : ∀ d : Fin 10, isDig (dgB d.val) = true ∧ ((dgB d.val).toNat : Int) - 48 = (d.val : Int) := by decide +kernel
 exact this ⟨d, h⟩
theorem decL_dig (n : Nat) : (decL n).all isDig = true := by
 induction n using Nat.strongRecOn with
 | _ n ih =>
  by_cases c : n < 10
  · rw [decL_lo n c]; simp [(isDig_dgB n c).1]
  · rw [decL_hi n c, List.all_append, ih (n / 10) (Nat.div_lt_self (by omega) (by decide))]; simp [(isDig_dgB (n % 10) (Nat.mod_lt _ (by decide))).1]
theorem accD_snoc (most v : Int) (l : List UInt8) (c : UInt8) : accD most v (l ++ [c]) = if most < accD most v l * 10 + ((c.toNat : Int) - 48) then most else accD most v l * 10 + ((c.toNat : Int) - 48) := by
 unfold accD; rw [List.foldl_append]; rfl
theorem accD_decL (most : Int) (n : Nat) (h : (n : Int) ≤ most) : accD most 0 (decL n) = n := by
 induction n using Nat.strongRecOn with
 | _ n ih =>
  by_cases c : n < 10
  · rw [decL_lo n c, show [dgB n] = [] ++ [dgB n] from rfl, accD_snoc, (isDig_dgB n c).2, show accD most 0 [] = 0 from rfl, if_neg (by omega)]; omega
  · rw [decL_hi n c, accD_snoc, ih (n / 10) (Nat.div_lt_self (by omega) (by decide)) (by omega), (isDig_dgB (n % 10) (Nat.mod_lt _ (by decide))).2, if_neg (by omega)]; omega
def padL (k : Nat) (l : List UInt8) : List UInt8 := List.replicate (k - l.length) 48 ++ l
theorem padL_len (k : Nat) (l : List UInt8) (h : l.length ≤ k) : (padL k l).length = k := by simp [padL]; omega
theorem padL_dig (k : Nat) (l : List UInt8) (h : l.all isDig = true) : (padL k l).all isDig = true := by
 unfold padL; rw [List.all_append, h, Bool.and_true, List.all_eq_true]; intro c hc; rw [(List.mem_replicate.1 hc).2]; decide
theorem accD_pad (most : Int) (hm : 0 ≤ most) (k : Nat) (l : List UInt8) : accD most 0 (padL k l) = accD most 0 l := by
 unfold padL; generalize k - l.length = j
 induction j with
 | zero => rfl
 | succ j ih =>
  rw [List.replicate_succ, List.cons_append, accD_cons]; rw [show (0 : Int) * 10 + (((48 : UInt8).toNat : Int) - 48) = 0 by decide, if_neg (by omega)]; exact ih
theorem takeW_all (p : UInt8 → Bool) : ∀ a : List UInt8, a.all p = true → a.takeWhile p = a
 | [], _ => rfl
 | x :: a, h => by
  simp only [List.all_cons, Bool.and_eq_true] at h; rw [List.takeWhile_cons, if_pos h.1, takeW_all p a h.2]
theorem decL_ne (n : Nat) : decL n ≠ [] := by
 by_cases c : n < 10
 · rw [decL_lo n c]; simp
 · rw [decL_hi n c]; simp
theorem based_dec (n : Nat) : basedF (decL n) = none := by
 have hd : digL (decL n) = decL n := takeW_all _ _ (decL_dig n); unfold basedF; rw [hd, if_pos (by omega)]
theorem head_dec (n : Nat) (r : List UInt8) : (decL n ++ r).head? ≠ some 43 ∧ (decL n ++ r).head? ≠ some 45 := by
 rw [head_app r (decL_ne n)]
 cases h : decL n with
 | nil => exact absurd h (decL_ne n)
 | cons c l =>
  have := decL_dig n; rw [h, List.all_cons, Bool.and_eq_true] at this; have := this.1; simp only [isDig, Bool.and_eq_true, decide_eq_true_eq] at this; refine ⟨fun e => ?_, fun e => ?_⟩
  · simp only [List.head?_cons, Option.some.injEq] at e; subst e; revert this; decide
  · simp only [List.head?_cons, Option.some.injEq] at e; subst e; revert this; decide
theorem readS_int (pre : List UInt8) (n : Nat) (b : Bool) (h : n ≤ 2147483647) : readS (pre ++ decL n) pre.length b = (1, sgnI b n, 0) := by
 have hd : digL (decL n) = decL n := takeW_all _ _ (decL_dig n); have hl : 0 < (decL n).length := List.length_pos_iff.2 (decL_ne n); unfold readS; rw [List.drop_left, hd, if_pos ⟨by simp, hl⟩, accD_decL _ _ (by omega), if_neg (by omega)]
theorem int_read (v : Int) (h0 : -2147483647 ≤ v) (h1 : v ≤ 2147483647) : readF (intL v) = (1, v, 0) := by
 unfold intL
 by_cases c : v < 0
 · rw [if_pos c]
   have hb : basedF (45 :: decL v.natAbs) = none := by
    have hd : digL (45 :: decL v.natAbs) = [] := by unfold digL; rw [List.takeWhile_cons, if_neg (by decide)]
    unfold basedF; rw [hd, if_pos (.inl (by simp))]
   unfold readF; rw [hb]; simp only [List.head?_cons]; rw [if_neg (by decide), if_pos trivial]; have := readS_int [45] v.natAbs true (by omega); rw [show [45] ++ decL v.natAbs = 45 :: decL v.natAbs from rfl, show ([45] : List UInt8).length = 1 from rfl] at this; rw [this, show sgnI true (v.natAbs : Int) = v by unfold sgnI; rw [if_pos rfl]; omega]
 · rw [if_neg c]; unfold readF; rw [based_dec]; have hh := head_dec v.natAbs []; rw [List.append_nil] at hh; simp only; rw [if_neg hh.1, if_neg hh.2]; have := readS_int [] v.natAbs false (by omega); rw [List.nil_append, List.length_nil] at this; rw [this, show sgnI false (v.natAbs : Int) = v by unfold sgnI; rw [if_neg (by decide)]; omega]
def nearF (k : Nat) (s : Int) : Int := nearI (s * 10 ^ k) 65536
def okF (k : Nat) (s : Int) : Bool := nearI (nearF k s * 65536) (10 ^ k) == s
theorem ok5 (s : Int) (_h0 : 0 ≤ s) (_h1 : s ≤ 1073741823) : okF 5 s = true := by
 unfold okF nearF; rw [show (10 : Int) ^ 5 = 100000 by decide]; generalize hn : nearI (s * 100000) 65536 = n
 have h2 : -32768 ≤ n * 65536 - s * 100000 ∧ n * 65536 - s * 100000 ≤ 32768 := by
  unfold nearI at hn
  split at hn <;> omega
 simp only [beq_iff_eq]; unfold nearI
 split <;> omega
def kF (s : Int) : Nat := if okF 1 s = true then 1 else if okF 2 s = true then 2 else if okF 3 s = true then 3 else if okF 4 s = true then 4 else 5
theorem kF_rng (s : Int) : 1 ≤ kF s ∧ kF s ≤ 5 := by
 unfold kF; repeat' split
 all_goals omega
theorem kF_ok (s : Int) (h0 : 0 ≤ s) (h1 : s ≤ 1073741823) : okF (kF s) s = true := by
 unfold kF; split
 · assumption
 split
 · assumption
 split
 · assumption
 split
 · assumption
 · exact ok5 s h0 h1
def sizeL (k : Nat) (n : Int) : List UInt8 := decL (n / 10 ^ k).toNat ++ 46 :: padL k (decL (n % 10 ^ k).toNat)
def fixL (v : Int) : List UInt8 := (if v < 0 then [45] else []) ++ sizeL (kF v.natAbs) (nearF (kF v.natAbs) v.natAbs)
theorem near_split (A r p : Int) (hp : 0 < p) (hA : A % 2 = 0) : nearI (A * p + r) p = A + nearI r p := by
 have e1 : (A * p + r) / p = A + r / p := by rw [Int.add_comm, Int.add_mul_ediv_right _ _ (by omega)]; omega
 have e2 : (A * p + r) % p = r % p := by rw [Int.add_comm, Int.add_mul_emod_self_right]
 have e3 : (A + r / p) % 2 = (r / p) % 2 := by omega
 unfold nearI; rw [e1, e2, e3]
 split <;> omega
theorem near_ge (a b : Int) : a / b ≤ nearI a b := by unfold nearI; split <;> omega
theorem size_read (k : Nat) (hk : 1 ≤ k) (hk5 : k ≤ 5) (s n : Int) (h0 : 0 ≤ s) (h1 : s ≤ 1073741823) (hn0 : 0 ≤ n) (hok : nearI (n * 65536) (10 ^ k) = s) (pre : List UInt8) (b : Bool) :
 readS (pre ++ sizeL k n) pre.length b = (2, sgnI b s, 0) := by
 have hp : (0 : Int) < 10 ^ k := Int.pow_pos (by decide)
 obtain ⟨p, hpp⟩ : ∃ p : Int, (10 : Int) ^ k = p := ⟨_, rfl⟩
 have hpk : (10 : Nat) ^ k = p.toNat := by
  have : ((10 ^ k : Nat) : Int) = p := by rw [← hpp]; push_cast; rfl
  omega
 unfold sizeL; rw [hpp] at hp hok ⊢
 obtain ⟨a, ha⟩ : ∃ a : Nat, n / p = (a : Int) := ⟨(n / p).toNat, by have := Int.ediv_nonneg hn0 (show 0 ≤ p by omega); omega⟩
 obtain ⟨r, hr⟩ : ∃ r : Nat, n % p = (r : Int) := ⟨(n % p).toNat, by have := Int.emod_nonneg n (show p ≠ 0 by omega); omega⟩
 have hrp : (r : Int) < p := by rw [← hr]; exact Int.emod_lt_of_pos n hp
 have hnp : n = a * p + r := by have := Int.mul_ediv_add_emod n p; rw [ha, hr, Int.mul_comm] at this; omega
 have hsp : (a : Int) * 65536 + nearI ((r : Int) * 65536) p = s := by
  rw [← hok, hnp, Int.add_mul, show (a : Int) * p * 65536 = (a * 65536) * p by rw [Int.mul_assoc, Int.mul_comm p, ← Int.mul_assoc], near_split _ _ _ hp (by omega)]
 have hr0 : 0 ≤ nearI ((r : Int) * 65536) p := by
  have := near_ge ((r : Int) * 65536) p; have := Int.ediv_nonneg (show 0 ≤ (r : Int) * 65536 by omega) (show 0 ≤ p by omega); omega
 have ha2 : a ≤ 16383 := by omega
 rw [ha, hr, Int.toNat_natCast, Int.toNat_natCast]
 have hlen : (decL r).length ≤ k := by
  obtain ⟨j, rfl⟩ : ∃ j, k = j + 1 := ⟨k - 1, by omega⟩
  exact decL_len r j (by rw [hpk]; omega)
 have hB := padL_len k (decL r) hlen; have hBd := padL_dig k (decL r) (decL_dig r)
 have hBv : accD 1000000000000 0 (padL k (decL r)) = r := by
  rw [accD_pad _ (by decide), accD_decL]
  have : p ≤ 100000 := by rw [← hpp]; have : k = 1 ∨ k = 2 ∨ k = 3 ∨ k = 4 ∨ k = 5 := by omega
                          rcases this with rfl | rfl | rfl | rfl | rfl <;> decide
  omega
 generalize hBB : padL k (decL r) = B at *; have hd : digL (decL a ++ 46 :: B) = decL a := takeWh isDig 46 _ (by decide) _ (decL_dig a); have hdB : digL B = B := takeW_all _ _ hBd
 have hdr : (pre ++ (decL a ++ 46 :: B)).drop (pre.length + (decL a).length + 1) = B := by
  rw [show pre ++ (decL a ++ 46 :: B) = (pre ++ decL a ++ [46]) ++ B by simp, show pre.length + (decL a).length + 1 = (pre ++ decL a ++ [46]).length by simp; omega, List.drop_left]
 have hat : (pre ++ (decL a ++ 46 :: B))[pre.length + (decL a).length]? = some 46 := by
  rw [← List.append_assoc, List.getElem?_append_right (by simp), List.length_append, Nat.sub_self]; rfl
 have hll : (pre ++ (decL a ++ 46 :: B)).length = pre.length + (decL a).length + 1 + k := by simp [hB]; omega
 unfold readS; rw [List.drop_left, hd, hdr, hdB, hat, hll, hB, hBv, accD_decL _ a (by omega)]; rw [if_neg (by omega), if_neg (by simp; omega), if_neg (by omega), if_neg (by omega), hpp, hsp, if_neg (by omega)]
theorem fix_read (v : Int) (h0 : -1073741823 ≤ v) (h1 : v ≤ 1073741823) : readF (fixL v) = (2, v, 0) := by
 obtain ⟨s, hs⟩ : ∃ s : Int, (v.natAbs : Int) = s := ⟨_, rfl⟩
 have hs0 : 0 ≤ s := by omega
 have hs1 : s ≤ 1073741823 := by omega
 unfold fixL; rw [hs]; have hk := kF_rng s; have hok := kF_ok s hs0 hs1; unfold okF at hok; simp only [beq_iff_eq] at hok
 have hn0 : 0 ≤ nearF (kF s) s := by
  unfold nearF; have := near_ge (s * 10 ^ kF s) 65536; have h2 : (0 : Int) ≤ s * 10 ^ kF s := Int.mul_nonneg hs0 (Int.le_of_lt (Int.pow_pos (by decide))); have := Int.ediv_nonneg h2 (show (0 : Int) ≤ 65536 by decide); omega
 generalize nearF (kF s) s = n at *; generalize kF s = k at *
 by_cases c : v < 0
 · rw [if_pos c]
   have hb : basedF ([45] ++ sizeL k n) = none := by
    have hd : digL ([45] ++ sizeL k n) = [] := by unfold digL; rw [List.singleton_append, List.takeWhile_cons, if_neg (by decide)]
    unfold basedF; rw [hd, if_pos (.inl (by simp))]
   unfold readF; rw [hb]; simp only [List.singleton_append, List.head?_cons]; rw [if_neg (by decide), if_pos trivial]; have := size_read k hk.1 hk.2 s n hs0 hs1 hn0 hok [45] true; rw [show ([45] : List UInt8).length = 1 from rfl, List.singleton_append] at this; rw [this, show sgnI true s = v by unfold sgnI; rw [if_pos rfl]; omega]
 · rw [if_neg c, List.nil_append]
   have hb : basedF (sizeL k n) = none := by
    unfold sizeL; have hd : ∀ a : Nat, ∀ B, digL (decL a ++ 46 :: B) = decL a := fun a B => takeWh isDig 46 _ (by decide) _ (decL_dig a); unfold basedF; rw [hd, if_pos ?_]
    right; right; right; right; right; right
    rw [List.getElem?_append_right (Nat.le_refl _), Nat.sub_self]; simp
   unfold readF; rw [hb]; simp only; have hh := head_dec (n / 10 ^ k).toNat (46 :: padL k (decL (n % 10 ^ k).toNat)); unfold sizeL; rw [if_neg hh.1, if_neg hh.2]; have := size_read k hk.1 hk.2 s n hs0 hs1 hn0 hok [] false; rw [List.nil_append, List.length_nil] at this; unfold sizeL at this; rw [this, show sgnI false s = v by unfold sgnI; rw [if_neg (by decide)]; omega]
end Go.Proofs.YtpiomapnmempoaaGreat
