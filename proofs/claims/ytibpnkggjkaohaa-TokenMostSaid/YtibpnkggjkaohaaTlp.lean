/- TokenMost: what is plain. -/
import Derived.Test.YtibpnkggjkaohaaTky
import Derived.Deep.OwnRows
namespace Go.Proofs.Ytibpnkggjkaohaa
open Go.RowKit

/-- 'a' and a blank, m times. -/
def P97 : Nat → List UInt8
  | 0 => []
  | m + 1 => 97 :: 32 :: P97 m
def pat (j : Nat) : UInt8 := if j % 2 = 0 then 97 else 32
theorem P97_len (m : Nat) : (P97 m).length = 2 * m := by
  induction m with
  | zero => rfl
  | succ m ih => simp [P97, ih]; omega
theorem P97_get : ∀ (m j : Nat), j < 2 * m → (P97 m)[j]? = some (pat j)
  | 0, j, h => by omega
  | m + 1, 0, _ => rfl
  | m + 1, 1, _ => rfl
  | m + 1, j + 2, h => by
    have : (P97 (m + 1))[j + 2]? = (P97 m)[j]? := by simp [P97]
    rw [this, P97_get m j (by omega)]
    simp [pat, show (j + 2) % 2 = j % 2 by omega]
theorem next_a (r : List UInt8) : nextF (97 :: 32 :: r) = (0, ⟨3, 0, ⟨#[97]⟩, 0⟩, 0, 1) := rfl
theorem next_ba (r : List UInt8) : nextF (32 :: 97 :: 32 :: r) = (0, ⟨3, 0, ⟨#[97]⟩, 0⟩, 1, 1) := rfl
theorem next_b : nextF [32] = (0, Tok.nil, 1, 0) := rfl
theorem tok_a (a : Nat) (r : List UInt8) : (tokAt a (97 :: 32 :: r)).kind = 3 := rfl
theorem tok_ba (a : Nat) (r : List UInt8) : (tokAt a (32 :: 97 :: 32 :: r)).kind = 3 := rfl
theorem tok_b (a : Nat) : (tokAt a [32]).kind = 0 := rfl
theorem allW_a : ∀ (m f a : Nat) (acc : List Tok), m < f → acc.length ≤ 4000 → a + 1 = 2 * acc.length →
    (acc.length + m ≤ 4000 → (allW f (32 :: P97 m) a acc).1 = 0 ∧ (allW f (32 :: P97 m) a acc).2.1.length = acc.length + m ∧ (allW f (32 :: P97 m) a acc).2.2 = 0) ∧
    (4000 < acc.length + m → allW f (32 :: P97 m) a acc = (5, [], 8000))
  | m, 0, a, acc, h, _, _ => by omega
  | 0, f + 1, a, acc, _, hl, ha => by
    have e : allW (f + 1) (32 :: P97 0) a acc = (0, acc, 0) := by
      rw [P97, allW, next_b, tok_b, if_neg (by simp), if_pos rfl]
    rw [e]
    exact ⟨fun _ => ⟨rfl, rfl, rfl⟩, fun h => by omega⟩
  | m + 1, f + 1, a, acc, hf, hl, ha => by
    have e : allW (f + 1) (32 :: P97 (m + 1)) a acc = if acc.length = 4000 then (5, [], a + 1) else allW f (32 :: P97 m) (a + 1 + 1) (acc ++ [tokAt a (32 :: P97 (m + 1))]) := by
      rw [P97, allW, next_ba, if_neg (by simp), if_neg (by rw [tok_ba]; decide)]
      rfl
    rw [e]
    by_cases c : acc.length = 4000
    · rw [if_pos c]
      refine ⟨fun h => by omega, fun _ => ?_⟩
      have : a + 1 = 8000 := by omega
      rw [this]
    · rw [if_neg c]
      have := allW_a m f (a + 1 + 1) (acc ++ [tokAt a (32 :: P97 (m + 1))]) (by omega) (by simp; omega) (by simp; omega)
      rw [List.length_append, List.length_singleton] at this
      refine ⟨fun h => ?_, fun h => this.2 (by omega)⟩
      obtain ⟨h1, h2, h3⟩ := this.1 (by omega)
      exact ⟨h1, by omega, h3⟩
theorem allF_a (m : Nat) (h0 : 1 ≤ m) (h1 : m ≤ 5000) : (m ≤ 4000 → (allF (P97 m)).1 = 0 ∧ (allF (P97 m)).2.1.length = m) ∧ (4000 < m → allF (P97 m) = (5, [], 8000)) := by
  obtain ⟨m, rfl⟩ : ∃ k, m = k + 1 := ⟨m - 1, by omega⟩
  have e : allF (P97 (m + 1)) = allW ((P97 (m + 1)).length) (32 :: P97 m) 1 [tokAt 0 (P97 (m + 1))] := by
    unfold allF
    rw [if_neg (by rw [P97_len]; omega)]
    rw [P97, allW, next_a, if_neg (by simp), if_neg (by rw [tok_a]; decide), if_neg (by simp)]
    rfl
  rw [e]
  have := allW_a m ((P97 (m + 1)).length) 1 [tokAt 0 (P97 (m + 1))] (by rw [P97_len]; omega) (by simp) rfl
  simp only [List.length_singleton] at this
  exact ⟨fun h => by obtain ⟨a, b, -⟩ := this.1 (by omega); exact ⟨a, by omega⟩, fun h => this.2 (by omega)⟩
theorem reg_rep (n : Nat) : regL (List.replicate n 97) = n := by
  unfold regL
  induction n with
  | zero => rfl
  | succ n ih => rw [List.replicate_succ, List.takeWhile_cons, if_pos (by decide), List.length_cons, ih]
theorem skip_rep (n : Nat) : skipL false (List.replicate n 32) = n := by
  induction n with
  | zero => rfl
  | succ n ih => rw [List.replicate_succ, skipL, if_pos (by decide), ih]; omega
theorem next_name (n : Nat) (h : n ≤ 100) : nextF (32 :: 47 :: List.replicate n 97) = (0, ⟨4, 0, bytesB (List.replicate n 97), 0⟩, 1, 1 + n) := by
  have hs : skipL false (32 :: 47 :: List.replicate n 97) = 1 := rfl
  have hn : nameF 4 (List.replicate n 97) = (0, nameT 4 (List.replicate n 97), n) := by
    unfold nameF; rw [reg_rep, if_neg (by omega), List.take_of_length_le (by simp)]
  have hw : wordF (47 :: List.replicate n 97) = (0, ⟨4, 0, bytesB (List.replicate n 97), 0⟩, 1 + n) := by
    have h1 : sgF 6 7 (47 :: List.replicate n 97) = 0 := rfl
    have h2 : ¬ ((47 :: List.replicate n 97 : List UInt8).drop 1).head? = some 47 := by
      rw [List.drop_succ_cons, List.drop_zero]
      cases n with
      | zero => simp
      | succ n => simp [List.replicate_succ]
    unfold wordF
    rw [h1, if_neg (by decide), if_neg (by simp), if_neg (by simp), if_pos (show (47 :: List.replicate n 97 : List UInt8).head? = some 47 from rfl), if_neg h2, List.drop_succ_cons, List.drop_zero, hn]
  unfold nextF
  rw [hs, List.drop_succ_cons, List.drop_zero, hw, if_neg (by simp), if_pos rfl]
theorem next_long : nextF (32 :: 47 :: List.replicate 101 97) = (5, Tok.nil, 1, 0) := by
  have hs : skipL false (32 :: 47 :: List.replicate 101 97) = 1 := rfl
  have hn : nameF 4 (List.replicate 101 97) = (5, Tok.nil, 0) := by
    unfold nameF; rw [reg_rep, if_pos (by omega)]
  have hw : wordF (47 :: List.replicate 101 97) = (5, Tok.nil, 1 + 0) := by
    have h1 : sgF 6 7 (47 :: List.replicate 101 97) = 0 := rfl
    unfold wordF
    rw [h1, if_neg (by decide), if_neg (by simp), if_neg (by simp), if_pos (show (47 :: List.replicate 101 97 : List UInt8).head? = some 47 from rfl), if_neg (by rw [List.drop_succ_cons, List.drop_zero, List.replicate_succ]; simp), List.drop_succ_cons, List.drop_zero, hn]
  unfold nextF
  rw [hs, List.drop_succ_cons, List.drop_zero, hw, if_neg (by simp), if_neg (by decide)]
theorem all_blank : allF (List.replicate 20000 32) = (0, [], 0) := by
  have h1 : nextF (List.replicate 20000 32) = (0, Tok.nil, 20000, 0) := by
    unfold nextF
    rw [skip_rep, if_pos (by rw [List.drop_replicate]; rfl)]
  have h2 : (tokAt 0 (List.replicate 20000 32)).kind = 0 := by
    unfold tokAt
    rw [skip_rep, if_pos (.inl (by rw [List.drop_replicate]; rfl))]
    rfl
  unfold allF
  rw [List.length_replicate, if_neg (by omega), allW, h1, if_neg (by simp), if_pos h2]
theorem all_long : allF (List.replicate 20001 32) = (5, [], 0) := by
  unfold allF
  rw [List.length_replicate, if_pos (by omega)]
theorem size_B (l : List UInt8) : (bytesB l).size = l.length := rfl
theorem lst_app (a b : List UInt8) : (bytesB a ++ bytesB b).toList = a ++ b := by
  rw [ByteArray.toList_eq, ByteArray.data_append]; simp
theorem d0_true : ∃ L : List UInt8, L.length = 8002 ∧ (∀ j, j < 8002 → L.getD j 0 = pat j) ∧ allF L = (5, [], 8000) :=
  ⟨P97 4001, P97_len 4001, fun j hj => by rw [List.getD_eq_getElem?_getD, P97_get 4001 j (by omega)]; rfl, (allF_a 4001 (by decide) (by decide)).2 (by decide)⟩
theorem d0_false : ∃ L : List UInt8, L.length = 8000 ∧ (∀ j, j < 8000 → L.getD j 0 = pat j) ∧ (allF L).1 = 0 ∧ (allF L).2.1.length = 4000 :=
  ⟨P97 4000, P97_len 4000, fun j hj => by rw [List.getD_eq_getElem?_getD, P97_get 4000 j (by omega)]; rfl, (allF_a 4000 (by decide) (by decide)).1 (by decide)⟩
theorem rep_getD (n j : Nat) (c : UInt8) (h : j < n) : (List.replicate n c).getD j 0 = c := by
  rw [List.getD_eq_getElem?_getD, List.getElem?_replicate, if_pos h]; rfl
theorem d1_true : ∃ L : List UInt8, L.length = 101 ∧ (∀ j, j < 101 → L.getD j 0 = 97) ∧ nextF (32 :: 47 :: L) = (5, Tok.nil, 1, 0) ∧ tokAt 0 (32 :: 47 :: L) = Tok.nil :=
  ⟨List.replicate 101 97, List.length_replicate, fun j hj => rep_getD 101 j 97 hj, next_long, by unfold tokAt; rw [if_pos (.inr (by rw [next_long]; decide))]⟩
theorem d1_false : ∃ L : List UInt8, L.length = 100 ∧ (∀ j, j < 100 → L.getD j 0 = 97) ∧ nextF (32 :: 47 :: L) = (0, ⟨4, 0, bytesB L, 0⟩, 1, 101) ∧ tokAt 0 (32 :: 47 :: L) = ⟨4, 0, bytesB L, 1⟩ :=
  ⟨List.replicate 100 97, List.length_replicate, fun j hj => rep_getD 100 j 97 hj, next_name 100 (by decide), by
    have hs : skipL false (32 :: 47 :: List.replicate 100 97) = 1 := rfl
    unfold tokAt
    rw [hs, next_name 100 (by decide), if_neg (by rintro (h | h); simp at h; exact h rfl)]
    rfl⟩
theorem d2_true : ∃ L : List UInt8, L.length = 20001 ∧ (∀ j, j < 20001 → L.getD j 0 = 32) ∧ allF L = (5, [], 0) :=
  ⟨List.replicate 20001 32, List.length_replicate, fun j hj => rep_getD 20001 j 32 hj, all_long⟩
theorem d2_false : ∃ L : List UInt8, L.length = 20000 ∧ (∀ j, j < 20000 → L.getD j 0 = 32) ∧ allF L = (0, [], 0) :=
  ⟨List.replicate 20000 32, List.length_replicate, fun j hj => rep_getD 20000 j 32 hj, all_blank⟩
/-- A row whose cells are known one by one. -/
theorem own_fill {w : World} {B g N : Nat} {cur : Array Value} {l : List UInt8} (hB : B ≤ g) (hb : w.heap[g]? = some (.cells cur 5 (0, 0))) (hs : cur.size = N) (hl : l.length = N) (hN : N ≤ 100000) (h : ∀ j, j < N → cur[j]? = some (u8V (l.getD j 0))) :
    w.ownsRow B 5 1 (.slice (some ⟨g, 0, none⟩) N N) l.length (u8L l) := by
  refine ⟨by simp [u8L], .inr ⟨g, N, cur, by rw [hl], hB, hb, by omega, by unfold maxLen; omega, by omega, ?_⟩⟩
  apply List.ext_getElem?
  intro j
  rw [List.getElem?_take]
  by_cases hj : j < N
  · rw [if_pos (by omega), Array.getElem?_toList, h j hj]
    simp [u8L, hl, hj]
  · rw [if_neg (by omega), List.getElem?_eq_none (by simp only [u8L, List.length_map]; omega)]

end Go.Proofs.Ytibpnkggjkaohaa
