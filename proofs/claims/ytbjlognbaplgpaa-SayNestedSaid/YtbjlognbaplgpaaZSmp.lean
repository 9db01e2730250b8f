/- The plain law of SayMost: arrays within arrays, their text. -/
import Derived.Test.YtbjlognbaplgpaaZSayc
namespace Go.Proofs.Ytbjlognbaplgpaa
open Go.RowKit

def oK (m : Nat) : Nat → O
  | 0 => arr2
  | k + 1 => ⟨9, false, ((k + 1 : Nat) : Int), 0, (m : Int), ⟨#[]⟩⟩
def itK (more : Bool) (m k : Nat) : List O := oK m k :: (if more = true then oK m k :: List.replicate (m - 2) nullO else List.replicate (m - 1) nullO)
def cK (more : Bool) (m k : Nat) : C := ⟨false, false, false, itK more m k, []⟩
def hK (more : Bool) (m : Nat) : Nat → List C
  | 0 => [⟨false, false, false, [nullO, nullO], []⟩]
  | k + 1 => hK more m k ++ [cK more m k]
theorem itK_len (more : Bool) (m k : Nat) (h : 2 ≤ m) : (itK more m k).length = m := by
  unfold itK
  cases more <;> simp <;> omega
theorem hK_len (more : Bool) (m k : Nat) : (hK more m k).length = k + 1 := by
  induction k with
  | zero => rfl
  | succ k ih => rw [hK, List.length_append, ih]; rfl
theorem cK_size (more : Bool) (m k : Nat) (h : 2 ≤ m) : (cK more m k).size = m := by
  simp [C.size, cK, itK_len more m k h]
theorem used_cat (L L' : List C) : used (L ++ L') = used L + used L' := by simp [used]
theorem used_one (c : C) : used [c] = c.size := by simp [used]
theorem hK_used (more : Bool) (m k : Nat) (h : 2 ≤ m) : used (hK more m k) = 2 + k * m := by
  induction k with
  | zero => simp [hK, used_one, C.size]
  | succ k ih => rw [hK, used_cat, ih, used_one, cK_size more m k h, Nat.succ_mul]; omega
theorem hK_get (more : Bool) (m : Nat) : ∀ (K k : Nat), k < K → (hK more m K)[k + 1]? = some (cK more m k)
  | 0, _, h => by omega
  | K + 1, k, h => by
    rw [hK]
    by_cases e : k = K
    · subst e
      rw [List.getElem?_append_right (by rw [hK_len]; omega), hK_len]
      simp
    · rw [List.getElem?_append_left (by rw [hK_len]; omega)]
      exact hK_get more m K k (by omega)
theorem hK_zero (more : Bool) (m : Nat) : ∀ K, (hK more m K)[0]? = some ⟨false, false, false, [nullO, nullO], []⟩
  | 0 => rfl
  | K + 1 => by
    rw [hK, List.getElem?_append_left (by rw [hK_len]; omega)]
    exact hK_zero more m K
theorem oK_kind (m k : Nat) : (oK m k).kind = 9 := by cases k <;> rfl
/-- An array of the heap: it may be; what it holds. -/
theorem find_K (L : List C) (k z : Nat) (it : List O) (h : L[k]? = some ⟨false, false, false, it, []⟩) (hz : it.length = z) (hz2 : z ≤ 40000) (hk : k ≤ 40000) :
    mayH L ⟨9, false, (k : Int), 0, (z : Int), ⟨#[]⟩⟩ = true ∧ findE L ⟨9, false, (k : Int), 0, (z : Int), ⟨#[]⟩⟩ = 0 := by
  have hl : k < L.length := (List.getElem?_eq_some_iff.1 h).1
  have hm : mayH L ⟨9, false, (k : Int), 0, (z : Int), ⟨#[]⟩⟩ = true := by
    simp only [mayH, held, mayO, eqO, bareO, O.nil, Int.toNat_natCast, h]
    simp [C.kind, C.size, hz]
    omega
  exact ⟨hm, by simp [findE, hm, held]⟩
theorem may_K (more : Bool) (m K k : Nat) (h2 : 2 ≤ m) (h4 : m ≤ 4) (hk : k ≤ K) (hK2 : K ≤ 100) : mayH (hK more m K) (oK m k) = true := by
  cases k with
  | zero => exact (find_K _ 0 2 [nullO, nullO] (hK_zero more m K) rfl (by omega) (by omega)).1
  | succ k => exact (find_K _ (k + 1) m (itK more m k) (hK_get more m K k (by omega)) (itK_len more m k h2) (by omega) (by omega)).1
theorem mayO_oK (m k : Nat) (h2 : 2 ≤ m) (h4 : m ≤ 4) (hk : k ≤ 100) : mayO (oK m k) = true := by
  have h := may_K false m k k h2 h4 (Nat.le_refl _) hk
  unfold mayH at h
  rw [Bool.and_eq_true] at h
  exact h.1
theorem items_K (more : Bool) (m K k : Nat) (h2 : 2 ≤ m) (h4 : m ≤ 4) (hk : k < K) (hK2 : K ≤ 100) : itemsH (hK more m K) (oK m (k + 1)) = (itK more m k, 0) := by
  have hf := (find_K _ (k + 1) m (itK more m k) (hK_get more m K k hk) (itK_len more m k h2) (by omega) (by omega)).2
  have hl := itK_len more m k h2
  unfold itemsH
  rw [show oK m (k + 1) = ⟨9, false, ((k + 1 : Nat) : Int), 0, (m : Int), ⟨#[]⟩⟩ from rfl, hf]
  simp only [ne_eq, not_true_eq_false, if_false, Int.toNat_natCast, hK_get more m K k hk]
  have : List.take m (itK more m k) = itK more m k := List.take_of_length_le (by omega)
  simp [atOf, lenOf, cK, this]
theorem items_0 (more : Bool) (m K : Nat) : itemsH (hK more m K) arr2 = ([nullO, nullO], 0) := by
  have hf := (find_K _ 0 2 [nullO, nullO] (hK_zero more m K) rfl (by omega) (by omega)).2
  unfold itemsH
  rw [show arr2 = ⟨9, false, ((0 : Nat) : Int), 0, ((2 : Nat) : Int), ⟨#[]⟩⟩ from rfl, hf]
  simp only [ne_eq, not_true_eq_false, if_false, Int.toNat_natCast, hK_zero]
  simp [atOf, lenOf]
/-- The steps of a round. -/
theorem arr_K (more : Bool) (m k : Nat) (h2 : 2 ≤ m) (h4 : m ≤ 4) (hk : k ≤ 100) : arrayH (hK more m k) (m : Int) = (hK more m k ++ [⟨false, false, false, List.replicate m nullO, []⟩], oK m (k + 1), 0) := by
  unfold arrayH
  have hu := hK_used more m k h2
  have h5 : k * m ≤ 100 * 4 := Nat.mul_le_mul hk h4
  rw [if_neg (by omega), if_neg (by omega), add_fits _ _ (by rw [hK_len]; omega) (by rw [hu]; simp [C.size]; omega)]
  simp [objOf, C.kind, C.size, hK_len, oK]
theorem set_K (L : List C) (k z : Nat) (it : List O) (hk : L.length = k) (hz : it.length = z) (hz2 : z ≤ 40000) (hk2 : k ≤ 40000) (i : Nat) (hi : i < z) (x : O) (hx : mayH (L ++ [⟨false, false, false, it, []⟩]) x = true) :
    setH (L ++ [⟨false, false, false, it, []⟩]) ⟨9, false, (k : Int), 0, (z : Int), ⟨#[]⟩⟩ (i : Int) x = (L ++ [⟨false, false, false, it.set i x, []⟩], 0) := by
  have hg : (L ++ [(⟨false, false, false, it, []⟩ : C)])[k]? = some ⟨false, false, false, it, []⟩ := by
    rw [List.getElem?_append_right (by omega), hk]; simp
  have hf := (find_K _ k z it hg hz hz2 hk2).2
  unfold setH
  rw [hf]
  simp only [ne_eq, not_true_eq_false, if_false, Int.toNat_natCast, hg]
  have hs : (L ++ [(⟨false, false, false, it, []⟩ : C)]).set k ⟨false, false, false, it.set i x, []⟩ = L ++ [⟨false, false, false, it.set i x, []⟩] := by
    rw [List.set_append_right _ _ (by omega), hk]; simp
  simp [atOf, lenOf, hx, hs]
  omega
/-- The texts. -/
abbrev nulL : List UInt8 := [110, 117, 108, 108]
def nulsT (n : Nat) : List UInt8 := (List.replicate n nullO).flatMap fun _ => 32 :: nulL
abbrev S0 : List UInt8 := 91 :: (nulL ++ (32 :: nulL ++ [93]))
def sK (more : Bool) (m : Nat) : Nat → List UInt8
  | 0 => S0
  | k + 1 => 91 :: (sK more m k ++ ((if more = true then 32 :: sK more m k ++ nulsT (m - 2) else nulsT (m - 1)) ++ [93]))
theorem jn_cons (T : O → List UInt8) (x : O) (l : List O) : ∀ i, i ≤ l.length → jn T (x :: l) (i + 1) = T x ++ (l.take i).flatMap fun y => 32 :: T y
  | 0, _ => by simp [jn]
  | i + 1, h => by
    rw [jn, jn_cons T x l i (by omega), if_neg (by omega), List.getD_cons_succ, List.take_add_one, List.getElem?_eq_getElem (by omega), List.flatMap_append]
    simp [List.getD_eq_getElem?_getD, List.getElem?_eq_getElem (show i < l.length by omega)]
theorem jn_all (T : O → List UInt8) (x : O) (l : List O) : jn T (x :: l) (x :: l).length = T x ++ l.flatMap fun y => 32 :: T y := by
  rw [List.length_cons, jn_cons T x l l.length (Nat.le_refl _), List.take_length]
theorem nuls_map (T : O → List UInt8) (n : Nat) (h : T nullO = nulL) : ((List.replicate n nullO).flatMap fun y => 32 :: T y) = nulsT n := by
  unfold nulsT
  induction n with
  | zero => rfl
  | succ n ih => rw [List.replicate_succ, List.flatMap_cons, List.flatMap_cons, ih, h]
theorem leaf_null : leafT nullO = nulL := by
  unfold leafT
  rw [if_neg (by decide)]
  unfold plainB
  rw [if_pos (by decide), ByteArray.toList_eq]
theorem say_null (H : List C) (d : Nat) : sayT H d nullO = nulL := by
  cases d with
  | zero => exact leaf_null
  | succ d => rw [sayT, if_neg (by decide)]; exact leaf_null
theorem mayO_null : mayO nullO = true := by simp [mayO, eqO, bareO, O.nil, nullO]
theorem sayG_null (H : List C) (d : Nat) : SayG H d nullO := by
  cases d with
  | zero => exact ⟨mayO_null, .inl rfl, fun h => absurd h (by decide)⟩
  | succ d => exact ⟨mayO_null, .inl rfl, fun h => absurd h (by decide)⟩
theorem sayG_K (more : Bool) (m K : Nat) (h2 : 2 ≤ m) (h4 : m ≤ 4) (hK2 : K ≤ 100) : ∀ k, k ≤ K → SayG (hK more m K) (8 + k) (oK m k)
  | 0, _ => by
    refine ⟨mayO_arr2, .inr (.inr (.inr (.inr rfl))), fun _ => ?_⟩
    rw [show oK m 0 = arr2 from rfl, items_0]
    refine ⟨rfl, by decide, by decide, fun x hx => ?_⟩
    simp only [List.mem_cons, List.not_mem_nil, or_false, or_self] at hx
    rw [hx]; exact sayG_null _ _
  | k + 1, h => by
    have ih := sayG_K more m K h2 h4 hK2 k (by omega)
    refine ⟨mayO_oK m (k + 1) h2 h4 (by omega), .inr (.inr (.inr (.inr rfl))), fun _ => ?_⟩
    rw [items_K more m K k h2 h4 (by omega) hK2]
    refine ⟨rfl, by rw [itK_len more m k h2]; omega, by rw [itK_len more m k h2]; omega, fun x hx => ?_⟩
    unfold itK at hx
    cases more with
    | true =>
      simp only [if_true, List.mem_cons, List.mem_replicate] at hx
      rcases hx with rfl | rfl | ⟨-, rfl⟩
      · exact ih
      · exact ih
      · exact sayG_null _ _
    | false =>
      simp only [Bool.false_eq_true, if_false, List.mem_cons, List.mem_replicate] at hx
      rcases hx with rfl | ⟨-, rfl⟩
      · exact ih
      · exact sayG_null _ _
theorem say_K (more : Bool) (m K : Nat) (h2 : 2 ≤ m) (h4 : m ≤ 4) (hK2 : K ≤ 100) : ∀ k, k ≤ K → sayT (hK more m K) (8 + k) (oK m k) = sK more m k
  | 0, _ => by
    rw [show 8 + 0 = 7 + 1 from rfl, sayT, if_pos (oK_kind m 0), show oK m 0 = arr2 from rfl, items_0, arrT, jn_all, say_null]
    simp [say_null, sK, S0]
  | k + 1, h => by
    have ih := say_K more m K h2 h4 hK2 k (by omega)
    rw [show 8 + (k + 1) = (8 + k) + 1 from rfl, sayT, if_pos (oK_kind m (k + 1)), items_K more m K k h2 h4 (by omega) hK2, show (oK m (k + 1)).exec = false from rfl, arrT]
    simp only [itK]
    rw [jn_all, ih, sK]
    cases more with
    | true =>
      simp only [if_true, List.flatMap_cons, ih]
      rw [nuls_map _ _ (say_null _ _)]
      simp
    | false =>
      simp only [Bool.false_eq_true, if_false]
      rw [nuls_map _ _ (say_null _ _)]
      simp
theorem sK_pre (more : Bool) (m : Nat) (h2 : 2 ≤ m) : ∀ k, ∃ r, sK more m k = List.replicate k 91 ++ (S0 ++ r) ∧ (more = false → 1 ≤ k → ∃ r', r = 32 :: nulL ++ r')
  | 0 => ⟨[], by simp [sK], fun _ h => by omega⟩
  | k + 1 => by
    obtain ⟨r, h, h'⟩ := sK_pre more m h2 k
    rw [sK]
    cases more with
    | true =>
      simp only [if_true]
      generalize 32 :: sK true m k ++ nulsT (m - 2) = X
      refine ⟨r ++ (X ++ [93]), ?_, fun e => by simp at e⟩
      rw [h, List.replicate_succ]
      simp only [List.append_assoc, List.cons_append]
    | false =>
      refine ⟨r ++ (nulsT (m - 1) ++ [93]), ?_, fun _ _ => ?_⟩
      · simp only [Bool.false_eq_true, if_false, List.replicate_succ, List.cons_append]
        rw [h]
        simp only [List.append_assoc, List.cons_append]
      · by_cases hk : 1 ≤ k
        · obtain ⟨r', hr⟩ := h' rfl hk
          exact ⟨r' ++ (nulsT (m - 1) ++ [93]), by rw [hr, List.append_assoc]⟩
        · obtain rfl : k = 0 := by omega
          have hr : r = [] := by
            have := congrArg List.length h
            simp [sK] at this
            exact this
          subst hr
          refine ⟨nulsT (m - 2) ++ [93], ?_⟩
          rw [List.nil_append, ← List.append_assoc]
          congr 1
          rw [show m - 1 = (m - 2) + 1 by omega]
          unfold nulsT
          rw [List.replicate_succ, List.flatMap_cons]
theorem nulsT_len (n : Nat) : (nulsT n).length = 5 * n := by
  unfold nulsT
  induction n with
  | zero => rfl
  | succ n ih => rw [List.replicate_succ, List.flatMap_cons, List.length_append, ih]; simp; omega
theorem sK_short (m : Nat) (h4 : m ≤ 4) (k : Nat) : (sK false m k).length ≤ 11 + k * 17 := by
  induction k with
  | zero => simp [sK]
  | succ k ih =>
    rw [sK, List.length_cons, List.length_append, List.length_append]
    simp only [Bool.false_eq_true, if_false, nulsT_len, List.length_singleton]
    omega
theorem sK_long (m : Nat) (k : Nat) : 11 * 2 ^ k ≤ (sK true m k).length := by
  induction k with
  | zero => simp [sK]
  | succ k ih =>
    rw [sK, List.length_cons, List.length_append, List.length_append]
    simp only [if_true, List.length_append, List.length_cons, Nat.pow_succ]
    omega
abbrev P1 : ByteArray := ⟨#[91, 91, 91, 91, 91, 91, 91, 91, 91, 91, 91, 91, 91, 110, 117, 108, 108, 32, 110, 117, 108, 108, 93]⟩
abbrev P2 : ByteArray := ⟨#[91, 91, 91, 91, 91, 91, 91, 91, 91, 91, 91, 91, 91, 110, 117, 108, 108, 32, 110, 117, 108, 108, 93, 32, 110, 117, 108, 108]⟩
theorem most_true (m : Nat) (h2 : 2 ≤ m) : ((sK true m 12).take 1000).length = 1000 ∧ ∃ r, (sK true m 12).take 1000 = P1.toList ++ r := by
  have hl := sK_long m 12
  obtain ⟨r, h, -⟩ := sK_pre true m h2 12
  refine ⟨by rw [List.length_take]; omega, r.take 977, ?_⟩
  have e : P1.toList = List.replicate 12 91 ++ S0 := by rw [ByteArray.toList_eq]; rfl
  rw [h, ← List.append_assoc, ← e, List.take_append, List.take_of_length_le (by rw [e]; decide)]
  congr 2
  rw [e]
  rfl
theorem most_false (m : Nat) (h2 : 2 ≤ m) (h4 : m ≤ 4) : ((sK false m 12).take 1000).length < 1000 ∧ ∃ r, (sK false m 12).take 1000 = P2.toList ++ r := by
  have hl := sK_short m h4 12
  obtain ⟨r, h, h'⟩ := sK_pre false m h2 12
  obtain ⟨r', hr⟩ := h' rfl (by decide)
  have e : P2.toList = List.replicate 12 91 ++ (S0 ++ 32 :: nulL) := by rw [ByteArray.toList_eq]; rfl
  rw [List.take_of_length_le (by omega)]
  refine ⟨by omega, r', ?_⟩
  rw [h, hr, e]
  simp only [List.append_assoc, List.cons_append]
end Go.Proofs.Ytbjlognbaplgpaa
