/- Put, on a heap that a law made; and plain facts on the first cell of a heap. -/
import Derived.Test.YtgllgemjfpiogaaLpl
import Derived.Test.YtgllgemjfpiogaaHput
namespace Go.Proofs.Ytgllgemjfpiogaa
open Go.RowKit
/-- The first cell of a heap: any part within it is an object that may be. -/
theorem find_head (c : C) (r : List C) (kd p z : Int) (hk : c.kind = kd) (hkd : kd = 8 ∨ kd = 9) (hs : c.size ≤ 40000) (hp : 0 ≤ p) (hz : 0 ≤ z) (h : p + z ≤ c.size) : findE (c :: r) ⟨kd, false, 0, p, z, ⟨#[]⟩⟩ = 0 := by
  have hm : mayH (c :: r) ⟨kd, false, 0, p, z, ⟨#[]⟩⟩ = true := by
    rcases hkd with rfl | rfl <;> (simp [mayH, held, mayO, eqO, bareO, O.nil, hk]; omega)
  rcases hkd with rfl | rfl <;> simp [findE, hm, held]
/-- The cell of a text. -/
abbrev txt (l : List UInt8) : C := ⟨true, false, false, [], l⟩
abbrev strO (p z : Int) : O := ⟨8, false, 0, p, z, ⟨#[]⟩⟩
theorem txt_size (l : List UInt8) : (txt l).size = l.length := by simp [C.size]
theorem find_txt (l : List UInt8) (r : List C) (p z : Int) (hs : l.length ≤ 40000) (hp : 0 ≤ p) (hz : 0 ≤ z) (h : p + z ≤ l.length) : findE (txt l :: r) (strO p z) = 0 :=
  find_head _ _ 8 p z (by simp [C.kind]) (.inl rfl) (by rw [txt_size]; exact hs) hp hz (by rw [txt_size]; exact h)
theorem size_toList (s : ByteArray) : s.toList.length = s.size := by rw [ByteArray.toList_eq]; rfl
theorem ofList (s : ByteArray) : (⟨s.toList.toArray⟩ : ByteArray) = s := by rw [ByteArray.toList_eq]
theorem string_new (s : ByteArray) (h : s.size ≤ 200) : stringH [] s = ([txt s.toList], strO 0 s.size, 0) := by
  unfold stringH
  rw [if_neg (by omega), add_fits _ _ (by simp) (by rw [txt_size, size_toList]; simp [used]; omega)]
  simp [objOf, C.kind, C.size, size_toList]
theorem part_txt (l : List UInt8) (r : List C) (k i n : Int) (hl : (l.length : Int) = k) (hk : k ≤ 40000) (h0 : 0 ≤ i) (h1 : 0 ≤ n) (h : n ≤ k - i) : partH (txt l :: r) (strO 0 k) i n = (strO i n, 0) := by
  unfold partH
  rw [find_txt l r 0 k (by omega) (by omega) (by omega) (by omega)]
  simp only [ne_eq, not_true_eq_false, if_false]
  rw [if_neg (by decide), if_neg (by omega)]
  simp
theorem bytes_txt (l : List UInt8) (r : List C) (p z : Int) (hs : l.length ≤ 40000) (hp : 0 ≤ p) (hz : 0 ≤ z) (h : p + z ≤ l.length) : bytesH (txt l :: r) (strO p z) = (⟨((l.drop p.toNat).take z.toNat).toArray⟩, 0) := by
  unfold bytesH
  rw [find_txt l r p z hs hp hz h]
  simp [lenOf, atOf]
theorem bytes_all (l : List UInt8) (r : List C) (k : Int) (hl : (l.length : Int) = k) (hk : k ≤ 40000) : bytesH (txt l :: r) (strO 0 k) = (⟨l.toArray⟩, 0) := by
  rw [bytes_txt l r 0 k (by omega) (by omega) (by omega) (by omega), Int.toNat_zero, List.drop_zero, List.take_of_length_le (by omega)]
theorem set_txt (l : List UInt8) (r : List C) (k i v : Int) (hl : (l.length : Int) = k) (hk : k ≤ 40000) (h0 : 0 ≤ i) (h1 : i < k) (v0 : 0 ≤ v) (v1 : v < 256) :
    setH (txt l :: r) (strO 0 k) i ⟨3, false, v, 0, 0, ⟨#[]⟩⟩ = (txt (l.set i.toNat (UInt8.ofNat v.toNat)) :: r, 0) := by
  unfold setH
  rw [find_txt l r 0 k (by omega) (by omega) (by omega) (by omega)]
  simp [lenOf, atOf]
  rw [if_neg (by omega), if_neg (by omega)]
theorem put_txt (l : List UInt8) (r : List C) (k i p z : Int) (hl : (l.length : Int) = k) (hk : k ≤ 40000) (hp : 0 ≤ p) (hz : 0 ≤ z) (h : p + z ≤ k) (h0 : 0 ≤ i) (h1 : i + z ≤ k) :
    putH (txt l :: r) (strO 0 k) i (strO p z) = (txt (splice l i.toNat ((l.drop p.toNat).take z.toNat)) :: r, 0) := by
  unfold putH
  rw [find_txt l r 0 k (by omega) (by omega) (by omega) (by omega), find_txt l r p z (by omega) hp hz (by omega)]
  simp only [ne_eq, not_true_eq_false, if_false, or_false]
  rw [if_neg (by decide)]
  simp [lenOf, atOf]
  omega
/-- A locked array. -/
theorem find_row (c : C) (k p z : Int) (ht : c.text = false) (hd : c.dict = false) (hl : (c.items.length : Int) = k) (hk : k ≤ 40000) (hp : 0 ≤ p) (hz : 0 ≤ z) (h : p + z ≤ k) : findE [c] ⟨9, false, 0, p, z, ⟨#[]⟩⟩ = 0 :=
  find_arr c k p z ht hd hl hk hp hz h
theorem lock_arr (c : C) (k p z : Int) (ht : c.text = false) (hd : c.dict = false) (hl : (c.items.length : Int) = k) (hk : k ≤ 40000) (hp : 0 ≤ p) (hz : 0 ≤ z) (h : p + z ≤ k) :
    lockH [c] ⟨9, false, 0, p, z, ⟨#[]⟩⟩ = ([{ c with locked := true }], 0) := by
  unfold lockH
  rw [find_arr c k p z ht hd hl hk hp hz h]
  simp
theorem set_locked (c : C) (k p z i : Int) (x : O) (ht : c.text = false) (hd : c.dict = false) (hc : c.locked = true) (hl : (c.items.length : Int) = k) (hk : k ≤ 40000) (hp : 0 ≤ p) (hz : 0 ≤ z) (h : p + z ≤ k) (hi : 0 ≤ i) (hi' : i < z) :
    setH [c] ⟨9, false, 0, p, z, ⟨#[]⟩⟩ i x = ([c], 1) := by
  unfold setH
  rw [find_arr c k p z ht hd hl hk hp hz h]
  simp [lenOf, hc]
  omega
theorem put_locked (c : C) (k p z r m i : Int) (ht : c.text = false) (hd : c.dict = false) (hc : c.locked = true) (hl : (c.items.length : Int) = k) (hk : k ≤ 40000) (hp : 0 ≤ p) (hz : 0 ≤ z) (h : p + z ≤ k) (hr : 0 ≤ r) (hm : 0 ≤ m) (h' : r + m ≤ k) (hi : 0 ≤ i) (hi' : i + m ≤ z) :
    putH [c] ⟨9, false, 0, p, z, ⟨#[]⟩⟩ i ⟨9, false, 0, r, m, ⟨#[]⟩⟩ = ([c], 1) := by
  unfold putH
  rw [find_arr c k p z ht hd hl hk hp hz h, find_arr c k r m ht hd hl hk hr hm h']
  simp [lenOf, hc]
  omega
end Go.Proofs.Ytgllgemjfpiogaa
