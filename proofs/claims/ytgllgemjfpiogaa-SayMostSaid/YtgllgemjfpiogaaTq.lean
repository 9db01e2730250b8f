/- Walk: quote.put, add, bad, name. -/
import Derived.Test.YtgllgemjfpiogaaTch
import Derived.Deep.AppendLies
import Derived.Maps.AppendAt
namespace Go.Proofs.Ytgllgemjfpiogaa
open Go.RowKit

theorem ownB {w w' : World} {S : Nat → Prop} {B : Nat} {T : TypeId} {size : Nat} {v : Value} {n : Nat} {xs : List Value} (h : w.ownsRow B T size v n xs) (hc : Chg S w w') (hS : ∀ b ∈ v.ownBlock.toList, ¬ S b) : w'.ownsRow B T size v n xs := by
  obtain ⟨h1, h2⟩ := h
  refine ⟨h1, ?_⟩
  rcases h2 with h2 | ⟨g, cap, cur, rfl, h3, h4, h5⟩
  · exact .inl h2
  · exact .inr ⟨g, cap, cur, rfl, h3, hc.blk h4 (hS g (by simp [Value.ownBlock])), h5⟩
theorem own_ge {w : World} {B : Nat} {T : TypeId} {size : Nat} {v : Value} {n : Nat} {xs : List Value} (h : w.ownsRow B T size v n xs) : ∀ b ∈ v.ownBlock.toList, B ≤ b ∧ b < w.heap.size := by
  intro b hb
  rcases h.2 with ⟨rfl, -⟩ | ⟨g, cap, cur, rfl, h3, h4, -⟩
  · simp [Value.ownBlock] at hb
  · simp [Value.ownBlock] at hb
    subst hb
    exact ⟨h3, blk_lt h4⟩
theorem own_val {w : World} {B : Nat} {T : TypeId} {size : Nat} {v : Value} {n : Nat} {xs : List Value} (h : w.ownsRow B T size v n xs) : ∃ a cap, v = .slice a n cap ∧ n ≤ cap := by
  rcases h.2 with ⟨rfl, rfl⟩ | ⟨g, cap, cur, rfl, _, _, h1, _⟩
  · exact ⟨none, 0, rfl, Nat.le_refl _⟩
  · exact ⟨_, _, rfl, h1⟩
theorem u8F {c : UInt8} (n : UInt8) (h : ¬ c = n) (m : Int) (hm : m = n.toNat := by rfl) : ((c.toNat : Int) == m) = false := by
  simp only [beq_eq_false_iff_ne, ne_eq]
  intro e
  exact h (UInt8.toNat_inj.1 (by omega))
theorem u8T {c : UInt8} (n : UInt8) (h : c = n) (m : Int) (hm : m = n.toNat := by rfl) : ((c.toNat : Int) == m) = true := by subst h hm; simp
theorem u8Fr {c : UInt8} (n : UInt8) (h : ¬ c = n) (m : Int) (hm : m = n.toNat := by rfl) : (m == (c.toNat : Int)) = false := by
  simp only [beq_eq_false_iff_ne, ne_eq]
  intro e
  exact h (UInt8.toNat_inj.1 (by omega))
theorem u8Tr {c : UInt8} (n : UInt8) (h : c = n) (m : Int) (hm : m = n.toNat := by rfl) : (m == (c.toNat : Int)) = true := by subst h hm; simp
theorem u8nF {c : UInt8} (n : UInt8) (h : c = n) (m : Int) (hm : m = n.toNat := by rfl) : ((c.toNat : Int) != m) = false := by subst h hm; simp
theorem u8nT {c : UInt8} (n : UInt8) (h : ¬ c = n) (m : Int) (hm : m = n.toNat := by rfl) : ((c.toNat : Int) != m) = true := by
  have := u8F n h m hm
  simp only [bne, this, Bool.not_false]
abbrev u8V (b : UInt8) : Value := .int .u8 b.toNat
abbrev u8L (l : List UInt8) : List Value := l.map u8V
theorem tq_under : Try.prog.underlying 22 = some (.slice 5) := by kernel_rfl
theorem tq_info : (Try.prog.info? 5).map (fun i => (i.zero, i.size, i.bytes)) = some (some (.int .u8 0), 1, 1) := by kernel_rfl
/-- Bytes that lie at the head of a block. -/
def At8 (w : World) (g : Nat) (l : List UInt8) : Prop := ∀ j, j < l.length → w.cell? ⟨g, j, none⟩ = some (u8V (l.getD j 0))
theorem add_z (g i : Nat) : (⟨g, 0, none⟩ : Addr).add i = ⟨g, i, none⟩ := by unfold Addr.add; split <;> simp_all

set_option maxRecDepth 100000 in
theorem qput_any {w : World} {B : Nat} {v : Value} {b : List UInt8} (h : w.ownsRow B 5 1 v b.length (u8L b)) (hB : B ≤ w.heap.size) (g : Nat) (m : List UInt8) (c : Nat) (hm : At8 w g m) (hl : b.length + m.length ≤ 1000000) :
    Calls Try.prog 87 #[v, .slice (some ⟨g, 0, none⟩) m.length c] w fun e w' => ∃ v', e = .returned v' ∧ w'.ownsRow B 5 1 v' (b ++ m).length (u8L (b ++ m)) ∧ w.grownBy w' v.ownBlock ∧ (v'.ownBlock = v.ownBlock ∨ v'.ownBlock = some w.heap.size) := by
  obtain ⟨i0, hi, hz0, hz1, hz2⟩ := info_parts tq_info
  have H := hid' h
  have HA := hid' hm
  clear h hm
  go_enter Try.func87, Try.ntmps87
  go_wp2_with (at_builtin; refine wpList_append_own_at _ rfl _ _ 22 rfl B 5 i0 (.int .u8 0) 1 1 tq_under hi hz0 hz1 hz2 rfl (by decide) v b.length (u8L b) rfl H.out ⟨g, 0, none⟩ m.length c (u8L m) rfl (by simp [u8L]) (fun j u hu => by
      rw [add_z]
      have hj : j < m.length := by have := (List.getElem?_eq_some_iff.1 hu).1; simpa [u8L] using this
      rw [HA.out j hj]
      rw [← hu]
      simp [u8L, hj]) (fun u hu => by simp only [u8L, List.mem_map] at hu; obtain ⟨x, -, rfl⟩ := hu; rfl) (by unfold maxLen; omega) (by omega) hB ?_)
  intro v' w1 hown hgr _ hat
  have HAT := hid' hat
  clear hat
  have HO := hid' (show w1.ownsRow B 5 1 v' (b ++ m).length (u8L (b ++ m)) by rw [List.length_append]; simpa [u8L] using hown)
  have HG := hid' hgr
  clear hown hgr
  go_wp2_with fail
  go_ret
  exact ⟨v', rfl, HO.out, HG.out, HAT.out⟩

/-- The letter of a byte that has one. -/
def qnameI (c : Int) : Int × Bool := if c = 8 then (98, true) else if c = 9 then (116, true) else if c = 10 then (110, true) else if c = 12 then (102, true) else if c = 13 then (114, true) else (0, false)
set_option maxRecDepth 100000 in
theorem qname_any (c : Int) (w : World) : Calls Try.prog 88 #[.int .u8 c] w fun e w' => e = .returned (.tuple #[.int .u8 (qnameI c).1, .bool (qnameI c).2]) ∧ w = w' := by
  have hr : qnameI c = if c = 8 then (98, true) else if c = 9 then (116, true) else if c = 10 then (110, true) else if c = 12 then (102, true) else if c = 13 then (114, true) else (0, false) := rfl
  have HR := hid' hr
  clear hr
  go_enter Try.func88, Try.ntmps88
  go_wp2
  all_goals
    go_ret2
    rw [HR.out]
    refine ⟨?_, rfl⟩
    simp_all
theorem qn8 (w : World) : Calls Try.prog 88 #[.int .u8 8] w fun e w' => e = .returned (.tuple #[.int .u8 98, .bool true]) ∧ w = w' := qname_any 8 w
theorem qn9 (w : World) : Calls Try.prog 88 #[.int .u8 9] w fun e w' => e = .returned (.tuple #[.int .u8 116, .bool true]) ∧ w = w' := qname_any 9 w
theorem qn10 (w : World) : Calls Try.prog 88 #[.int .u8 10] w fun e w' => e = .returned (.tuple #[.int .u8 110, .bool true]) ∧ w = w' := qname_any 10 w
theorem qn12 (w : World) : Calls Try.prog 88 #[.int .u8 12] w fun e w' => e = .returned (.tuple #[.int .u8 102, .bool true]) ∧ w = w' := qname_any 12 w
theorem qn13 (w : World) : Calls Try.prog 88 #[.int .u8 13] w fun e w' => e = .returned (.tuple #[.int .u8 114, .bool true]) ∧ w = w' := qname_any 13 w
end Go.Proofs.Ytgllgemjfpiogaa
