/- Walk: say's (*teller).whole. -/
import Derived.Test.YtgllgemjfpiogaaPln
import Derived.Test.YtgllgemjfpiogaaTel
import Derived.Deep.DeepCutAuto
import Derived.StillTailTactics
namespace Go.Proofs.Ytgllgemjfpiogaa
open Go.RowKit

theorem decL_short (v : Int) (h0 : -2147483647 ≤ v) (h1 : v ≤ 2147483647) : (intL v).length ≤ 20 := by
  unfold intL
  have := decL_len v.natAbs 14 (by omega)
  split
  · rw [List.length_cons]; omega
  · omega
theorem mayP_name {ex : Bool} {n a l : Int} {s : ByteArray} (h : mayO ⟨5, ex, n, a, l, s⟩ = true) : s.size ≤ 100 := by
  unfold mayO at h
  rw [Bool.and_eq_true] at h
  have := h.2
  rw [if_neg (by simp), if_neg (by simp), if_neg (by simp), if_neg (by simp), if_pos rfl] at this
  have := of_decide_eq_true this
  simp only at this
  omega
theorem plainB_size (o : O) (hm : mayO o = true) (hk : plainK o) : (plainB o).size ≤ 1000000 := by
  obtain ⟨k, ex, n, a, l, s⟩ := o
  rcases hk with hk | hk | hk | hk | hk
  all_goals
    simp only at hk
    subst hk
  · exact (by decide : (4 : Nat) ≤ 1000000)
  · have := mayP_int hm
    have := decL_short n this.1 this.2
    change (intL n).toArray.size ≤ _
    simp only [List.size_toArray]
    omega
  · have := mayP_name hm
    change s.size ≤ _
    omega
  · exact (by decide : (6 : Nat) ≤ 1000000)
  · exact (by decide : (7 : Nat) ≤ 1000000)
/-- The uncut text of an object that holds no others here. -/
def leafT (o : O) : List UInt8 := if o.kind = 5 ∧ o.exec = false then 47 :: o.s.toList else (plainB o).toList
theorem Told.pure {w0 w w' : World} {M : List (Nat × List C)} {K : List (Nat × Obj)} {hp bt : Nat} {b : List UInt8} (A : Told w0 w M K hp bt b) (X : Chg NoB w w') : Told w0 w' M K hp bt b := by
  obtain ⟨v, R, h, A⟩ := A
  exact ⟨v, R, h, A.pure X⟩
theorem Told.alloc {w0 w : World} {M : List (Nat × List C)} {K : List (Nat × Obj)} {hp bt : Nat} {b : List UInt8} (A : Told w0 w M K hp bt b) (o : Obj) : Told w0 (w.alloc o) M ((w.heap.size, o) :: K) hp bt b := by
  obtain ⟨v, R, h, A⟩ := A
  exact ⟨v, R, h, (A.alloc o).perm (by rw [← List.cons_append, ← List.cons_append]; exact List.perm_middle.symm)⟩
theorem Told.box {w0 w : World} {M : List (Nat × List C)} {K : List (Nat × Obj)} {hp bt : Nat} {b : List UInt8} (A : Told w0 w M K hp bt b) (q : Nat × Obj) (hq : q ∈ K) : w.heap[q.1]? = some q.2 := by
  obtain ⟨v, R, h, A⟩ := A
  exact A.box q (List.mem_cons_of_mem _ (List.mem_append_right _ hq))
theorem Told.tell {w0 w : World} {M : List (Nat × List C)} {K : List (Nat × Obj)} {hp bt : Nat} {b : List UInt8} (A : Told w0 w M K hp bt b) : w.cell? ⟨bt, 0, none⟩ = some (ptr hp) := by
  obtain ⟨v, R, h, A⟩ := A
  have := cells_of (A.box _ (List.mem_cons_self ..)) 0
  exact this
theorem Told.lose {w0 w : World} {M : List (Nat × List C)} {K : List (Nat × Obj)} {hp bt : Nat} {b : List UInt8} {q : Nat × Obj} (A : Told w0 w M (q :: K) hp bt b) : Told w0 w M K hp bt b := by
  obtain ⟨v, R, h, A⟩ := A
  exact ⟨v, R, h, A.keep ((List.Sublist.append_left (List.sublist_cons_self q K) R).cons_cons _)⟩
theorem take_take_app (b s t : List UInt8) : ((b ++ s).take 1000 ++ t).take 1000 = (b ++ (s ++ t)).take 1000 := by
  rw [← List.append_assoc, List.take_append (l₁ := (b ++ s).take 1000), List.take_append (l₁ := b ++ s), List.take_take, Nat.min_self, List.length_take]
  congr 2
  omega
set_option maxRecDepth 100000 in
set_option maxHeartbeats 1000000 in
theorem whole_name {w0 w : World} {M : List (Nat × List C)} {K : List (Nat × Obj)} {hp bt : Nat} {b : List UInt8} (A : Told w0 w M K hp bt b) (hb : b.length ≤ 1000) (deep : Int) (n a l : Int) (s : ByteArray) (hm : mayO ⟨5, false, n, a, l, s⟩ = true) :
    Calls Try.prog 50 #[ptr bt, O.val ⟨5, false, n, a, l, s⟩, .int .i64 deep] w fun r w' => r = .returned (.bool (decide ((b ++ 47 :: s.toList).length < 1000))) ∧ Told w0 w' M K hp bt ((b ++ 47 :: s.toList).take 1000) := by
  have hs := mayP_name hm
  have c0 : ((⟨#[47]⟩ : ByteArray)).toList = [47] := by rw [ByteArray.toList_eq]
  go_enter Try.func50, Try.ntmps50
  go_wp2_with fail
  have A1 := A.alloc (.cells #[.int .i64 5, .bool false, .int .i64 n, .int .i64 a, .int .i64 l, .string s] 28)
  refine (at_tput A1 hb ⟨#[47]⟩ (by decide)).mono ?_
  rintro r w1 ⟨rfl, A2⟩
  rw [c0] at A2 ⊢
  have hb2 : ((b ++ [47]).take 1000).length ≤ 1000 := by rw [List.length_take]; omega
  have HA2 := hid' A2
  have R2 := cells_of (A2.box _ (List.mem_cons_self ..))
  have l2 := blk_lt (A2.box _ (List.mem_cons_self ..))
  have AP := hid' (at_tput A2 hb2 s (by omega))
  rw [take_take_app, List.singleton_append] at AP
  have ef : (b ++ 47 :: s.toList).length = (b ++ [47]).length + s.toList.length := by simp; omega
  simp only at R2 l2
  clear A A1 A2 hm
  by_cases c : (b ++ [47]).length < 1000
  · have e1 : decide ((b ++ [47]).length < 1000) = true := decide_eq_true c
    have e2 : (decide (((b ++ [47]).take 1000 ++ s.toList).length < 1000)) = decide ((b ++ 47 :: s.toList).length < 1000) := by
      rw [List.take_of_length_le (by omega), List.append_assoc]; rfl
    rw [e1]
    rw [e2] at AP
    obtain ⟨R, hR⟩ : ∃ R, decide ((b ++ 47 :: s.toList).length < 1000) = R := ⟨_, rfl⟩
    rw [hR] at AP
    have HR := hid' hR
    clear hR e2 ef
    go_wp2_with fail
    refine AP.out.mono ?_
    rintro r w2 ⟨rfl, A3⟩
    go_wp2_with fail
    go_ret
    rw [HR.out]
    exact ⟨rfl, A3.lose⟩
  · have e1 : decide ((b ++ [47]).length < 1000) = false := decide_eq_false c
    have e2 : decide ((b ++ 47 :: s.toList).length < 1000) = false := decide_eq_false (by omega)
    have e3 : (b ++ 47 :: s.toList).take 1000 = (b ++ [47]).take 1000 := by
      rw [show b ++ 47 :: s.toList = (b ++ [47]) ++ s.toList by simp, List.take_append_of_le_length (by omega)]
    rw [e1]
    have E2 := hid' e2
    have E3 := hid' e3
    clear e2 e3 ef
    go_wp2_with fail
    go_ret
    rw [E2.out, E3.out]
    exact ⟨rfl, HA2.out.lose⟩
/-- Something was told. -/
def TellS (w0 : World) (M : List (Nat × List C)) (K : List (Nat × Obj)) (hp bt : Nat) (W : World) : Prop := ∃ b, Told w0 W M K hp bt b
theorem TellS.drew {w0 : World} {M : List (Nat × List C)} {K : List (Nat × Obj)} {hp bt : Nat} {W : World} (h : TellS w0 M K hp bt W) : TellS w0 M K hp bt W.drew := by
  obtain ⟨b, h⟩ := h
  exact ⟨b, h.pure (Chg.refl NoB W).drew⟩
theorem TellS.tell {w0 : World} {M : List (Nat × List C)} {K : List (Nat × Obj)} {hp bt : Nat} (W : World) (h : TellS w0 M K hp bt W) : W.cell? ⟨bt, 0, none⟩ = some (ptr hp) := by
  obtain ⟨b, h⟩ := h
  exact h.tell
theorem TellS.cells {w0 : World} {M : List (Nat × List C)} {K : List (Nat × Obj)} {hp bt g : Nat} {cs : Array Value} {T : TypeId} {fz : Nat × Nat} (W : World) (h : TellS w0 M ((g, .cells cs T fz) :: K) hp bt W) (i : Nat) : W.cell? ⟨g, i, none⟩ = cs[i]? := by
  obtain ⟨b, h⟩ := h
  exact cells_of (h.box _ (List.mem_cons_self ..)) i
set_option maxRecDepth 100000 in
set_option maxHeartbeats 1000000 in
theorem whole_leaf {w0 w : World} {M : List (Nat × List C)} {K : List (Nat × Obj)} {hp bt : Nat} {b : List UInt8} (A : Told w0 w M K hp bt b) (hb : b.length ≤ 1000) (deep : Int) (o : O) (hm : mayO o = true) (hk : o.kind = 1 ∨ o.kind = 3 ∨ o.kind = 6 ∨ (o.kind = 5 ∧ o.exec = true)) :
    Calls Try.prog 50 #[ptr bt, o.val, .int .i64 deep] w fun r w' => r = .returned (.bool (decide ((b ++ (plainB o).toList).length < 1000))) ∧ Told w0 w' M K hp bt ((b ++ (plainB o).toList).take 1000) := by
  have hpk : plainK o := by unfold plainK; rcases hk with h | h | h | h <;> simp_all
  have hsz := plainB_size o hm hpk
  have HP := fun w => plain_any o hp hm hpk w
  generalize plainB o = T at *
  obtain ⟨R, hR⟩ : ∃ R, decide ((b ++ T.toList).length < 1000) = R := ⟨_, rfl⟩
  obtain ⟨k, ex, n, a, l, s⟩ := o
  have HPL := hid' HP
  have HR := hid' hR
  clear HP hpk hm hR
  have A1 := A.alloc (.cells #[.int .i64 k, .bool ex, .int .i64 n, .int .i64 a, .int .i64 l, .string s] 28)
  have l1 := blk_lt (A1.box _ (List.mem_cons_self ..))
  have RC := fun W => TellS.cells (w0 := w0) (M := M) (K := K) (hp := hp) (bt := bt) (g := w.heap.size) (cs := #[.int .i64 k, .bool ex, .int .i64 n, .int .i64 a, .int .i64 l, .string s]) (T := 28) (fz := (0, 0)) W
  have LS := hid' (fun W b => Told.lose (w0 := w0) (w := W) (M := M) (K := K) (hp := hp) (bt := bt) (b := b) (q := (w.heap.size, .cells #[.int .i64 k, .bool ex, .int .i64 n, .int .i64 a, .int .i64 l, .string s] 28)))
  generalize ((w.heap.size, Obj.cells #[.int .i64 k, .bool ex, .int .i64 n, .int .i64 a, .int .i64 l, .string s] 28) :: K : List (Nat × Obj)) = K' at *
  have FIN : Hid (∀ (w2 : World) (A2 : Told w0 w2 M K' hp bt b),
      Calls Try.prog 72 #[ptr bt, .string T] w2 fun r w' => r = .returned (.bool R) ∧ Told w0 w' M K' hp bt ((b ++ T.toList).take 1000)) := hid' (fun w2 A2 => by
    have := at_tput A2 hb T hsz
    rwa [HR.out] at this)
  have HA := hid' A1
  have S0 : TellS w0 M K' hp bt (w.alloc (.cells #[.int .i64 k, .bool ex, .int .i64 n, .int .i64 a, .int .i64 l, .string s] 28)) := ⟨_, A1⟩
  have RT := fun W => TellS.tell (w0 := w0) (M := M) (K := K') (hp := hp) (bt := bt) W
  simp only at l1
  clear A A1
  rcases hk with hk | hk | hk | ⟨hk, hx⟩
  all_goals
    simp only at hk
    subst hk
    try (simp only at hx; subst hx)
    go_enter Try.func50, Try.ntmps50
    go_wp2_with fail
    generalize hW : w.alloc _ = w1 at *
    clear hW
    generalize w.heap.size = g at *
    go_region_held3 (fun W' => TellS w0 M K' hp bt W') (first | assumption | (exact TellS.drew (by assumption)) | (exact ⟨_, by assumption⟩))
      (first | (go_at_call 46; refine (HPL.out _).mono ?_; rintro r w4 ⟨rfl, X4⟩; have A4 := HA.out.pure ((Chg.refl NoB w1).drew.trans X4)) | (go_at_call 72; refine (FIN.out _ A4).mono ?_; rintro r w5 ⟨rfl, A5⟩))
    go_wp2_with fail
    go_ret
    rw [HR.out]
    exact ⟨rfl, LS.out _ _ A5⟩
end Go.Proofs.Ytgllgemjfpiogaa
