/- Ast, Pln, Tel, Who -/
import Derived.Test.YtgahapnjlngebaaZHeapc
import Derived.Test.YtgahapnjlngebaaZHeapa
import Derived.Lib.AppendStr
import Derived.Deep.AppendLies
import Derived.Test.YtgahapnjlngebaaZChar
import Derived.Deep.DrawnRows
import Derived.Deep.RegionLaw
import Derived.BigRegion
import Derived.Deep.DeepCutAuto
import Derived.StillTailTactics
/- append of a string's bytes onto a row of the call's own, and where the new slice lies; a row among the boxes, what is appended may be nothing. -/
namespace Go.Proofs.Ytgahapnjlngebaa
open Go.RowKit

section
variable {P : Program} (w : World)
theorem run_append_str_at (base : Nat) (t u ty e : TypeId) (i : TypeInfo) (ht : P.underlying t = some (.slice e)) (hu : P.underlying u = some .string) (hi : P.info? e = some i) (hz : i.zero = some (.int .u8 0))
    (hsize : i.size = 1) (hby : i.bytes = 1)
    (v : Value) (n : Nat) (xs : List Value) (hown : w.ownsRow base e 1 v n xs) (s : ByteArray)
    (h63 : n + s.size ≤ maxLen) (hbytes : n + s.size ≤ 140737488355328) (hbase : base ≤ w.heap.size) :
    ∃ v' w', (Builtin.append_ #[t, u] ty #[v, .string s]).run P w = .ok v' w' ∧ w'.ownsRow base e 1 v' (n + s.size) (xs ++ Lib.strCells s) ∧ w.grownBy w' v.ownBlock ∧
      (v' = .slice none 0 0 ↔ v = .slice none 0 0 ∧ s.size = 0) ∧ (v'.ownBlock = v.ownBlock ∨ v'.ownBlock = some w.heap.size) := by
  obtain ⟨v', w', hr, h1, h2, h3⟩ := Lib.run_append_own_string (P := P) w base t u ty e i ht hu hi hz hsize hby v n xs hown s h63 hbytes hbase
  refine ⟨v', w', hr, h1, h2, h3, ?_⟩
  have hsmall : n + s.size ≤ 9223372036854775807 := by simp only [maxLen] at h63; omega
  have hxl : xs.length = n := by simpa using hown.1
  rcases hown.2 with ⟨rfl, rfl⟩ | ⟨g, cap, cur, rfl, hbg, hg, hnc, hcm, hcs, htake⟩
  · by_cases hm : s.size = 0
    · exact .inl (by rw [h3.2 ⟨rfl, hm⟩])
    · have := run_append_nil_string (P := P) w t u ty e i (.int .u8 0) ht hu hi hz s (by omega) (by omega) (by rw [hby]; omega)
      rw [hr] at this
      injection this with this _
      subst this
      exact .inr rfl
  · by_cases hroom : n + s.size ≤ cap
    · have hcs' : cur.size = cap := by simpa using hcs
      have := Lib.run_append_room_string (P := P) w t u ty e i ht hu hi hsize g n cap cur hg s hroom (by omega)
      rw [hr] at this
      injection this with this _
      subst this
      exact .inl rfl
    · have := Lib.run_append_grow_string (P := P) w t u ty e i (.int .u8 0) ht hu hi hz ⟨g, 0, none⟩ n cap xs (by rw [hsize]; simpa using hxl) (hown.cells (g := g) rfl) s (by omega) (by omega) (by rw [hby]; exact growslice_fits (by omega) (by omega))
      rw [hr] at this
      injection this with this _
      subst this
      exact .inr rfl
theorem step_append_str {ops : Array Oper} {o : Oper} {a : Act} {K : Act → World → Prop} {Q : Exit → Act → World → Prop} {E : Prop} (hgd : o.guard = none) (sl x : Operand) (t u : TypeId)
    (ho : o.op = .call { callee := .builtin .append, args := #[sl, x], argTypes := #[t, u] })
    (base : Nat) (e : TypeId) (i : TypeInfo) (ht : P.underlying t = some (.slice e)) (hu : P.underlying u = some .string) (hi : P.info? e = some i) (hz : i.zero = some (.int .u8 0))
    (hsize : i.size = 1) (hby : i.bytes = 1)
    (v : Value) (n : Nat) (xs : List Value) (hs : a.eval sl = v) (hown : w.ownsRow base e 1 v n xs) (s : ByteArray) (hx : a.eval x = .string s)
    (h63 : n + s.size ≤ maxLen) (hbytes : n + s.size ≤ 140737488355328) (hbase : base ≤ w.heap.size)
    (h : ∀ v' w', w'.ownsRow base e 1 v' (n + s.size) (xs ++ Lib.strCells s) → w.grownBy w' v.ownBlock → (v' = .slice none 0 0 ↔ v = .slice none 0 0 ∧ s.size = 0) → (v'.ownBlock = v.ownBlock ∨ v'.ownBlock = some w.heap.size) → K (a.put o.dst v') w') :
    if Region.wanted o (yielded ops a.tmps) = true then Oper.wp P o a w K Q else E := by
  have hw : Region.wanted o (yielded ops a.tmps) = true := by simp [Region.wanted, hgd]
  rw [if_pos hw]
  obtain ⟨v', w', hr, h2, h3, h4, h5⟩ := run_append_str_at (P := P) w base t u o.type e i ht hu hi hz hsize hby v n xs hown s h63 hbytes hbase
  unfold Oper.wp execOp
  simp only [ho, resolve, invoke, builtin, Sem.run_bind, Sem.run_pure, Result.andThen_ok, List.map_toArray, List.map_cons, List.map_nil, hs, hx, hr]
  exact h v' w' h2 h3 h4 h5
end
end Go.Proofs.Ytgahapnjlngebaa
/- Walk: say.Plain of null, a number, a name, a mark, an array. -/
namespace Go.Proofs.Ytgahapnjlngebaa
open Go.RowKit

def plainB (o : O) : ByteArray :=
  if o.kind = 1 then ⟨#[110, 117, 108, 108]⟩ else if o.kind = 3 then ⟨(intL o.n).toArray⟩ else if o.kind = 5 then o.s else if o.kind = 6 then ⟨#[45, 109, 97, 114, 107, 45]⟩ else ⟨#[45, 97, 114, 114, 97, 121, 45]⟩
def plainK (o : O) : Prop := o.kind = 1 ∨ o.kind = 3 ∨ o.kind = 5 ∨ o.kind = 6 ∨ o.kind = 9
theorem mayP_int {ex : Bool} {n a l : Int} {s : ByteArray} (h : mayO ⟨3, ex, n, a, l, s⟩ = true) : -2147483647 ≤ n ∧ n ≤ 2147483647 := by
  unfold mayO at h
  rw [Bool.and_eq_true] at h
  have := h.2
  rw [if_neg (by simp), if_neg (by simp), if_pos rfl] at this
  simpa using this

end Go.Proofs.Ytgahapnjlngebaa
/- Walk: say's (*teller).put. -/
namespace Go.Proofs.Ytgahapnjlngebaa
open Go.RowKit
attribute [local go_sem ↓] Go.wp_at_zero Go.wp_at_succ

theorem infoU8 : (Try.prog.info? 5).map (fun i => (i.zero, i.size, i.bytes)) = some (some (.int .u8 0), 1, 1) := by kernel_rfl
theorem hidE {p : Prop} (h : p) : Hid p := h
theorem rowG_val {T : TypeId} {sz : Nat} {R : List (Nat × Obj)} {v : Value} {n : Nat} {xs : List Value} (h : RowG T sz R v n xs) : ∃ a c, v = .slice a n c := by
  rcases h with ⟨rfl, h0, -⟩ | ⟨g, cap, cur, rfl, -⟩
  · exact ⟨none, 0, by rw [h0]⟩
  · exact ⟨_, _, rfl⟩
theorem strCells_eq (s : ByteArray) : Lib.strCells s = s.toList.map vu8 := by rw [ByteArray.toList_eq]; rfl
theorem take_1000 (b s : List UInt8) (hb : b.length ≤ 1000) : b ++ s.take (1000 - b.length) = (b ++ s).take 1000 := by
  rw [List.take_append, List.take_of_length_le hb]

end Go.Proofs.Ytgahapnjlngebaa
/- Walk: say's (*teller).whole. -/
namespace Go.Proofs.Ytgahapnjlngebaa
open Go.RowKit

theorem decL_short (v : Int) (h0 : -2147483647 ≤ v) (h1 : v ≤ 2147483647) : (intL v).length ≤ 20 := by
  unfold intL
  have := decL_len v.natAbs 14 (by omega)
  split
  · rw [List.length_cons]; omega
  · omega
theorem mayP_name {ex : Bool} {n a l : Int} {s : ByteArray} (h : mayO ⟨5, ex, n, a, l, s⟩ = true) : s.size ≤ 100 := by
  unfold mayO at h
  rw [Bool.and_eq_true] at h
  have := h.2
  rw [if_neg (by simp), if_neg (by simp), if_neg (by simp), if_neg (by simp), if_pos rfl] at this
  have := of_decide_eq_true this
  simp only at this
  omega
theorem plainB_size (o : O) (hm : mayO o = true) (hk : plainK o) : (plainB o).size ≤ 1000000 := by
  obtain ⟨k, ex, n, a, l, s⟩ := o
  rcases hk with hk | hk | hk | hk | hk
  all_goals
    simp only at hk
    subst hk
  · exact (by decide : (4 : Nat) ≤ 1000000)
  · have := mayP_int hm
    have := decL_short n this.1 this.2
    change (intL n).toArray.size ≤ _
    simp only [List.size_toArray]
    omega
  · have := mayP_name hm
    change s.size ≤ _
    omega
  · exact (by decide : (6 : Nat) ≤ 1000000)
  · exact (by decide : (7 : Nat) ≤ 1000000)
/-- The uncut text of an object that holds no others here. -/
def leafT (o : O) : List UInt8 := if o.kind = 5 ∧ o.exec = false then 47 :: o.s.toList else (plainB o).toList
theorem take_take_app (b s t : List UInt8) : ((b ++ s).take 1000 ++ t).take 1000 = (b ++ (s ++ t)).take 1000 := by
  rw [← List.append_assoc, List.take_append (l₁ := (b ++ s).take 1000), List.take_append (l₁ := b ++ s), List.take_take, Nat.min_self, List.length_take]
  congr 2
  omega
end Go.Proofs.Ytgahapnjlngebaa
