/- Walk: say.Plain of null, a number, a name, a mark, an array. -/
import Derived.Test.YtgllgemjfpiogaaMay
import Derived.Test.YtgllgemjfpiogaaHeap
import Derived.Test.YtgllgemjfpiogaaTnt
namespace Go.Proofs.Ytgllgemjfpiogaa
open Go.RowKit

def plainB (o : O) : ByteArray :=
  if o.kind = 1 then ⟨#[110, 117, 108, 108]⟩ else if o.kind = 3 then ⟨(intL o.n).toArray⟩ else if o.kind = 5 then o.s else if o.kind = 6 then ⟨#[45, 109, 97, 114, 107, 45]⟩ else ⟨#[45, 97, 114, 114, 97, 121, 45]⟩
def plainK (o : O) : Prop := o.kind = 1 ∨ o.kind = 3 ∨ o.kind = 5 ∨ o.kind = 6 ∨ o.kind = 9
theorem mayP_int {ex : Bool} {n a l : Int} {s : ByteArray} (h : mayO ⟨3, ex, n, a, l, s⟩ = true) : -2147483647 ≤ n ∧ n ≤ 2147483647 := by
  unfold mayO at h
  rw [Bool.and_eq_true] at h
  have := h.2
  rw [if_neg (by simp), if_neg (by simp), if_pos rfl] at this
  simpa using this

set_option maxRecDepth 100000 in
set_option maxHeartbeats 1000000 in
theorem plain_any (o : O) (hp : Nat) (hm : mayO o = true) (hk : plainK o) (w : World) :
    Calls Try.prog 46 #[ptr hp, o.val] w fun r w' => r = .returned (.string (plainB o)) ∧ Chg NoB w w' := by
  have HM := may_any o
  rw [hm] at HM
  have HM2 := hid' HM
  obtain ⟨k, ex, n, a, l, s⟩ := o
  rcases hk with hk | hk | hk | hk | hk
  all_goals
    simp only at hk
    subst hk
  · clear HM
    go_enter Try.func46, Try.ntmps46
    go_wp2_with fail
    go_ret
    exact ⟨rfl, (Chg.refl NoB w).alloc _⟩
  · have HN := hid' (nint_any n (by have := mayP_int hm; omega) (by have := mayP_int hm; omega))
    clear HM
    go_enter Try.func46, Try.ntmps46
    go_wp2_with fail
    have hb := blk_new w (.cells #[.int .i64 3, .bool ex, .int .i64 n, .int .i64 a, .int .i64 l, .string s] 28)
    have X := (Chg.refl NoB w).alloc (.cells #[.int .i64 3, .bool ex, .int .i64 n, .int .i64 a, .int .i64 l, .string s] 28)
    generalize w.alloc (.cells #[.int .i64 3, .bool ex, .int .i64 n, .int .i64 a, .int .i64 l, .string s] 28) = w1 at *
    refine (HM2.out _).mono ?_
    rintro r w2 ⟨rfl, X2⟩
    have R2 := cells_of (X2.blk hb id)
    have l2 := blk_lt (X2.blk hb id)
    clear hb
    go_wp2_with fail
    refine (HN.out _).mono ?_
    rintro r w3 ⟨rfl, X3⟩
    go_wp2_with fail
    go_ret
    exact ⟨rfl, (X.trans X2).trans X3⟩
  all_goals
    clear HM
    go_enter Try.func46, Try.ntmps46
    go_wp2_with fail
    go_ret
    exact ⟨rfl, (Chg.refl NoB w).alloc _⟩
end Go.Proofs.Ytgllgemjfpiogaa
