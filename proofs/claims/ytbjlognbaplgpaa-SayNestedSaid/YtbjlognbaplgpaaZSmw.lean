/- Walk: tympanhelp.Begins, tympanlaw17.SayMost. -/
import Derived.Test.YtbjlognbaplgpaaZSmp
namespace Go.Proofs.Ytbjlognbaplgpaa
open Go.RowKit

theorem extract_pre (l p r : List UInt8) (h : l = p ++ r) : (⟨l.toArray⟩ : ByteArray).extract 0 p.length = ⟨p.toArray⟩ := by
  have e : ((⟨l.toArray⟩ : ByteArray).extract 0 p.length).data = p.toArray := by
    rw [ByteArray.data_extract]
    apply Array.toList_inj.1
    simp [h]
  exact congrArg ByteArray.mk e
/-- SayMost's heap: the one before may stand in the new one. -/
theorem may_Ka (more : Bool) (m k : Nat) (c : C) (h2 : 2 ≤ m) (h4 : m ≤ 4) (hk : k ≤ 100) : mayH (hK more m k ++ [c]) (oK m k) = true := by
  cases k with
  | zero => exact (find_K _ 0 2 [nullO, nullO] (by rw [List.getElem?_append_left (by rw [hK_len]; omega)]; exact hK_zero ..) rfl (by omega) (by omega)).1
  | succ k => exact (find_K _ (k + 1) m (itK more m k) (by rw [List.getElem?_append_left (by rw [hK_len]; omega)]; exact hK_get more m (k + 1) k (by omega)) (itK_len more m k h2) (by omega) (by omega)).1
theorem it_false (m k : Nat) (h2 : 2 ≤ m) : (List.replicate m nullO).set 0 (oK m k) = itK false m k := by
  obtain ⟨n, rfl⟩ : ∃ n, m = n + 1 := ⟨m - 1, by omega⟩
  rw [List.replicate_succ]
  rfl
theorem it_true (m k : Nat) (h2 : 2 ≤ m) : ((List.replicate m nullO).set 0 (oK m k)).set 1 (oK m k) = itK true m k := by
  obtain ⟨n, rfl⟩ : ∃ n, m = n + 2 := ⟨m - 2, by omega⟩
  rw [List.replicate_succ, List.replicate_succ]
  rfl
abbrev obox (x : O) : Obj := .cells #[.int .i64 x.kind, .bool x.exec, .int .i64 x.n, .int .i64 x.pos, .int .i64 x.len, .string x.s] 27
end Go.Proofs.Ytbjlognbaplgpaa
