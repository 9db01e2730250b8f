/- Walk: token.text at a word that may be. -/
import Derived.Test.YtpgkjgceldleaaaZTmy
import Derived.Test.YtpgkjgceldleaaaZFxw
import Derived.Test.YtpgkjgceldleaaaZQpr
namespace Go.Proofs.Ytpgkjgceldleaaa
open Go.RowKit

theorem str_app1 (s : ByteArray) : (⟨#[47]⟩ : ByteArray) ++ s = bytesB (47 :: s.toList) := by
  apply ByteArray.ext
  rw [ByteArray.data_append, ByteArray.toList_eq]
  apply Array.toList_inj.1
  simp
theorem str_app2 (s : ByteArray) : (⟨#[47, 47]⟩ : ByteArray) ++ s = bytesB (47 :: 47 :: s.toList) := by
  apply ByteArray.ext
  rw [ByteArray.data_append, ByteArray.toList_eq]
  apply Array.toList_inj.1
  simp
end Go.Proofs.Ytpgkjgceldleaaa
