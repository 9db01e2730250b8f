/- Walks: say.Full at a number, a name, a string. -/
import Derived.Test.YtgahapnjlngebaaZSayc
import Derived.Test.YtgahapnjlngebaaZFxw
import Derived.Test.YtgahapnjlngebaaZTokd
import Derived.Test.YtgahapnjlngebaaZQpr
namespace Go.Proofs.Ytgahapnjlngebaa
open Go.RowKit

theorem fix_len (x : Int) (x0 : -1073741823 ≤ x) (x1 : x ≤ 1073741823) : (fixL x).length ≤ 30 := by
  obtain ⟨k1, k2⟩ := kF_rng x.natAbs
  have hp : (10 : Int) ^ kF x.natAbs ≤ 100000 ∧ 1 ≤ (10 : Int) ^ kF x.natAbs := by
    have : kF x.natAbs = 1 ∨ kF x.natAbs = 2 ∨ kF x.natAbs = 3 ∨ kF x.natAbs = 4 ∨ kF x.natAbs = 5 := by omega
    rcases this with h | h | h | h | h <;> rw [h] <;> decide
  unfold fixL sizeL
  generalize kF (x.natAbs : Int) = k at *
  have hn : 0 ≤ nearF k x.natAbs ∧ nearF k x.natAbs ≤ 107374182300001 := by
    unfold nearF
    have h1 : 0 ≤ (x.natAbs : Int) * 10 ^ k := Int.mul_nonneg (by omega) (by omega)
    have h2 : (x.natAbs : Int) * 10 ^ k ≤ 1073741823 * 100000 := Int.mul_le_mul (by omega) hp.1 (by omega) (by decide)
    have := nearI_le ((x.natAbs : Int) * 10 ^ k) 65536 h1 (by decide)
    omega
  generalize nearF k x.natAbs = n at *
  have hq : 0 ≤ n / 10 ^ k ∧ n / 10 ^ k ≤ n := ⟨Int.ediv_nonneg hn.1 (by omega), Int.ediv_le_self _ hn.1⟩
  have hr : 0 ≤ n % 10 ^ k ∧ n % 10 ^ k < 10 ^ k := ⟨Int.emod_nonneg _ (by omega), Int.emod_lt_of_pos _ (by omega)⟩
  have l1 := decL_len (n / 10 ^ k).toNat 14 (by omega)
  have l2 : (padL k (decL (n % 10 ^ k).toNat)).length ≤ 10 := by
    have l3 := decL_len (n % 10 ^ k).toNat 5 (by omega)
    simp [padL]
    omega
  simp only [List.length_append, List.length_cons]
  split <;> simp <;> omega
theorem fix_short (x : Int) (x0 : -1073741823 ≤ x) (x1 : x ≤ 1073741823) : (bytesB (fixL x)).size ≤ 1000000 := by
  have := fix_len x x0 x1
  show (fixL x).length ≤ 1000000
  omega
end Go.Proofs.Ytgahapnjlngebaa
