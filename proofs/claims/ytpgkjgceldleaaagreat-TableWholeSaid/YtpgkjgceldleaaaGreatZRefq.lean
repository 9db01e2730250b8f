/- Smo, Rkg -/
import Derived.Test.YtpgkjgceldleaaaGreatZRefp
import Derived.Test.YtpgkjgceldleaaaGreatZRefj
import Derived.Test.YtpgkjgceldleaaaGreatZHplaya
import Derived.Test.YtpgkjgceldleaaaGreatZDictb
import Derived.BigQuiet
/- tympanhelp.Same of two slices of objects, wherever they begin; Pairs of both dictionaries. -/
namespace Go.Proofs.YtpgkjgceldleaaaGreat
open Go.RowKit

/-- A slice of objects that w holds, wherever it begins. -/
def RowAt (w : World) (v : Value) (n : Nat) (xs : List O) : Prop :=
  ∃ a c, v = .slice a n c ∧ n ≤ c ∧ (0 < n → ∃ g off cur fz, a = some ⟨g, off, none⟩ ∧ w.heap[g]? = some (.cells cur 38 fz) ∧ ∀ m o, xs[m]? = some o → ∀ j, j < 6 → cur[off + m * 6 + j]? = o.cells[j]?)
set_option maxRecDepth 100000 in
theorem same_at (w : World) (va vb : Value) (n : Nat) (xs : List O) (hn : xs.length = n) (hn9 : n ≤ 100000) (ha : RowAt w va n xs) (hb : RowAt w vb n xs) :
    Calls Tryz.prog 17 #[va, vb] w fun e w' => e = .returned (.bool true) ∧ Chg NoB w w' := by
  obtain ⟨a, c, rfl, hac, hra⟩ := ha
  obtain ⟨b, d, rfl, hbd, hrb⟩ := hb
  have HRA := hid' hra
  have HRB := hid' hrb
  have HN := hid' hn
  clear hra hrb hn
  go_enter Tryz.func17, Tryz.ntmps17
  go_wp2_with fail
  go_loopw [5] (fun cv wr => ∃ k : Nat, k ≤ n ∧ cv = .int .i64 k ∧ Chg NoB w wr) (fun cv _ => n - (intOf cv).toNat)
  case atStart => exact ⟨0, Nat.zero_le _, rfl, Chg.refl _ _⟩
  case round =>
    obtain ⟨k, hk, rfl, X⟩ := hrel
    by_cases hlt : k < n
    · obtain ⟨g, off, cur, fz, rfl, hg, hc⟩ := HRA.out (by omega)
      obtain ⟨g', off', cur', fz', rfl, hg', hc'⟩ := HRB.out (by omega)
      have hkl : k < xs.length := by rw [HN.out]; exact hlt
      have ho : xs[k]? = some xs[k] := List.getElem?_eq_getElem hkl
      have Q := hc k _ ho
      have Q' := hc' k _ ho
      have R1 := cells_of (X.blk hg id)
      have R2 := cells_of (X.blk hg' id)
      have l1 := blk_lt (X.blk hg id)
      have l2 := blk_lt (X.blk hg' id)
      generalize xs[k] = o at *
      have qe : eqO o o = true := eqO_self _
      obtain ⟨kk, kx, kn, kp, kl, ks⟩ := o
      have q0 := Q 0 (by decide)
      have q1 := Q 1 (by decide)
      have q2 := Q 2 (by decide)
      have q3 := Q 3 (by decide)
      have q4 := Q 4 (by decide)
      have q5 := Q 5 (by decide)
      have p0 := Q' 0 (by decide)
      have p1 := Q' 1 (by decide)
      have p2 := Q' 2 (by decide)
      have p3 := Q' 3 (by decide)
      have p4 := Q' 4 (by decide)
      have p5 := Q' 5 (by decide)
      simp only [O.cells, List.getElem?_cons_zero, List.getElem?_cons_succ, Nat.add_zero] at q0 q1 q2 q3 q4 q5 p0 p1 p2 p3 p4 p5
      have vk := IntWalk.i64_in ((k : Int) + 1) (by omega)
      have dl : (k : Int) < n := by omega
      have dc : (n : Int) ≤ c := by omega
      have dd : (n : Int) ≤ d := by omega
      clear Q Q' hc hc' ho hg hg'
      go_wp2_with fail
      go_quiet (fail)
      go_wp2_with fail
      go_roundw
      case rel => exact ⟨k + 1, by omega, by go_num, X.drewN _⟩
      case measure => simp [intOf]; omega
    · obtain rfl : k = n := by omega
      go_wp2_with fail
      go_ret
      exact ⟨rfl, X⟩
/-- The pairs' part of a dictionary's items. -/
theorem pairs_at (ps : List (O × O)) (room : Nat) (_h : ps.length ≤ room) (m : Nat) (o : O) (hm : (pairsL ps)[m]? = some o) : (dItems ps room)[m + 1]? = some o := by
  unfold dItems
  have hl := (List.getElem?_eq_some_iff.1 hm).1
  rw [List.getElem?_cons_succ, List.getElem?_append_left hl]
  exact hm
/-- A row of a dictionary's items, from its second item on. -/
theorem row_pairs {w : World} {g : Nat} {cur : Array Value} {fz : Nat × Nat} {ps : List (O × O)} {room : Nat} (h : ps.length ≤ room) (hb : w.heap[g]? = some (.cells cur 38 fz)) (hc : ∀ i, i < (dItems ps room).length * 6 → cur[i]? = ((dItems ps room).flatMap O.cells)[i]?)
    {a : Option Addr} {c : Nat} (hcap : 2 * ps.length ≤ c) (ha : 0 < 2 * ps.length → a = some ⟨g, 6, none⟩) : RowAt w (.slice a (2 * ps.length) c) (2 * ps.length) (pairsL ps) := by
  refine ⟨a, c, rfl, hcap, fun hp => ⟨g, 6, cur, fz, ha hp, hb, fun m o hm j hj => ?_⟩⟩
  have h1 := pairs_at ps room h m o hm
  have h2 := (List.getElem?_eq_some_iff.1 h1).1
  rw [show 6 + m * 6 + j = (m + 1) * 6 + j by omega, hc _ (by omega), flat_at _ _ j o h1 hj]
theorem RowAt.pure {w w' : World} {v : Value} {n : Nat} {xs : List O} (h : RowAt w v n xs) (X : Chg NoB w w') : RowAt w' v n xs := by
  obtain ⟨a, c, h1, h2, h3⟩ := h
  refine ⟨a, c, h1, h2, fun hp => ?_⟩
  obtain ⟨g, off, cur, fz, h4, h5, h6⟩ := h3 hp
  exact ⟨g, off, cur, fz, h4, X.blk h5 id, h6⟩
end Go.Proofs.YtpgkjgceldleaaaGreat
/- Pairs of both dictionaries: what they tell, among boxes. -/
namespace Go.Proofs.YtpgkjgceldleaaaGreat
open Go.RowKit

/-- A slice of objects that lies in a box. -/
def RowB (R : List (Nat × Obj)) (v : Value) (n : Nat) (xs : List O) : Prop := ∀ W : World, (∀ q ∈ R, W.heap[q.1]? = some q.2) → RowAt W v n xs
end Go.Proofs.YtpgkjgceldleaaaGreat
