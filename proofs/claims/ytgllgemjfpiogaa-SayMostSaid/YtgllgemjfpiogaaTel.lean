/- Walk: say's (*teller).put. -/
import Derived.Test.YtgllgemjfpiogaaAst
import Derived.Test.YtgllgemjfpiogaaLpl
import Derived.Deep.DrawnRows
import Derived.Deep.RegionLaw
import Derived.BigRegion
namespace Go.Proofs.Ytgllgemjfpiogaa
open Go.RowKit
attribute [local go_sem ↓] Go.wp_at_zero Go.wp_at_succ

theorem infoU8 : (Try.prog.info? 5).map (fun i => (i.zero, i.size, i.bytes)) = some (some (.int .u8 0), 1, 1) := by kernel_rfl
abbrev tlBox (hp : Nat) (v : Value) : Obj := .cells #[ptr hp, v] 105 (0, 0)
/-- What was told so far: the teller's box, its row among the boxes. -/
def Told (w0 w : World) (M : List (Nat × List C)) (K : List (Nat × Obj)) (hp bt : Nat) (b : List UInt8) : Prop :=
  ∃ v R, RowG 5 1 R v b.length (b.map vu8) ∧ Ats w0 w M ((bt, tlBox hp v) :: (R ++ K))
theorem hidE {p : Prop} (h : p) : Hid p := h
theorem rowG_val {T : TypeId} {sz : Nat} {R : List (Nat × Obj)} {v : Value} {n : Nat} {xs : List Value} (h : RowG T sz R v n xs) : ∃ a c, v = .slice a n c := by
  rcases h with ⟨rfl, h0, -⟩ | ⟨g, cap, cur, rfl, -⟩
  · exact ⟨none, 0, by rw [h0]⟩
  · exact ⟨_, _, rfl⟩
theorem strCells_eq (s : ByteArray) : Lib.strCells s = s.toList.map vu8 := by rw [ByteArray.toList_eq]; rfl
theorem take_1000 (b s : List UInt8) (hb : b.length ≤ 1000) : b ++ s.take (1000 - b.length) = (b ++ s).take 1000 := by
  rw [List.take_append, List.take_of_length_le hb]

set_option maxRecDepth 100000 in
set_option maxHeartbeats 400000 in
theorem at_tput {w0 w : World} {M : List (Nat × List C)} {K : List (Nat × Obj)} {hp bt : Nat} {b : List UInt8} (A : Told w0 w M K hp bt b) (hb : b.length ≤ 1000) (s : ByteArray) (hs : s.size ≤ 1000000) :
    Calls Try.prog 72 #[ptr bt, .string s] w fun r w' => r = .returned (.bool (decide ((b ++ s.toList).length < 1000))) ∧ Told w0 w' M K hp bt ((b ++ s.toList).take 1000) := by
  obtain ⟨v, R, hR, A⟩ := A
  have hbx := A.box _ (List.mem_cons_self ..)
  have R0 := cells_of hbx
  have l0 := blk_lt hbx
  obtain ⟨i0, hi, hz0, hz1, hz2⟩ := info_parts infoU8
  obtain ⟨va, vc, rfl⟩ : ∃ va vc, v = .slice va b.length vc := by
    rcases hR with ⟨rfl, h0, -⟩ | ⟨g, cap, cur, rfl, -⟩
    · exact ⟨none, 0, by rw [h0]⟩
    · exact ⟨_, _, rfl⟩
  have hbl : (b.length : Int) ≤ 1000 := by omega
  have c0 : w.cell? ⟨bt, 0, none⟩ = some (ptr hp) := by rw [R0 0]; rfl
  have c1 : w.cell? ⟨bt, 1, none⟩ = some (.slice va b.length vc) := by rw [R0 1]; rfl
  clear R0
  go_enter Try.func72, Try.ntmps72
  go_wp2_with fail
  obtain ⟨m, hm, hms⟩ : ∃ m : Nat, (if 1000 - (b.length : Int) < (s.size : Int) then 1000 - (b.length : Int) else (s.size : Int)) = (m : Int) ∧ m = min s.size (1000 - b.length) := by
    refine ⟨min s.size (1000 - b.length), ?_, rfl⟩
    split <;> omega
  have hm0 : (0 : Int) ≤ m := by omega
  have hm1 : (m : Int) ≤ s.size := by omega
  have hm2 : m ≤ s.size ∧ m ≤ 1000 - b.length := by omega
  have hsl : (s.extract 0 m).toList = s.toList.take (1000 - b.length) := by
    have e := ByteArray.toList_eq (bs := s)
    have hsz : s.toList.length = s.size := by rw [e]; rfl
    rw [ByteArray.toList_eq, e, ByteArray.data_extract]
    simp only [Array.toList_extract, List.extract_eq_take_drop, List.drop_zero, Nat.sub_zero]
    rw [hms]
    by_cases c : s.size ≤ 1000 - b.length
    · rw [Nat.min_eq_left c, List.take_of_length_le (by rw [← e, hsz]; exact Nat.le_refl _), List.take_of_length_le (by rw [← e, hsz]; exact c)]
    · rw [Nat.min_eq_right (by omega)]
  have hel : (s.extract 0 m).size = m := by rw [ByteArray.size_extract]; omega
  have hA := A.perm (List.perm_middle (l₁ := R) (l₂ := K) (a := (bt, tlBox hp (.slice va b.length vc)))).symm
  have w1 : IntKind.i64.wrap (1000 - (b.length : Int)) = 1000 - (b.length : Int) := IntWalk.i64_in _ (by omega)
  have HE := hidE hel
  have HS := hidE hsl
  have hlen : ((b ++ s.toList).take 1000).length = b.length + m := by
    have hsz : s.toList.length = s.size := by rw [ByteArray.toList_eq]; rfl
    rw [List.length_take, List.length_append, hsz]; omega
  have hbool : decide ((b ++ s.toList).length < 1000) = decide (b.length + m < 1000) := by
    have hsz : s.toList.length = s.size := by rw [ByteArray.toList_eq]; rfl
    rw [List.length_append, hsz]
    refine decide_eq_decide.2 ⟨fun h => ?_, fun h => ?_⟩ <;> omega
  have hmap : b.map vu8 ++ Lib.strCells (s.extract 0 m) = ((b ++ s.toList).take 1000).map vu8 := by
    rw [strCells_eq, hsl, ← take_1000 b _ hb, List.map_append]
  have HLN := hidE hlen
  have HBL := hidE hbool
  have HMP := hidE hmap
  clear hel hsl hbx A hms hlen hbool hmap
  go_region_law (first | (refine step_append_str _ (by rfl) (.tmp 9) (.tmp 20) 22 9 (by rfl) w0.heap.size 5 i0 Try.underBytes Try.underStr hi hz0 hz1 hz2 (.slice va b.length vc) b.length (b.map vu8) (by rfl) (Ats.ownsG (hA.pure (Chg.drew (Chg.refl NoB w))) hR) (s.extract 0 m) (by rfl) (by unfold maxLen; rw [HE.out]; omega) (by rw [HE.out]; omega) (by have := hA.chg.size; exact this) ?_; intro v' w2 hown hgr hnil hat; obtain ⟨R', hR', A2⟩ := Ats.grownS (hA.pure (Chg.drew (Chg.refl NoB w))) hR hown hgr hnil hat; obtain ⟨v2a, v2c, rfl⟩ := rowG_val hR'; have R2 := cells_of (A2.box (bt, tlBox hp (.slice va b.length vc)) (List.mem_append_right _ (List.mem_cons_self ..))); have Z2 := free_of (A2.box (bt, tlBox hp (.slice va b.length vc)) (List.mem_append_right _ (List.mem_cons_self ..))); have l2 := blk_lt (A2.box (bt, tlBox hp (.slice va b.length vc)) (List.mem_append_right _ (List.mem_cons_self ..)))) | fail)
  all_goals
    rw [HE.out, HMP.out] at hR'
    have A3 := (A2.perm List.perm_middle).put 1 (.slice v2a (b.length + m) v2c)
    simp only [List.setIfInBounds_toArray, List.set_cons_zero, List.set_cons_succ] at A3
    have HA3 := hidE A3
    have HR3 := hidE hR'
    clear R2 Z2 l2 A2 hown hgr hnil hat hR' hR hA c0 c1 w1
    generalize w2.setCell ⟨bt, 1, none⟩ (.slice v2a (b.length + m) v2c) = w3 at *
    have R3 := cells_of (A3.box _ (List.mem_cons_self ..))
    have l3 := blk_lt (A3.box _ (List.mem_cons_self ..))
    simp only at R3 l3
    clear A3
    go_wp2_with fail
    go_ret
    refine ⟨?_, .slice v2a (b.length + m) v2c, R', ?_, HA3.out⟩
    · rw [HBL.out]; exact congrArg (fun z => Ending.returned (.bool z)) (decide_eq_decide.2 (by omega))
    · rw [HLN.out]; exact HR3.out
end Go.Proofs.Ytgllgemjfpiogaa
