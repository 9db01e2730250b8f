/- dict.Drop, on a heap that a law made. -/
import Derived.Test.YtgllgemjfpiogaaDp
namespace Go.Proofs.Ytgllgemjfpiogaa
open Go.RowKit

theorem may_null (L : List C) : mayH L nullO = true := by simp [mayH, held, mayO, eqO, bareO, O.nil, nullO]
theorem dItems_may (L : List C) (ps : List (O × O)) (room : Nat) (h : ps.length ≤ room) (hall : ∀ p ∈ ps, mayH L p.1 = true ∧ mayH L p.2 = true) (j : Nat) (h0 : 1 ≤ j) (hj : j < 2 * room + 1) : mayH L ((dItems ps room).getD j O.nil) = true := by
  rw [List.getD_eq_getElem?_getD, dItems_at ps room h j hj, if_neg (by omega)]
  simp only [Option.getD_some]
  cases hp : ps[(j - 1) / 2]? with
  | none => exact may_null L
  | some p =>
    have := hall p (List.mem_of_getElem? hp)
    simp only
    split
    · exact this.1
    · exact this.2
abbrev dcellD (ps : List (O × O)) (room a i : Nat) : C := ⟨false, true, false, dropped ps room a i, []⟩
theorem DicAt.drop {L : List C} {N : Nat} {ps : List (O × O)} {room : Nat} (D : DicAt L N (dcell ps room)) (h : ps.length ≤ room) (a i : Nat) : DicAt (L.set N (dcellD ps room a i)) N (dcellD ps room a i) :=
  D.put _ rfl rfl rfl (by simp only [dropped_length]; exact (dItems_length ps room h).symm)
theorem drop_may {L : List C} {N : Nat} {ps : List (O × O)} {room : Nat} (D : DicAt L N (dcell ps room)) (h : ps.length ≤ room) (a i : Nat) (o : O) : mayH (L.set N (dcellD ps room a i)) o = mayH L o :=
  may_put L N _ (dcellD ps room a i) D.cell rfl (by simp [C.size, dropped_length, dItems_length ps room h]) o
/-- One round of Drop: what is moved, and what it leaves. -/
theorem drop_get {L : List C} {N : Nat} {ps : List (O × O)} {room : Nat} (D : DicAt L N (dcell ps room)) (h : ps.length ≤ room) (a i : Nat) (hi : i + 2 ≤ 2 * ps.length) :
    getH (L.set N (dcellD ps room a i)) (dicO N) ((i : Int) + 2) = ((dItems ps room).getD (i + 2) O.nil, 0) :=
  (D.drop h a i).get _ (by omega) _ (by
    rw [show ((i : Int) + 2).toNat = i + 2 by omega, dropped_at _ _ _ _ _ (by omega), if_neg (by omega), if_neg (by omega)])
theorem drop_set {L : List C} {N : Nat} {ps : List (O × O)} {room : Nat} (D : DicAt L N (dcell ps room)) (h : ps.length ≤ room) (a i : Nat) (ha : 2 * a + 1 ≤ i) (hi : i ≤ 2 * ps.length) (x : O) (hm : mayH L x = true)
    (hx : x = if i + 2 ≤ 2 * ps.length then (dItems ps room).getD (i + 2) O.nil else nullO) :
    setH (L.set N (dcellD ps room a i)) (dicO N) (i : Int) x = (L.set N (dcellD ps room a (i + 1)), 0) := by
  have := ((D.drop h a i).step i (by simp only [dropped_length]; omega) x (by rw [drop_may D h]; exact hm)).1
  rw [set_set_same] at this
  have e := dropped_step ps room a i h ha hi x (by
    rw [hx]
    by_cases h2 : i + 2 ≤ 2 * ps.length
    · have e : (dropped ps room a i)[i + 2]? = some ((dItems ps room).getD (i + 2) O.nil) := by rw [dropped_at _ _ _ _ _ (by omega), if_neg (by omega), if_neg (by omega)]
      rw [if_pos h2, if_pos h2, @List.getD_eq_getElem?_getD _ (dropped ps room a i), e]; rfl
    · rw [if_neg h2, if_neg h2])
  simp only [e] at this
  exact this
theorem drop_first {L : List C} {N : Nat} {ps : List (O × O)} {room : Nat} (D : DicAt L N (dcell ps room)) (h : ps.length ≤ room) (hr : room ≤ 1000) (a : Nat) :
    setH L (dicO N) 0 (numO ((ps.length : Int) - 1)) = (L.set N (dcellD ps room a (2 * a + 1)), 0) := by
  have := (D.step 0 (by simp [dItems_length ps room h]) (numO ((ps.length : Int) - 1)) (may_num _ _ (by omega) (by omega))).1
  simp only [dropped_start ps room a h] at this
  exact this

set_option maxRecDepth 100000 in
set_option maxHeartbeats 8000000 in
theorem at_ddrop {w0 w : World} {hp : Nat} {L : List C} {M : List (Nat × List C)} {K : List (Nat × Obj)} (A : Ats w0 w ((hp, L) :: M) K) (N : Nat) (ps : List (O × O)) (room : Nat) (D : DicAt L N (dcell ps room)) (h : ps.length ≤ room) (hr : room ≤ 1000) (hf : ps.length < 256)
    (k : O) {key : O} (hk : keyD L k = (key, 0)) (r : Nat) (hp1 : PlaceS ps key r true) (hall : ∀ p ∈ ps, mayH L p.1 = true ∧ mayH L p.2 = true) :
    Calls Try.prog 15 #[ptr hp, (dicO N).val, k.val] w fun x w' => x = .returned (.int .i64 0) ∧ Ats w0 w' ((hp, L.set N (dcell (ps.eraseIdx r) room)) :: M) K := by
  have HL := fun {w' : World} {K' : List (Nat × Obj)} (A' : Ats w0 w' ((hp, L) :: M) K') => at_look A' (List.mem_cons_self ..) N ps room D h hr hf k hk r true (fun _ => hp1) (fun z => absurd rfl z)
  have hrl : r < ps.length := by
    rcases hp1 with ⟨-, ⟨p, hp, -⟩, -⟩ | ⟨hb, -⟩
    · exact (List.getElem?_eq_some_iff.1 hp).1
    · simp at hb
  have HF := drop_first D h hr r
  have HE := dropped_end ps room r h hrl
  have hri : (r : Int) < ps.length := by omega
  have hli : (ps.length : Int) ≤ 1000 := by omega
  obtain ⟨kk, kx, kn, kp, kl, ks⟩ := k
  obtain ⟨ck, cx, cn, cp, cl, cs⟩ := key
  have A1 := (A.alloc (.cells #[.int .i64 10, .bool false, .int .i64 N, .int .i64 0, .int .i64 0, .string ⟨#[]⟩] 28)).alloc (.cells #[.int .i64 kk, .bool kx, .int .i64 kn, .int .i64 kp, .int .i64 kl, .string ks] 28)
  simp only [World.size_alloc] at A1
  have HG := fun (i : Nat) => drop_get D h r i
  have HS := fun (i : Nat) => drop_set D h r i
  have HMay := fun (j : Nat) => dItems_may L ps room h hall j
  have QG := Hid.mk' HG
  have QS := Hid.mk' HS
  have QM := Hid.mk' HMay
  have QE := Hid.mk' HE
  clear HG HS HMay HE hall hp1 hk
  go_enter Try.func15, Try.ntmps15
  go_wp2_with fail
  refine (HL A1).mono ?_
  rintro x w2 ⟨rfl, A2⟩
  have R4 := cells_of (A2.box _ (List.mem_cons_of_mem _ (List.mem_cons_self ..)))
  have l4 := blk_lt (A2.box _ (List.mem_cons_of_mem _ (List.mem_cons_self ..)))
  simp only at l4
  clear HL A1
  go_wp2_with fail
  have A3 := A2.alloc (.cells (foundC ⟨ck, cx, cn, cp, cl, cs⟩ r ps.length room true) 81)
  refine (at_set A3 _ _ _ HF).mono ?_
  rintro x w3 ⟨rfl, A4⟩
  have R7 := cells_of (A4.box _ (List.mem_cons_self ..))
  clear R4 A2 A3 HF
  go_wp2_with fail
  generalize w.heap.size = b4 at *
  generalize w2.heap.size = b7 at *
  go_loopw [9] (fun c wr => ∃ i : Nat, 2 * r + 1 ≤ i ∧ i ≤ 2 * ps.length + 1 ∧ c = .int .i64 i ∧ Ats w0 wr ((hp, L.set N (dcellD ps room r i)) :: M) ((b7, .cells (foundC ⟨ck, cx, cn, cp, cl, cs⟩ r ps.length room true) 81) :: (b4 + 1, .cells #[.int .i64 kk, .bool kx, .int .i64 kn, .int .i64 kp, .int .i64 kl, .string ks] 28) :: (b4, .cells #[.int .i64 10, .bool false, .int .i64 N, .int .i64 0, .int .i64 0, .string ⟨#[]⟩] 28) :: K)) (fun c _ => 2 * ps.length + 1 - (intOf c).toNat)
  case atStart => exact ⟨2 * r + 1, Nat.le_refl _, by omega, by go_num, A4⟩
  case round =>
    obtain ⟨i, hi1, hi2, rfl, A5⟩ := hrel
    have R7 := cells_of (A5.box _ (List.mem_cons_self ..))
    have R4 := cells_of (A5.box _ (List.mem_cons_of_mem _ (List.mem_cons_of_mem _ (List.mem_cons_self ..))))
    have l7 := blk_lt (A5.box _ (List.mem_cons_self ..))
    have l4 := blk_lt (A5.box _ (List.mem_cons_of_mem _ (List.mem_cons_of_mem _ (List.mem_cons_self ..))))
    simp only at l7 l4
    clear A4
    by_cases hlt : i ≤ 2 * ps.length
    · have hlt' : (i : Int) ≤ 2 * ps.length := by omega
      by_cases h2 : i + 2 ≤ 2 * ps.length
      · have h2' : (i : Int) + 2 ≤ 2 * ps.length := by omega
        have G := QG.out i h2
        have MX := QM.out (i + 2) (by omega) (by omega)
        have SX := QS.out i hi1 hlt _ MX (by rw [if_pos h2])
        generalize (dItems ps room).getD (i + 2) O.nil = xv at *
        obtain ⟨xk, xx, xn, xp, xl, xs⟩ := xv
        go_wp2_with fail
        have A6 := A5.alloc (.cells #[.int .i64 1, .bool false, .int .i64 0, .int .i64 0, .int .i64 0, .string ⟨#[]⟩] 28)
        refine (at_get A6 _ _ G (List.mem_cons_self ..)).mono ?_
        rintro x w5 ⟨rfl, A7⟩
        have R10 := cells_of (A7.box _ (List.mem_cons_self ..))
        have Z10 := free_of (A7.box _ (List.mem_cons_self ..))
        have l10 := blk_lt (A7.box _ (List.mem_cons_self ..))
        have R4 := cells_of (A7.box _ (List.mem_cons_of_mem _ (List.mem_cons_of_mem _ (List.mem_cons_of_mem _ (List.mem_cons_self ..)))))
        have l4 := blk_lt (A7.box _ (List.mem_cons_of_mem _ (List.mem_cons_of_mem _ (List.mem_cons_of_mem _ (List.mem_cons_self ..)))))
        simp only at l10 l4
        clear A5 A6
        go_wp2_with fail
        have A8 := (((((A7.put 0 (.int .i64 xk)).put 1 (.bool xx)).put 2 (.int .i64 xn)).put 3 (.int .i64 xp)).put 4 (.int .i64 xl)).put 5 (.string xs)
        refine (at_set A8 _ _ _ SX).mono ?_
        rintro x w6 ⟨rfl, A9⟩
        clear R10 Z10 A7 A8
        go_wp2_with fail
        go_roundw
        case rel => exact ⟨i + 1, by omega, by omega, by go_num, A9.keep (List.sublist_cons_self _ _)⟩
        case measure => simp [intOf]; omega
      · have h2' : 2 * (ps.length : Int) < (i : Int) + 2 := by omega
        have SX := QS.out i hi1 hlt nullO (may_null L) (by rw [if_neg h2])
        go_wp2_with fail
        refine (at_set (A5.alloc _) _ _ _ SX).mono ?_
        rintro x w6 ⟨rfl, A9⟩
        go_wp2_with fail
        go_roundw
        case rel => exact ⟨i + 1, by omega, by omega, by go_num, A9.keep (List.sublist_cons_self _ _)⟩
        case measure => simp [intOf]; omega
    · obtain rfl : i = 2 * ps.length + 1 := by omega
      have hgt : 2 * (ps.length : Int) < ((2 * ps.length + 1 : Nat) : Int) := by omega
      simp only [dcellD, QE.out] at A5
      go_wp2_with fail
      go_ret
      exact ⟨rfl, A5.loses (K1 := [_, _, _]) (Chg.refl _ _)⟩
end Go.Proofs.Ytgllgemjfpiogaa
