/- Walks: known of tympanlaw21; tympanhelp.Place. -/
import Derived.Test.YthelgahojgdehaaZConvc
namespace Go.Proofs.Ythelgahojgdehaa
open Go.RowKit

theorem op_cvi (w : World) : Calls Try.prog 23 #[.string ⟨#[99, 118, 105]⟩] w fun r w2 => r = .returned (.tuple #[.int .i64 76, .bool true]) ∧ Chg NoB w w2 := number_hit 75 4 [99, 118, 105] (by decide +kernel) w
theorem op_cvr (w : World) : Calls Try.prog 23 #[.string ⟨#[99, 118, 114]⟩] w fun r w2 => r = .returned (.tuple #[.int .i64 77, .bool true]) ∧ Chg NoB w w2 := number_hit 76 4 [99, 118, 114] (by decide +kernel) w
theorem bytes_not (L : List C) (o : O) (h : held o = false) : bytesH L o = (⟨#[]⟩, 6) := by
  simp [bytesH, findE, h]
theorem held_not {L : List C} {o : O} (h : isK 1792 o.kind = false) : HeldAll L [o] := fun x hx hk => by rw [List.mem_singleton.1 hx, h] at hk; simp at hk
theorem mayI (v : Int) (h0 : -2147483647 ≤ v) (h1 : v ≤ 2147483647) : mayO (iO v) = true := by simp [mayO, eqO, bareO, O.nil, h0, h1]
theorem mayF (v : Int) (h0 : -1073741823 ≤ v) (h1 : v ≤ 1073741823) : mayO (fO v) = true := by simp [mayO, eqO, bareO, O.nil, h0, h1]
abbrev k21s : ByteArray := ⟨#[49, 54, 35, 70, 70]⟩
theorem k21_list : k21s.toList = [49, 54, 35, 70, 70] := by rw [ByteArray.toList_eq]
theorem k21_read : readF [49, 54, 35, 70, 70] = (1, 255, 0) := by decide +kernel
theorem k21_at : ([] ++ [txt k21s.toList] : List C)[0]? = some (txt k21s.toList) := rfl
set_option maxRecDepth 100000 in
theorem known21_any (w : World) : Calls Try.prog 7 #[] w fun e w' => e = .returned (.bool true) ∧ Chg NoB w w' := by
  have hsz : k21s.toList.length = 5 := by rw [k21_list]; rfl
  have HNUM := hid' (fun (hp : Nat) (w' : World) (K' : List (Nat × Obj)) (A : Ats w w' [(hp, [] ++ [txt k21s.toList])] K') =>
    at_numT A m0 (strN 0 false 0 5) rfl ⟨((k21s.toList.drop (0 : Int).toNat).take (5 : Int).toNat).toArray⟩ (bytes_s k21_at (by decide) (by rw [hsz]; decide) false 0 5 (by decide) (by decide) (by rw [hsz]; decide)) (by rw [k21_list]; decide) (1, 255, 0) (by rw [k21_list, ByteArray.toList_eq]; exact k21_read))
  have HWH := hid' (fun (hp : Nat) (w' : World) (K' : List (Nat × Obj)) (A : Ats w w' [(hp, [] ++ [txt k21s.toList])] K') => at_whole A (strN 0 false 0 5) (iO 255) (HNUM.out hp) (fun h => by simp at h))
  have HDO := hid' (fun (hp sp : Nat) (w' : World) (K' : List (Nat × Obj)) (S' : StkAt w w' [(hp, [] ++ [txt k21s.toList])] K' sp ([] ++ [strN 0 false 0 5])) =>
    conv_cvi S' m0 (isK_280 8 (by decide)) (heldAll_one (may_s k21_at (by decide) (by rw [hsz]; decide) false 0 5 (by decide) (by decide) (by rw [hsz]; decide))) (mayI 255 (by decide) (by decide)) (HWH.out hp) (M' := []))
  clear hsz
  go_enter Try.func7, Try.ntmps7
  go_wp2_with fail
  refine (fresh21_any (Ats.start (Chg.refl NoB w))).mono ?_
  rintro r w1 ⟨hp, sp, rfl, S1⟩
  have S2 := S1.alloc (wBox hp sp)
  (try clear Ra); (try clear ya); (try clear Za)
  have Ra := cells_of (S2.box _ m0)
  have ya := blk_lt (S2.box _ m0)
  (try simp only at Ra ya)
  go_wp2_with fail
  refine (text21_any S2 k21s (by decide) (by decide) (by decide)).mono ?_
  rintro r w3 ⟨rfl, S3⟩
  (try clear Ra); (try clear ya); (try clear Za)
  have Ra := cells_of (S3.box _ m0)
  have ya := blk_lt (S3.box _ m0)
  (try simp only at Ra ya)
  clear S1 S2
  go_wp2_with fail
  refine (do21_any S3 0 (gv := []) rfl (by decide) (by simp) none 0 (by decide) (fun m o h => by simp at h) ⟨#[99, 118, 105]⟩ 76 0 true op_cvi (fun w' K' S' => HDO.out hp sp w' K' S')).mono ?_
  rintro r w4 ⟨rfl, S4⟩
  (try clear Ra); (try clear ya); (try clear Za)
  have Ra := cells_of (S4.box _ m0)
  have ya := blk_lt (S4.box _ m0)
  (try simp only at Ra ya)
  clear S3
  go_wp2_with fail
  refine (top21_any (l := []) (o := iO 255) S4 m0 ⟨#[]⟩ 6 (bytes_not _ _ rfl)).mono ?_
  rintro r w5 ⟨rfl, S5⟩
  have HX := hid' S5.chg
  have q1 : eqO ⟨3, false, 255, 0, 0, ⟨#[]⟩⟩ ⟨3, false, 255, 0, 0, ⟨#[]⟩⟩ = true := eqO_self _
  have hb := blk_new w5 (.cells #[.int .i64 3, .bool false, .int .i64 255, .int .i64 0, .int .i64 0, .string ⟨#[]⟩] 29)
  clear S4 S5 HNUM HWH HDO
  go_wp2_with fail
  generalize hW : w5.alloc _ = w6 at *
  have HX6 : Hid (Chg NoB w w6) := hid' (by rw [← hW]; exact HX.out.alloc _)
  clear hW
  have R := Chg.cells (S := NoB) hb id
  have l := blk_lt hb
  go_region_held3 (fun W' => Chg NoB w6 W') (first | (with_reducible assumption) | (with_reducible exact (Chg.refl _ _).drew) | (with_reducible exact Chg.drew (by with_reducible assumption)) | (with_reducible exact Chg.pure (by with_reducible assumption) (by with_reducible assumption)))
    ((go_at_call 9; refine (num21_any _ _).mono ?_; rintro r w7 ⟨rfl, X7⟩))
  go_wp2_with fail
  go_ret
  exact ⟨rfl, HX6.out.pure (by with_reducible assumption)⟩
/-- Some operands over a heap, and boxes that stay. -/
def WS (w0 : World) (hp sp : Nat) (KB : List (Nat × Obj)) (W : World) : Prop := ∃ L l E, StkAt w0 W [(hp, L)] (E ++ KB) sp l
theorem WS.drew {w0 W : World} {hp sp : Nat} {KB : List (Nat × Obj)} (h : WS w0 hp sp KB W) : WS w0 hp sp KB W.drew := by
  obtain ⟨L, l, E, S⟩ := h; exact ⟨L, l, E, S.drew⟩
theorem WS.pure {w0 W W' : World} {hp sp : Nat} {KB : List (Nat × Obj)} (h : WS w0 hp sp KB W) (X : Chg NoB W W') : WS w0 hp sp KB W' := by
  obtain ⟨L, l, E, S⟩ := h; exact ⟨L, l, E, S.pure X⟩
theorem WS.alloc {w0 W : World} {hp sp : Nat} {KB : List (Nat × Obj)} (h : WS w0 hp sp KB W) (o : Obj) : WS w0 hp sp KB (W.alloc o) := h.pure ((Chg.refl NoB W).alloc o)
theorem WS.of0 {w0 W : World} {hp sp : Nat} {KB : List (Nat × Obj)} {L : List C} {l : List O} (S : StkAt w0 W [(hp, L)] KB sp l) : WS w0 hp sp KB W := ⟨L, l, [], S⟩
theorem WS.of1 {w0 W : World} {hp sp : Nat} {KB : List (Nat × Obj)} {x : Nat × Obj} {L : List C} {l : List O} (S : StkAt w0 W [(hp, L)] (x :: KB) sp l) : WS w0 hp sp KB W := ⟨L, l, [x], S⟩
theorem WS.cells {w0 : World} {hp sp g : Nat} {KB : List (Nat × Obj)} {cs : Array Value} {T : TypeId} {fz : Nat × Nat} (hm : (g, Obj.cells cs T fz) ∈ KB) : ∀ W, WS w0 hp sp KB W → ∀ i, W.cell? ⟨g, i, none⟩ = cs[i]? := by
  rintro W ⟨L, l, E, S⟩ i
  exact cells_of (S.box _ (List.mem_append_right _ hm)) i
theorem WS.chg {w0 W : World} {hp sp : Nat} {KB : List (Nat × Obj)} (h : WS w0 hp sp KB W) : Chg NoB w0 W := by
  obtain ⟨L, l, E, S⟩ := h; exact S.chg
theorem read_one {K : List (Nat × Obj)} {g : Nat} (o : O) (hg : (g, obox o) ∈ K) : ∀ m o', [o][m]? = some o' → ∃ g' off cur fz, some (⟨g, 0, none⟩ : Addr) = some ⟨g', off, none⟩ ∧ (g', Obj.cells cur 29 fz) ∈ K ∧ ∀ j, j < 6 → cur[off + m * 6 + j]? = o'.cells[j]? := fun m o' ho => by
  obtain ⟨rfl, rfl⟩ : m = 0 ∧ o' = o := by cases m <;> simp_all
  exact ⟨g, 0, _, _, rfl, hg, fun j hj => by
    have : j = 0 ∨ j = 1 ∨ j = 2 ∨ j = 3 ∨ j = 4 ∨ j = 5 := by omega
    rcases this with rfl | rfl | rfl | rfl | rfl | rfl <;> rfl⟩
theorem place_any (v n : Int) (h : 0 < n) (hn : n ≤ 1000000000000) (w : World) :
    Calls Try.prog 10 #[.int .i64 v, .int .i64 n] w fun e w' => e = .returned (.int .i64 (v % n)) ∧ w = w' := by
  have h1 := Int.emod_nonneg v (show n ≠ 0 by omega)
  have h2 := Int.emod_lt_of_pos v h
  obtain ⟨r, hr⟩ : ∃ r, v % n = r := ⟨_, rfl⟩
  rw [hr] at h1 h2 ⊢
  have hn0 : (n == 0) = false := by simp; omega
  obtain ⟨t, ht⟩ : ∃ t, v.tmod n = t := ⟨_, rfl⟩
  have hrel : (0 ≤ t → t = r) ∧ (t < 0 → t + n = r) ∧ -n < t ∧ t < n := by
    have e1 := Int.tmod_def v n
    have e2 := Int.emod_def v n
    by_cases c : 0 ≤ v
    · rw [Int.tmod_eq_emod_of_nonneg c] at ht; omega
    · obtain ⟨u, rfl⟩ : ∃ u, v = -u := ⟨-v, by omega⟩
      have e3 : (-u).tmod n = -(u % n) := by rw [Int.neg_tmod, Int.tmod_eq_emod_of_nonneg (by omega)]
      have e4 := Int.emod_nonneg u (show n ≠ 0 by omega)
      have e5 := Int.emod_lt_of_pos u h
      by_cases z : u % n = 0
      · have : (-u) % n = 0 := Int.emod_eq_zero_of_dvd (Int.dvd_neg.2 (Int.dvd_of_emod_eq_zero z))
        omega
      · have : (-u) % n = n - u % n := by
          rw [Int.neg_emod, if_neg (fun d => z (Int.emod_eq_zero_of_dvd d))]; omega
        omega
  obtain ⟨r1, r2, r3, r4⟩ := hrel
  have hw := IntWalk.i64_in t (by omega)
  by_cases c : t < 0
  · have hz := r2 c
    clear r1 r2 hr
    go_enter Try.func10, Try.ntmps10
    go_wp2_with fail
    go_ret
    exact ⟨by rw [← hz]; rfl, rfl⟩
  · have hz := r1 (by omega)
    clear r1 r2 hr
    go_enter Try.func10, Try.ntmps10
    go_wp2_with fail
    go_ret
    exact ⟨by rw [← hz]; rfl, rfl⟩
end Go.Proofs.Ythelgahojgdehaa
