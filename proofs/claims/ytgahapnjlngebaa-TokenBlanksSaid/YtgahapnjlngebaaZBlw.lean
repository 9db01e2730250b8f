/- Walk: tympanlaw8.TokenBlanks. -/
import Derived.Test.YtgahapnjlngebaaZBlp
import Derived.Test.YtgahapnjlngebaaZTpw
namespace Go.Proofs.Ytgahapnjlngebaa
open Go.RowKit

/-- The kind of the i-th gap. -/
def gapI (gs : List Int) (i : Nat) : Nat := ((if i < gs.length then gs.getD i 0 else 0) % 5).toNat
theorem gap_cat (S Y P : ByteArray) (g : Nat) (L T : List UInt8) (hS : S.toList = L) (hY : Y.toList = gapL g) (hP : P.toList = T) : ((S ++ Y) ++ P).toList = L ++ (gapL g ++ T) := by
  rw [app_lst, app_lst, hS, hY, hP, List.append_assoc]
theorem sz_one (l : List UInt8) : (bytesB l).size = l.length := by show l.toArray.size = _; simp
set_option maxRecDepth 100000 in
set_option maxHeartbeats 2000000 in
theorem blanks_long (v : Value) (l : List Tok) (u : Value) (gs : List Int) (last : Int) (w : World) (hv : ToksIn w v l) (hu : IntsAt w .u8 u gs) (h : 20 < l.length ∨ 20 < gs.length) :
    Calls Try.prog 4 #[v, u, .int .u8 last] w fun e w' => e = .returned (.bool true) ∧ Chg NoB w w' := by
  obtain ⟨hv, -, -⟩ := hv
  obtain ⟨a, c, rfl⟩ := hv.len
  obtain ⟨ua, un, uc, rfl, hgl, -⟩ := hu
  have HK := hid' (known8_any w)
  clear hv
  by_cases h1 : 20 < l.length
  · have h1' : 20 < (l.length : Int) := by omega
    clear h
    go_enter Try.func4, Try.ntmps4
    go_wp2_with fail
    refine HK.out.mono ?_
    rintro r w1 ⟨rfl, X1⟩
    go_wp2_with fail
    go_ret
    exact ⟨rfl, X1⟩
  · have h1' : ¬ 20 < (l.length : Int) := by omega
    have h2' : 20 < (un : Int) := by omega
    clear h
    go_enter Try.func4, Try.ntmps4
    go_wp2_with fail
    refine HK.out.mono ?_
    rintro r w1 ⟨rfl, X1⟩
    go_wp2_with fail
    go_ret
    exact ⟨rfl, X1⟩
set_option maxRecDepth 100000 in
set_option maxHeartbeats 4000000 in
theorem blanks_in (v : Value) (l : List Tok) (u : Value) (gs : List Int) (last : Int) (w : World) (hv : ToksIn w v l) (hu : IntsAt w .u8 u gs) (q0 : 0 ≤ last) (q1 : last < 256) (h1 : l.length ≤ 20) (h2 : gs.length ≤ 20) :
    Calls Try.prog 4 #[v, u, .int .u8 last] w fun e w' => e = .returned (.bool true) ∧ Chg NoB w w' := by
  obtain ⟨hv, hln, hok⟩ := hv
  obtain ⟨a, c, rfl⟩ := hv.len
  obtain ⟨ua, un, uc, rfl, hgl, huc, hum, hgw, hgc⟩ := hu
  have HK := hid' (known8_any w)
  have HV := hid' hv
  have HP := hid' (fun (w' : World) (X : Chg NoB w w') (V : Value) (x : Tok) (hx : x ∈ l) (hV : ToksAt w' V [x]) => rprint_any hV (by simp) (fun t ht => by rw [List.mem_singleton] at ht; subst ht; exact (hok t hx).ok.1))
  have HG := hid' hgc
  have HW := hid' (fun i (hi : i < gs.length) => show 0 ≤ gs.getD i 0 ∧ gs.getD i 0 < 256 by
    rw [List.getD_eq_getElem?_getD, List.getElem?_eq_getElem hi]
    exact wf_u8 (hgw _ (List.getElem_mem hi)))
  have HGL := hid' hgl
  have HB := hid' (fun i => show gapI gs i = ((if i < gs.length then gs.getD i 0 else 0) % 5).toNat from rfl)
  have h1' : ¬ 20 < (l.length : Int) := by omega
  have h2' : ¬ 20 < (un : Int) := by omega
  clear hv hok hgw hgc hgl
  go_enter Try.func4, Try.ntmps4
  go_wp2_with fail
  refine HK.out.mono ?_
  rintro r w1 ⟨rfl, X1⟩
  go_wp2_with fail
  go_loopw [7, 8] (fun sv iv wr => ∃ (i : Nat) (S : ByteArray), i ≤ l.length ∧ iv = .int .i64 i ∧ sv = .string S ∧ S.toList = blkL (gapI gs) 0 (l.take i) ∧ (∀ t ∈ l.take i, mayT t = true ∧ t.s.size ≤ 100) ∧ Chg NoB w wr) (fun _ iv _ => l.length - (intOf iv).toNat)
  case atStart => exact ⟨0, ⟨#[]⟩, Nat.zero_le _, rfl, rfl, by rw [ByteArray.toList_eq]; rfl, fun t ht => by simp at ht, X1⟩
  case round =>
    obtain ⟨i, S, hi, rfl, rfl, hS, hmy, X⟩ := hrel
    clear X1
    have hSs : S.size ≤ 8200 := by
      have := blk_len (gapI gs) (l.take i) 0 hmy
      rw [← size_lst, hS]
      rw [List.length_take] at this
      omega
    by_cases hlt : i < l.length
    · have hlt' : (i : Int) < l.length := by omega
      have h0i : (0 : Int) ≤ i := by omega
      obtain ⟨x, hx⟩ : ∃ x, l[i]? = some x := ⟨l[i]'(by omega), List.getElem?_eq_getElem _⟩
      have hxm := List.mem_of_getElem? hx
      obtain ⟨a', c', he, hc, hb⟩ := HV.out
      obtain ⟨b, off, rfl, hbl, hcell⟩ := hb (by omega)
      injection he with he1 he2 he3
      subst he1 he3
      have hcx := hcell i x hx
      obtain ⟨c1, c2, c3, c4⟩ := hcx.pure X
      have bl : b < wr.heap.size := Nat.lt_of_lt_of_le hbl X.size
      have HTK := hid' (blk_take (gapI gs) l i x hx)
      have HMY := hid' (fun (hm : mayT x = true) (hs : x.s.size ≤ 100) => show ∀ t ∈ l.take (i + 1), mayT t = true ∧ t.s.size ≤ 100 from fun t ht => by
        rw [List.take_succ_eq_append_getElem hlt, List.mem_append, List.mem_singleton] at ht
        rcases ht with ht | rfl
        · exact hmy t ht
        · rw [List.getElem?_eq_getElem hlt] at hx
          injection hx with hx
          subst hx
          exact ⟨hm, hs⟩)
      have HHS := hid' hS
      have HPX := hid' (HP.out wr X)
      have HXM := hid' hxm
      have HCX := hid' hcx
      clear hx hxm hcell he2 hS hmy
      by_cases c5 : 100 < x.s.size
      · have c5' : 100 < (x.s.size : Int) := by omega
        obtain ⟨xk, xn, xs, xp⟩ := x
        simp only at c1 c2 c3 c4 c5'
        go_wp2_with fail
        go_ret
        exact ⟨rfl, X⟩
      have c5' : ¬ 100 < (x.s.size : Int) := by omega
      have hcap : (i : Int) + 1 ≤ c := by omega
      have hii : (i : Int) ≤ (i : Int) + 1 := by omega
      have hwi := IntWalk.i64_in ((i : Int) + 1) (by omega)
      have hF : printF [x] = if mayT x = true then (printL x, 0) else ([], 1) := by
        unfold printF
        by_cases hm : mayT x = true
        · have hl := print_100 x hm (by omega)
          have hp : printsL [x] = printL x := by simp [printsL, glueL]
          rw [if_neg (by simpa using hm), if_neg (by simp), hp, if_neg (by omega), if_pos hm]
        · rw [if_pos (by simpa using hm), if_neg hm]
      have HLN := hid' (fun hm => print_100 x hm (by omega))
      -- GEN
      obtain ⟨xk, xn, xs, xp⟩ := x
      simp only at c1 c2 c3 c4 c5'
      go_wp2_with fail
      refine (HPX.out _ ⟨xk, xn, xs, xp⟩ HXM.out ⟨_, _, rfl, by simp; omega, fun _ => ⟨b, off + i * 4, rfl, bl, fun j t ht => by
        cases j with
        | zero => simp at ht; subst ht; simpa using HCX.out.pure X
        | succ j => simp at ht⟩⟩).mono ?_
      rintro r w2 ⟨rfl, X2⟩
      rw [hF]
      by_cases hm : mayT ⟨xk, xn, xs, xp⟩ = true
      rotate_left
      · rw [if_neg hm]
        simp only
        have X3 := X.trans X2
        clear c1 c2 c3 c4 hF X X2
        go_wp2_with fail
        go_ret
        exact ⟨rfl, X3⟩
      rw [if_pos hm]
      simp only
      have hpl := HLN.out hm
      have HMY2 := hid' (HMY.out hm (show xs.size ≤ 100 by omega))
      have hPl : (bytesB (printL ⟨xk, xn, xs, xp⟩)).toList = printL ⟨xk, xn, xs, xp⟩ := bytesB_lst _
      have hPs : (bytesB (printL ⟨xk, xn, xs, xp⟩)).size ≤ 402 := by rw [sz_one]; exact hpl
      generalize bytesB (printL ⟨xk, xn, xs, xp⟩) = P at *
      have X3 := hid' (X.trans X2)
      have hgi0 := HB.out i
      clear hpl hm HMY HLN hF c1 c2 c3 c4 X X2 HPX HCX HXM HP HV HK HB
      by_cases hg : i < gs.length
      · have hg' : (i : Int) < un := by have := HGL.out; omega
        obtain ⟨ub, uoff, rfl, hub, huc2⟩ := HG.out (by have := HGL.out; omega)
        have cz := X3.out.keeps (huc2 i (by have := HGL.out; omega))
        have bu : ub < w2.heap.size := Nat.lt_of_lt_of_le hub X3.out.size
        obtain ⟨z0, z1⟩ := HW.out i hg
        rw [if_pos hg] at hgi0
        generalize gs.getD i 0 = z at *
        clear huc2
        have hm5 : z % 5 = 0 ∨ z % 5 = 1 ∨ z % 5 = 2 ∨ z % 5 = 3 ∨ z % 5 = 4 := by omega
        have tm : z.tmod 5 = z % 5 := Int.tmod_eq_emod_of_nonneg z0
        rcases hm5 with hj | hj | hj | hj | hj
        · have hgi : gapI gs i = 0 := by rw [hgi0, hj]; rfl
          rw [hj] at tm
          clear hj hgi0
          have hcat := gap_cat S ⟨#[32]⟩ P (gapI gs i) _ _ HHS.out (by rw [hgi, ByteArray.toList_eq]; rfl) hPl
          rw [← HTK.out] at hcat
          have HI : ∀ W, (Instr.index 38 (.agg #[.string ⟨#[32]⟩, .string ⟨#[10]⟩, .string ⟨#[37, 32, 40, 32, 123, 32, 37, 13]⟩, .string ⟨#[0, 9, 32]⟩, .string ⟨#[37, 10, 37, 10]⟩]) (.int .u8 0)).run Try.prog W = .ok (.string ⟨#[32]⟩) W := fun W => by kernel_rfl
          have HCAT := hid' hcat
          have b1 : ¬ (9223372036854775807 < S.size + 1) := by omega
          have b2 : ¬ (9223372036854775807 < S.size + 1 + P.size) := by omega
          clear hcat hPl hgi
          go_wp2_with fail
          go_roundw
          case rel => exact ⟨i + 1, _, by omega, by go_num, rfl, HCAT.out, HMY2.out, X3.out⟩
          case measure => simp [intOf]; omega
        · have hgi : gapI gs i = 1 := by rw [hgi0, hj]; rfl
          rw [hj] at tm
          clear hj hgi0
          have hcat := gap_cat S ⟨#[10]⟩ P (gapI gs i) _ _ HHS.out (by rw [hgi, ByteArray.toList_eq]; rfl) hPl
          rw [← HTK.out] at hcat
          have HI : ∀ W, (Instr.index 38 (.agg #[.string ⟨#[32]⟩, .string ⟨#[10]⟩, .string ⟨#[37, 32, 40, 32, 123, 32, 37, 13]⟩, .string ⟨#[0, 9, 32]⟩, .string ⟨#[37, 10, 37, 10]⟩]) (.int .u8 1)).run Try.prog W = .ok (.string ⟨#[10]⟩) W := fun W => by kernel_rfl
          have HCAT := hid' hcat
          have b1 : ¬ (9223372036854775807 < S.size + 1) := by omega
          have b2 : ¬ (9223372036854775807 < S.size + 1 + P.size) := by omega
          clear hcat hPl hgi
          go_wp2_with fail
          go_roundw
          case rel => exact ⟨i + 1, _, by omega, by go_num, rfl, HCAT.out, HMY2.out, X3.out⟩
          case measure => simp [intOf]; omega
        · have hgi : gapI gs i = 2 := by rw [hgi0, hj]; rfl
          rw [hj] at tm
          clear hj hgi0
          have hcat := gap_cat S ⟨#[37, 32, 40, 32, 123, 32, 37, 13]⟩ P (gapI gs i) _ _ HHS.out (by rw [hgi, ByteArray.toList_eq]; rfl) hPl
          rw [← HTK.out] at hcat
          have HI : ∀ W, (Instr.index 38 (.agg #[.string ⟨#[32]⟩, .string ⟨#[10]⟩, .string ⟨#[37, 32, 40, 32, 123, 32, 37, 13]⟩, .string ⟨#[0, 9, 32]⟩, .string ⟨#[37, 10, 37, 10]⟩]) (.int .u8 2)).run Try.prog W = .ok (.string ⟨#[37, 32, 40, 32, 123, 32, 37, 13]⟩) W := fun W => by kernel_rfl
          have HCAT := hid' hcat
          have b1 : ¬ (9223372036854775807 < S.size + 8) := by omega
          have b2 : ¬ (9223372036854775807 < S.size + 8 + P.size) := by omega
          clear hcat hPl hgi
          go_wp2_with fail
          go_roundw
          case rel => exact ⟨i + 1, _, by omega, by go_num, rfl, HCAT.out, HMY2.out, X3.out⟩
          case measure => simp [intOf]; omega
        · have hgi : gapI gs i = 3 := by rw [hgi0, hj]; rfl
          rw [hj] at tm
          clear hj hgi0
          have hcat := gap_cat S ⟨#[0, 9, 32]⟩ P (gapI gs i) _ _ HHS.out (by rw [hgi, ByteArray.toList_eq]; rfl) hPl
          rw [← HTK.out] at hcat
          have HI : ∀ W, (Instr.index 38 (.agg #[.string ⟨#[32]⟩, .string ⟨#[10]⟩, .string ⟨#[37, 32, 40, 32, 123, 32, 37, 13]⟩, .string ⟨#[0, 9, 32]⟩, .string ⟨#[37, 10, 37, 10]⟩]) (.int .u8 3)).run Try.prog W = .ok (.string ⟨#[0, 9, 32]⟩) W := fun W => by kernel_rfl
          have HCAT := hid' hcat
          have b1 : ¬ (9223372036854775807 < S.size + 3) := by omega
          have b2 : ¬ (9223372036854775807 < S.size + 3 + P.size) := by omega
          clear hcat hPl hgi
          go_wp2_with fail
          go_roundw
          case rel => exact ⟨i + 1, _, by omega, by go_num, rfl, HCAT.out, HMY2.out, X3.out⟩
          case measure => simp [intOf]; omega
        · have hgi : gapI gs i = 4 := by rw [hgi0, hj]; rfl
          rw [hj] at tm
          clear hj hgi0
          have hcat := gap_cat S ⟨#[37, 10, 37, 10]⟩ P (gapI gs i) _ _ HHS.out (by rw [hgi, ByteArray.toList_eq]; rfl) hPl
          rw [← HTK.out] at hcat
          have HI : ∀ W, (Instr.index 38 (.agg #[.string ⟨#[32]⟩, .string ⟨#[10]⟩, .string ⟨#[37, 32, 40, 32, 123, 32, 37, 13]⟩, .string ⟨#[0, 9, 32]⟩, .string ⟨#[37, 10, 37, 10]⟩]) (.int .u8 4)).run Try.prog W = .ok (.string ⟨#[37, 10, 37, 10]⟩) W := fun W => by kernel_rfl
          have HCAT := hid' hcat
          have b1 : ¬ (9223372036854775807 < S.size + 4) := by omega
          have b2 : ¬ (9223372036854775807 < S.size + 4 + P.size) := by omega
          clear hcat hPl hgi
          go_wp2_with fail
          go_roundw
          case rel => exact ⟨i + 1, _, by omega, by go_num, rfl, HCAT.out, HMY2.out, X3.out⟩
          case measure => simp [intOf]; omega
      · have hg' : ¬ (i : Int) < un := by have := HGL.out; omega
        rw [if_neg hg] at hgi0
        have hgi : gapI gs i = 0 := hgi0
        clear hgi0
        have hcat := gap_cat S ⟨#[32]⟩ P (gapI gs i) _ _ HHS.out (by rw [hgi, ByteArray.toList_eq]; rfl) hPl
        rw [← HTK.out] at hcat
        have HI : ∀ W, (Instr.index 38 (.agg #[.string ⟨#[32]⟩, .string ⟨#[10]⟩, .string ⟨#[37, 32, 40, 32, 123, 32, 37, 13]⟩, .string ⟨#[0, 9, 32]⟩, .string ⟨#[37, 10, 37, 10]⟩]) (.int .u8 0)).run Try.prog W = .ok (.string ⟨#[32]⟩) W := fun W => by kernel_rfl
        have HCAT := hid' hcat
        have b1 : ¬ (9223372036854775807 < S.size + 1) := by omega
        have b2 : ¬ (9223372036854775807 < S.size + 1 + P.size) := by omega
        clear hcat hPl hgi
        go_wp2_with fail
        go_roundw
        case rel => exact ⟨i + 1, _, by omega, by go_num, rfl, HCAT.out, HMY2.out, X3.out⟩
        case measure => simp [intOf]; omega
    · obtain rfl : i = l.length := by omega
      rw [List.take_length] at hS hmy
      have hlm : (last % 4).toNat < 4 := by omega
      have hll := blk_len (gapI gs) l 0 hmy
      have HOM := hid' (placedG_alike (gapI gs) l 0 0)
      have HVX := hid' (HV.out.pure X)
      have tm : last.tmod 4 = last % 4 := Int.tmod_eq_emod_of_nonneg q0
      have hm4 : last % 4 = 0 ∨ last % 4 = 1 ∨ last % 4 = 2 ∨ last % 4 = 3 := by omega
      have key : ∀ (g : Nat) (E : ByteArray), E.toList = endL g → ∀ w, Calls Try.prog 8 #[.string (S ++ E)] w (AllEnd w (0, placedG (gapI gs) 0 0 l, 0)) := fun g E hE w => by
        have hl2 : (S ++ E).toList = blkL (gapI gs) 0 l ++ endL g := by rw [app_lst, hS, hE]
        have he := end_len g
        have := all_any (S ++ E) (by rw [← size_lst, hl2, List.length_append]; omega) w
        rwa [hl2, allF_blk (gapI gs) g l (fun t ht => (hmy t ht).1) (by omega) (by rw [List.length_append]; omega)] at this
      have KEY := hid' key
      clear key hmy hS hll hlm HP HG HW HGL HB
      rcases hm4 with hj | hj | hj | hj
      · rw [hj] at tm
        have HU := hid' (KEY.out 0 ⟨#[]⟩ (by rw [ByteArray.toList_eq]; rfl))
        have b1 : ¬ (9223372036854775807 < S.size + 0) := by omega
        have HI : ∀ W, (Instr.index 39 (.agg #[.string ⟨#[]⟩, .string ⟨#[32]⟩, .string ⟨#[37]⟩, .string ⟨#[37, 32, 125, 123, 40]⟩]) (.int .u8 0)).run Try.prog W = .ok (.string ⟨#[]⟩) W := fun W => by kernel_rfl
        clear hj KEY HV
        go_wp2_with fail
        refine (HU.out _).mono ?_
        rintro r w3 ⟨u3, rfl, X3, hown3, -⟩
        have HT := hid' (tokens_any (by omega) (HVX.out.pure X3) (ToksAt.of_own hown3) false HOM.out)
        obtain ⟨va, vc, rfl, -⟩ := own_val hown3
        clear hown3 HU
        go_wp2_with fail
        refine HT.out.mono ?_
        rintro r w4 ⟨rfl, X4⟩
        go_wp2_with fail
        go_ret
        exact ⟨rfl, (X.trans X3).trans X4⟩
      · rw [hj] at tm
        have HU := hid' (KEY.out 1 ⟨#[32]⟩ (by rw [ByteArray.toList_eq]; rfl))
        have b1 : ¬ (9223372036854775807 < S.size + 1) := by omega
        have HI : ∀ W, (Instr.index 39 (.agg #[.string ⟨#[]⟩, .string ⟨#[32]⟩, .string ⟨#[37]⟩, .string ⟨#[37, 32, 125, 123, 40]⟩]) (.int .u8 1)).run Try.prog W = .ok (.string ⟨#[32]⟩) W := fun W => by kernel_rfl
        clear hj KEY HV
        go_wp2_with fail
        refine (HU.out _).mono ?_
        rintro r w3 ⟨u3, rfl, X3, hown3, -⟩
        have HT := hid' (tokens_any (by omega) (HVX.out.pure X3) (ToksAt.of_own hown3) false HOM.out)
        obtain ⟨va, vc, rfl, -⟩ := own_val hown3
        clear hown3 HU
        go_wp2_with fail
        refine HT.out.mono ?_
        rintro r w4 ⟨rfl, X4⟩
        go_wp2_with fail
        go_ret
        exact ⟨rfl, (X.trans X3).trans X4⟩
      · rw [hj] at tm
        have HU := hid' (KEY.out 2 ⟨#[37]⟩ (by rw [ByteArray.toList_eq]; rfl))
        have b1 : ¬ (9223372036854775807 < S.size + 1) := by omega
        have HI : ∀ W, (Instr.index 39 (.agg #[.string ⟨#[]⟩, .string ⟨#[32]⟩, .string ⟨#[37]⟩, .string ⟨#[37, 32, 125, 123, 40]⟩]) (.int .u8 2)).run Try.prog W = .ok (.string ⟨#[37]⟩) W := fun W => by kernel_rfl
        clear hj KEY HV
        go_wp2_with fail
        refine (HU.out _).mono ?_
        rintro r w3 ⟨u3, rfl, X3, hown3, -⟩
        have HT := hid' (tokens_any (by omega) (HVX.out.pure X3) (ToksAt.of_own hown3) false HOM.out)
        obtain ⟨va, vc, rfl, -⟩ := own_val hown3
        clear hown3 HU
        go_wp2_with fail
        refine HT.out.mono ?_
        rintro r w4 ⟨rfl, X4⟩
        go_wp2_with fail
        go_ret
        exact ⟨rfl, (X.trans X3).trans X4⟩
      · rw [hj] at tm
        have HU := hid' (KEY.out 3 ⟨#[37, 32, 125, 123, 40]⟩ (by rw [ByteArray.toList_eq]; rfl))
        have b1 : ¬ (9223372036854775807 < S.size + 5) := by omega
        have HI : ∀ W, (Instr.index 39 (.agg #[.string ⟨#[]⟩, .string ⟨#[32]⟩, .string ⟨#[37]⟩, .string ⟨#[37, 32, 125, 123, 40]⟩]) (.int .u8 3)).run Try.prog W = .ok (.string ⟨#[37, 32, 125, 123, 40]⟩) W := fun W => by kernel_rfl
        clear hj KEY HV
        go_wp2_with fail
        refine (HU.out _).mono ?_
        rintro r w3 ⟨u3, rfl, X3, hown3, -⟩
        have HT := hid' (tokens_any (by omega) (HVX.out.pure X3) (ToksAt.of_own hown3) false HOM.out)
        obtain ⟨va, vc, rfl, -⟩ := own_val hown3
        clear hown3 HU
        go_wp2_with fail
        refine HT.out.mono ?_
        rintro r w4 ⟨rfl, X4⟩
        go_wp2_with fail
        go_ret
        exact ⟨rfl, (X.trans X3).trans X4⟩
theorem tokenBlanks_any (v : Value) (l : List Tok) (u : Value) (gs : List Int) (last : Int) (w : World) (hv : ToksIn w v l) (hu : IntsAt w .u8 u gs) (q0 : 0 ≤ last) (q1 : last < 256) :
    Calls Try.prog 4 #[v, u, .int .u8 last] w fun e w' => e = .returned (.bool true) ∧ Chg NoB w w' := by
  by_cases h : 20 < l.length ∨ 20 < gs.length
  · exact blanks_long v l u gs last w hv hu h
  · exact blanks_in v l u gs last w hv hu q0 q1 (by omega) (by omega)
end Go.Proofs.Ytgahapnjlngebaa
