/- Walk: tympanlaw8.TokenApart, where both texts hold words. -/
import Derived.Test.YtibpnkggjkaohaaTaw
namespace Go.Proofs.Ytibpnkggjkaohaa
open Go.RowKit

set_option maxRecDepth 100000 in
set_option maxHeartbeats 2000000 in
theorem apart_some (s t : ByteArray) (h1 : s.size ≤ 300) (h2 : t.size ≤ 300) (hs : (allF s.toList).1 = 0) (he : (allF t.toList).1 = 0) (h0 : (allF t.toList).2.1 ≠ []) (w : World) :
    Calls Try.prog 3 #[.string s, .string t] w fun e w' => e = .returned (.bool true) ∧ Chg NoB w w' := by
  obtain ⟨i0, hi, hz0, hz1, hz2⟩ := info_parts infoTok
  have HK := hid' (known8_any w)
  have HA := hid' (fun w => all_any s (by omega) w)
  have HB := hid' (fun w => all_any t (by omega) w)
  have hU := fun w => all_any ((s ++ ⟨#[10]⟩) ++ t) (by rw [cat_size]; omega) w
  have hlA := allF_len s.toList
  have hlB := allF_len t.toList
  have hps := allF_pos t.toList
  rw [size_lst] at hlA hlB hps
  rw [cat_lst, all_two s.toList t.toList (by rw [size_lst]; exact h1) (by rw [size_lst]; exact h2) hs, if_pos he, size_lst] at hU
  have HU := hid' hU
  generalize allF s.toList = RA at *
  generalize allF t.toList = RB at *
  obtain ⟨e0, lA, p0⟩ := RA
  obtain ⟨e1, lB, p1⟩ := RB
  simp only at hs he h0 hlA hlB hps
  subst hs he
  have c1 : (s.size : Int) ≤ 300 := by omega
  have c2 : (t.size : Int) ≤ 300 := by omega
  have HL := hid' hlA
  have HM := hid' hlB
  have HP := hid' hps
  have H0 := hid' h0
  clear hU hlA hlB hps h0
  go_enter Try.func3, Try.ntmps3
  go_wp2_with fail
  refine HK.out.mono ?_
  rintro r w1 ⟨rfl, X1⟩
  go_wp2_with fail
  refine (HA.out _).mono ?_
  rintro r w2 ⟨v, rfl, X2, hown, -⟩
  have HO := hid' hown
  obtain ⟨va, vc, rfl, -⟩ := own_val hown
  clear hown
  go_wp2_with fail
  refine (HB.out _).mono ?_
  rintro r w3 ⟨v, rfl, X3, hown, hn⟩
  rcases hown.2 with ⟨-, hz⟩ | ⟨g, cap, cu, rfl, hge, hb, hcap, hmx, hsz, htk⟩
  · exact absurd (List.length_eq_zero_iff.1 hz) H0.out
  have z1 : ((s ++ (⟨#[10]⟩ : ByteArray)).size : Int) ≤ 8388608 := by simp only [ByteArray.size_append]; change ((s.size + 1 : Nat) : Int) ≤ _; omega
  have HBK := hid' hb
  have HT0 := hid' (MovC.start (c := s.size + 1) htk)
  have HSZ := hid' hsz
  have HG := hid' hge
  have HC := hid' hcap
  clear hown hn hb hge hmx hsz htk hcap
  go_wp2_with fail
  refine (HU.out _).mono ?_
  rintro r w4 ⟨v, rfl, X4, hown4, -⟩
  have HO4 := hid' hown4
  obtain ⟨vb, vd, rfl, -⟩ := own_val hown4
  have HO2 : Hid (w4.ownsRow w1.heap.size 28 4 (.slice va lA.length vc) lA.length (toksV lA)) := hid' (ownB (ownB HO.out X3 (fun _ _ e => e)) X4 (fun _ _ e => e))
  have X := hid' (((X1.trans X2).trans X3).trans X4)
  have hb4 := hid' (X4.blk HBK.out id)
  have s1 := X1.size
  have s2 := X2.size
  have s3 := X3.size
  have s4 := X4.size
  have g3 := hid' (blk_lt HBK.out)
  clear hown4
  go_wp2_with fail
  go_loopw [14] (fun iv wr => ∃ (i : Nat) (cur : Array Value), i ≤ lB.length ∧ iv = .int .i64 i ∧ Chg (fun k => k = g) w4 wr ∧ wr.heap[g]? = some (.cells cur 28 (0, 0)) ∧ cur.size = cap * 4 ∧ MovC cur (s.size + 1) i lB) (fun iv _ => lB.length - (intOf iv).toNat)
  case atStart => exact ⟨0, cu, by omega, rfl, Chg.refl _ _, hb4.out, HSZ.out, HT0.out⟩
  case round =>
    obtain ⟨i, cur, hil, rfl, Y, hb, hcs, hmv⟩ := hrel
    have HB5 := hid' hb
    have HMV := hid' hmv
    have hln : (lB.length : Int) ≤ 300 := by have := HM.out; omega
    by_cases hlt : i < lB.length
    · have hlt' : (i : Int) < lB.length := by omega
      have h0i : (0 : Int) ≤ i := by omega
      obtain ⟨x, hx⟩ : ∃ x, lB[i]? = some x := ⟨lB[i], List.getElem?_eq_getElem hlt⟩
      have HX := hid' hx
      obtain ⟨q0, q1⟩ := HP.out x (List.mem_of_getElem? hx)
      obtain ⟨m1, m2, m3, m4⟩ := hmv i x hx
      rw [if_neg (Nat.lt_irrefl i)] at m4
      obtain ⟨xk, xn, xs, xp⟩ := x
      simp only at m1 m2 m3 m4 q0 q1
      have k4 : wr.cell? ⟨g, i * 4 + 3, none⟩ = some (.int .i64 xp) := by rw [cells_of hb, m4]
      have f4 : wr.frozen? ⟨g, i * 4 + 3, none⟩ = false := free_of hb _
      have gl := blk_lt hb
      have hcc : (lB.length : Int) ≤ cap := by have := HC.out; omega
      have HCS := hid' hcs
      have HST := hid' (show MovC (cur.setIfInBounds (i * 4 + 3) (.int .i64 (xp + (s.size : Int) + 1))) (s.size + 1) (i + 1) lB by
        have := HMV.out.step HX.out
        rw [show xp + (s.size : Int) + 1 = xp + ((s.size + 1 : Nat) : Int) by omega]
        exact this)
      clear hmv m1 m2 m3 m4 hb hx hcs
      go_wp2_with fail
      go_roundw
      case rel => exact ⟨i + 1, _, by omega, by go_num, Y.setCell (.inl rfl) _, blk_set HB5.out _ _, by rw [Array.size_setIfInBounds]; exact HCS.out, HST.out⟩
      case measure => simp [intOf]; omega
    obtain rfl : i = lB.length := by omega
    have hnews : ∀ j u, (toksV (lB.map (sh (s.size + 1))))[j]? = some u → wr.cell? ((⟨g, 0, none⟩ : Addr).add j) = some u := fun j u hj => by
      rw [add_z, cells_of hb]; exact hmv.done j u hj
    have hOA : wr.ownsRow w1.heap.size 28 4 (.slice va lA.length vc) lA.length (toksV lA) := ownB HO2.out Y (fun b hb e => by
      have := own_ge HO.out b hb
      have := HG.out
      omega)
    have hOU : wr.ownsRow w3.heap.size 28 4 (.slice vb (lA ++ lB.map (sh (s.size + 1))).length vd) (lA ++ lB.map (sh (s.size + 1))).length (toksV (lA ++ lB.map (sh (s.size + 1)))) := ownB HO4.out Y (fun b hb e => by
      have := own_ge HO4.out b hb
      have := g3.out
      omega)
    obtain ⟨v', w', hap, hown', hgr', -, -⟩ := run_append_own_at (P := Try.prog) (w := wr) w1.heap.size 23 23 28 i0 _ 4 40 underToks hi hz0 hz1 hz2 rfl (by decide) _ _ _ hOA ⟨g, 0, none⟩ lB.length cap (toksV (lB.map (sh (s.size + 1)))) (by rw [toksV_len, List.length_map]) hnews (toksV_one _) (by have := HL.out; have := HM.out; unfold maxLen; omega) (by have := HL.out; have := HM.out; omega) (by have := Y.size; omega)
    have HAP := hid' hap
    have hX : Chg NoB w wr := X.out.trans' Y (fun k hk e => by have := HG.out; subst e; omega)
    have hX' : Chg NoB w w' := hX.grown hgr' (fun k hk => .inr (by have := own_ge HO.out k (by rw [hk]; simp); omega))
    have hU' : w'.ownsRow w3.heap.size 28 4 (.slice vb (lA ++ lB.map (sh (s.size + 1))).length vd) (lA ++ lB.map (sh (s.size + 1))).length (toksV (lA ++ lB.map (sh (s.size + 1)))) :=
      ownB hOU ((Chg.refl (fun k => (Value.slice va lA.length vc).ownBlock = some k) wr).grown hgr' (fun k hk => .inl hk)) (fun b hb e => by
        have := own_ge HO4.out b hb
        have := own_ge HO.out b (by rw [e]; simp)
        omega)
    have hV' : w'.ownsRow w1.heap.size 28 4 v' (lA ++ lB.map (sh (s.size + 1))).length (toksV (lA ++ lB.map (sh (s.size + 1)))) := by
      rw [List.length_append, List.length_map, toksV_app]; exact hown'
    have ht := (tokens_any (l := lA ++ lB.map (sh (s.size + 1))) (m := lA ++ lB.map (sh (s.size + 1))) (by rw [List.length_append, List.length_map]; have := HL.out; have := HM.out; omega) (ToksAt.of_own hU') (ToksAt.of_own hV') true (Alike.refl _ _))
    rw [List.length_append, List.length_map] at ht
    have HT := hid' ht
    have HX' := hid' hX'
    clear ht hap hown' hgr' hOA hOU hU' hV' hX hX' hnews hmv hb hcs HB5 HMV s1 s2 s3 s4 hb4 Y
    go_wp2_with (at_builtin; refine wpList_append_run rfl (.tmp 90) (.tmp 91) 23 rfl _ _ _ _ rfl rfl HAP.out ?_)
    refine HT.out.mono ?_
    rintro r w5 ⟨rfl, X5⟩
    go_wp2_with fail
    go_ret
    exact ⟨rfl, HX'.out.trans X5⟩
theorem tokenApart_any (s t : ByteArray) (_ : s.size ≤ maxLen) (_ : t.size ≤ maxLen) (w : World) :
    Calls Try.prog 3 #[.string s, .string t] w fun e w' => e = .returned (.bool true) ∧ Chg NoB w w' := by
  by_cases hl : 300 < s.size ∨ 300 < t.size
  · exact apart_long s t hl w
  by_cases hs : (allF s.toList).1 = 0
  · by_cases he : (allF t.toList).1 = 0
    · by_cases h0 : (allF t.toList).2.1 = []
      · exact apart_none s t (by omega) (by omega) hs he h0 w
      · exact apart_some s t (by omega) (by omega) hs he h0 w
    · exact apart_bad2 s t (by omega) (by omega) hs he w
  · exact apart_bad1 s t (by omega) (by omega) hs w
end Go.Proofs.Ytibpnkggjkaohaa
