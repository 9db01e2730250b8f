/- tympanlaw11.HeapPlays: the walk. -/
import Derived.Test.YthkhdbinkcgpgaaZHpz
import Derived.Deep.CutBlock
namespace Go.Proofs.Ythkhdbinkcgpgaa
open Go.RowKit

theorem one6o (o : O) : ∀ u ∈ o.cells, u.oneCell' = true := fun u hu => flat_one [o] u (by simpa using hu)
set_option maxRecDepth 100000 in
set_option maxHeartbeats 40000000 in
theorem heapPlays_any (va : Value) (l : List St) (ask : O) (w : World) (hin : StsIn w va l) (hss : ask.s.size ≤ maxLen) :
    Calls Try.prog 3 #[va, ask.val] w fun e w' => e = .returned (.bool true) ∧ Chg NoB w w' := by
  obtain ⟨hsl, hlen, hok⟩ := hin
  have HOK := hid' hok
  clear hok
  have HSL := hid' hsl
  obtain ⟨a, c, rfl, hac, hcells⟩ := hsl
  obtain ⟨kk, kx, kn, kp, kl, ks⟩ := ask
  have HKN := hid' (fun W => known11_any W)
  have HCE := hid' hcells
  have A0 : Ats w w [] [] := Ats.start (Chg.refl NoB w)
  have A1 := A0.alloc (Obj.cells #[.int .i64 kk, .bool kx, .int .i64 kn, .int .i64 kp, .int .i64 kl, .string ks] 24)
  clear hcells A0
  have hl1 : (l.length : Int) ≤ 9223372036854775807 := by unfold maxLen at hlen; omega
  have hs1 : (ks.size : Int) ≤ 9223372036854775807 := by simp only [maxLen] at hss; omega
  by_cases h30 : 30 < l.length
  · have h30' : (30 : Int) < l.length := by omega
    generalize l.length = n at *
    go_enter Try.func3, Try.ntmps3
    go_wp2_with fail
    refine (HKN.out _).mono ?_
    rintro r w1 ⟨rfl, X1⟩
    go_wp2_with fail
    go_ret
    exact ⟨rfl, (A1.pure X1).chg⟩
  have h30' : ¬ (30 : Int) < l.length := by omega
  by_cases h300 : 300 < ks.size
  · have h300' : (300 : Int) < ks.size := by omega
    generalize l.length = n at *
    go_enter Try.func3, Try.ntmps3
    go_wp2_with fail
    refine (HKN.out _).mono ?_
    rintro r w1 ⟨rfl, X1⟩
    have A2 := A1.pure X1
    (try clear Rk); (try clear yk); (try clear Zk)
    have Rk := cells_of (A2.box _ m0)
    have yk := blk_lt (A2.box _ m0)
    (try simp only at Rk yk)
    go_wp2_with fail
    go_ret
    exact ⟨rfl, A2.chg⟩
  have h300' : ¬ (300 : Int) < ks.size := by omega
  obtain ⟨n, hn⟩ : ∃ n, l.length = n := ⟨_, rfl⟩
  have HN := hid' hn
  rw [hn] at HSL HCE hac hlen hl1 h30 h30' ⊢
  clear hn
  go_enter Try.func3, Try.ntmps3
  go_wp2_with fail
  refine (HKN.out _).mono ?_
  rintro r w1 ⟨rfl, X1⟩
  have A2 := A1.pure X1
  clear X1 A1
  (try clear Rk); (try clear yk); (try clear Zk)
  have Rk := cells_of (A2.box _ m0)
  have yk := blk_lt (A2.box _ m0)
  (try simp only at Rk yk)
  go_wp2_with fail
  refine (at_hnew A2).mono ?_
  rintro r w2 ⟨hp, rfl, A3⟩
  clear A2 Rk yk
  have A4 := A3.alloc (refBox (.slice none 0 0))
  clear A3
  generalize hbk : w.heap.size = bk at *
  clear hbk
  go_wp2_with fail
  refine (at_copy A4).mono ?_
  rintro r w3 ⟨rfl, A5⟩
  clear A4
  generalize World.heap (World.alloc _ _) = hh at *
  generalize Array.size hh = gq at *
  generalize w2.heap.size = gp at *
  have T5 : TS [] w hp gp [(gq, [])] [(bk, Obj.cells #[.int .i64 kk, .bool kx, .int .i64 kn, .int .i64 kp, .int .i64 kl, .string ks] 24)] [] [] w3 := ⟨[(gp, refBox (.slice none 0 0))], RefK.new gp, A5.order (List.Perm.swap _ _ _)⟩
  clear A5
  go_wp2_with fail
  refine (ts_rcopy T5).mono ?_
  rintro r w4 ⟨vp, rfl, J, E2, V, T6⟩
  clear T5
  obtain ⟨KA, hKA⟩ : ∃ KA, KA = [(bk, Obj.cells #[.int .i64 kk, .bool kx, .int .i64 kn, .int .i64 kp, .int .i64 kl, .string ks] 24)] := ⟨_, rfl⟩
  rw [← hKA] at T6
  have mk : (bk, Obj.cells #[.int .i64 kk, .bool kx, .int .i64 kn, .int .i64 kp, .int .i64 kl, .string ks] 24) ∈ KA := by rw [hKA]; simp
  clear hKA
  go_wp2_with fail
  go_loopw [5, 7, 8, 9, 38] (fun v5 v7 v8 v9 v38 wr => ∃ i : Nat, v38 = .int .i64 i ∧ i ≤ n ∧ HPI w gp KA i v5 v7 v8 v9 wr) (fun _ _ _ _ v38 _ => n - (intOf v38).toNat)
  case atStart => exact ⟨0, rfl, Nat.zero_le _, hp, gq, vp, J, E2, [], [], [], [], rfl, rfl, rfl, V, .inl ⟨rfl, rfl, rfl, rfl⟩, Nat.le_refl _, T6⟩
  case round =>
    clear T6 V
    obtain ⟨i, rfl, hi, hp, gq, vp, J, E2, R, L, G, all, rfl, rfl, rfl, V, hR, hal, T⟩ := hrel
    by_cases hlt : i < n
    · obtain ⟨t, ht⟩ : ∃ t, l[i]? = some t := ⟨l[i]'(by rw [HN.out]; exact hlt), List.getElem?_eq_getElem _⟩
      obtain ⟨a', c', hv, -, hc⟩ := (HSL.out.pure T.chg : StsAt wr _ l)
      obtain ⟨b, off, rfl, yb, hq⟩ := hc (by rw [HN.out]; omega)
      simp only [Value.slice.injEq] at hv
      obtain ⟨rfl, -, rfl⟩ := hv
      have hq := hq i t ht
      have hok := HOK.out t (List.mem_of_getElem? ht)
      obtain ⟨sw, sa, sb, sn, sm, ss, ⟨ok, ox, on, op, ol, os⟩⟩ := t
      obtain ⟨-, -, -, -, -, es0, eo0⟩ := hok
      simp only [maxLen] at es0 eo0
      have es : (ss.size : Int) ≤ 9223372036854775807 := by omega
      have eo : (os.size : Int) ≤ 9223372036854775807 := by omega
      have q0 := hq 0 (by decide)
      have q1 := hq 1 (by decide)
      have q2 := hq 2 (by decide)
      have q3 := hq 3 (by decide)
      have q4 := hq 4 (by decide)
      have q5 := hq 5 (by decide)
      have q6 := hq 6 (by decide)
      have q7 := hq 7 (by decide)
      have q8 := hq 8 (by decide)
      have q9 := hq 9 (by decide)
      have q10 := hq 10 (by decide)
      have q11 := hq 11 (by decide)
      simp only [St.cells, List.getElem?_cons_zero, List.getElem?_cons_succ, Nat.add_zero] at q0 q1 q2 q3 q4 q5 q6 q7 q8 q9 q10 q11
      clear hq hc ht
      have hlt' : (i : Int) < n := by omega
      have hnc : (n : Int) ≤ c := by omega
      have T1 := T.alloc (Obj.cells #[.int .i64 sw, .int .i64 sa, .int .i64 sb, .int .i64 sn, .int .i64 sm, .string ss, .int .i64 ok, .bool ox, .int .i64 on, .int .i64 op, .int .i64 ol, .string os] 35)
      go_upto_region 11 with (fail)
      have T2 : TS J w hp gp [(gq, G)] (E2 ++ (R ++ ((wr.heap.size, Obj.cells #[.int .i64 sw, .int .i64 sa, .int .i64 sb, .int .i64 sn, .int .i64 sm, .string ss, .int .i64 ok, .bool ox, .int .i64 on, .int .i64 op, .int .i64 ol, .string os] 35) :: KA))) L L _ := T1.perm (by
        classical refine List.perm_iff_count.2 fun q => ?_
        simp only [List.count_append, List.count_cons]
        omega)
      clear T1 q0 q1 q2 q3 q4 q5 q6 q7 q8 q9 q10 q11 yb hnc
      generalize wr.heap.size = b11 at *
      generalize World.alloc _ _ = w5 at *
      obtain ⟨KB, hKB⟩ : ∃ KB, KB = (b11, Obj.cells #[.int .i64 sw, .int .i64 sa, .int .i64 sb, .int .i64 sn, .int .i64 sm, .string ss, .int .i64 ok, .bool ox, .int .i64 on, .int .i64 op, .int .i64 ol, .string os] 35) :: KA := ⟨_, rfl⟩
      rw [← hKB] at T2
      have ms : ∀ A B : List (Nat × Obj), (b11, Obj.cells #[.int .i64 sw, .int .i64 sa, .int .i64 sb, .int .i64 sn, .int .i64 sm, .string ss, .int .i64 ok, .bool ox, .int .i64 on, .int .i64 op, .int .i64 ol, .string os] 35) ∈ A ++ (B ++ KB) := fun A B => by rw [hKB]; simp
      have HKB := hid' hKB
      clear hKB T
      (try clear Rs); (try clear ys); (try clear Zs)
      have Rs := cells_of (T2.box _ (ms _ _))
      have ys := blk_lt (T2.box _ (ms _ _))
      (try simp only at Rs ys)
      by_cases h1 : 300 < ss.size
      · have h1' : (300 : Int) < ss.size := by omega
        go_wp2_with fail
        go_ret
        exact ⟨rfl, T2.chg⟩
      have h1' : ¬ (300 : Int) < ss.size := by omega
      by_cases h2 : 300 < os.size
      · have h2' : (300 : Int) < os.size := by omega
        go_wp2_with fail
        go_ret
        exact ⟨rfl, T2.chg⟩
      have h2' : ¬ (300 : Int) < os.size := by omega
      obtain ⟨⟨uk, ux, un, up, ul, us⟩, hpa⟩ : ∃ p, pickL all sa ⟨ok, ox, on, op, ol, os⟩ = p := ⟨_, rfl⟩
      obtain ⟨⟨dk, dx, dn, dp, dl, ds⟩, hpb⟩ : ∃ p, pickL all sb ⟨ok, ox, on, op, ol, os⟩ = p := ⟨_, rfl⟩
      obtain ⟨a9, c9, rfl, -⟩ := hR.rowin.slice
      have hbx : ∀ W, Chg NoB w5 W → ∀ q ∈ R, W.heap[q.1]? = some q.2 := fun W X q hq => X.blk (T2.box q (by simp [hq])) id
      have HPA := hid' (fun W (X : Chg NoB w5 W) => pick_chg (hbx W X) hR.rowin (by omega) sa ⟨ok, ox, on, op, ol, os⟩ hpa)
      have HPB := hid' (fun W (X : Chg NoB w5 W) => pick_chg (hbx W X) hR.rowin (by omega) sb ⟨ok, ox, on, op, ol, os⟩ hpb)
      have HR := hid' hR
      have HV := hid' V
      have HAL := hid' hal
      have Q5 := Chg.cells (S := NoB) (T2.box _ (ms _ _)) id
      clear hpa hpb hbx hR V hal h1 h2
      go_upto_region 13 with (fail)
      obtain ⟨na, hna⟩ : ∃ na, all.length = na := ⟨_, rfl⟩
      rw [hna] at HPA HPB HR HAL ⊢
      have HNA := hid' hna
      clear hna
      go_cut [12, 13] (fun s12 s13 wx => HP2 w5 ⟨uk, ux, un, up, ul, us⟩ ⟨dk, dx, dn, dp, dl, ds⟩ s12 s13 wx)
      case first =>
        refine npk_then (picks _ (by kernel_rfl) HPA HPB (T2.box _ (ms _ _)) _ ?_)
        intro s12 s13 y53 y54 y55 y56 y57 y58 y59 y60 y61 y62 y63 y64 wx hHP
        go_wp2_with fail
        go_meet
        exact hHP
      case rest =>
        clear HPA HPB Q5 Rs ys
        obtain ⟨p, q, rfl, rfl, hpq, hp1, hq1, X, bp, bq⟩ := hcut
        have T3 := T2.got2 X bp hp1 bq hq1 hpq
        clear X bp bq hp1 hq1 hpq T2
        obtain ⟨KC, hKC⟩ : ∃ KC, KC = (p, Obj.cells #[.int .i64 uk, .bool ux, .int .i64 un, .int .i64 up, .int .i64 ul, .string us] 24) :: (q, Obj.cells #[.int .i64 dk, .bool dx, .int .i64 dn, .int .i64 dp, .int .i64 dl, .string ds] 24) :: KB := ⟨_, rfl⟩
        have T4 : TS J w hp gp [(gq, G)] (E2 ++ (R ++ KC)) L L _ := T3.perm (by
          rw [hKC]
          classical refine List.perm_iff_count.2 fun q => ?_
          simp only [List.count_append, List.count_cons]
          omega)
        have mp : ∀ A B : List (Nat × Obj), (p, Obj.cells #[.int .i64 uk, .bool ux, .int .i64 un, .int .i64 up, .int .i64 ul, .string us] 24) ∈ A ++ (B ++ KC) := fun A B => by rw [hKC]; simp
        have mq : ∀ A B : List (Nat × Obj), (q, Obj.cells #[.int .i64 dk, .bool dx, .int .i64 dn, .int .i64 dp, .int .i64 dl, .string ds] 24) ∈ A ++ (B ++ KC) := fun A B => by rw [hKC]; simp
        have ms : ∀ A B : List (Nat × Obj), (b11, Obj.cells #[.int .i64 sw, .int .i64 sa, .int .i64 sb, .int .i64 sn, .int .i64 sm, .string ss, .int .i64 ok, .bool ox, .int .i64 on, .int .i64 op, .int .i64 ol, .string os] 35) ∈ A ++ (B ++ KC) := fun A B => by rw [hKC, HKB.out]; simp
        have mk' : ∀ A B : List (Nat × Obj), (bk, Obj.cells #[.int .i64 kk, .bool kx, .int .i64 kn, .int .i64 kp, .int .i64 kl, .string ks] 24) ∈ A ++ (B ++ KC) := fun A B => by rw [hKC, HKB.out]; simp [mk]
        have hsub : KA.Sublist KC := by rw [hKC, HKB.out]; exact ((List.sublist_cons_self _ _).trans (List.sublist_cons_self _ _)).trans (List.sublist_cons_self _ _)
        have HKC := hid' hKC
        clear hKC T3
        generalize wc = w8 at *
        (try clear Rp); (try clear yp); (try clear Zp)
        have Rp := cells_of (T4.box _ (mp _ _))
        have yp := blk_lt (T4.box _ (mp _ _))
        (try clear Rq); (try clear yq); (try clear Zq)
        have Rq := cells_of (T4.box _ (mq _ _))
        have yq := blk_lt (T4.box _ (mq _ _))
        (try clear Rs); (try clear ys); (try clear Zs)
        have Rs := cells_of (T4.box _ (ms _ _))
        have ys := blk_lt (T4.box _ (ms _ _))
        (try simp only at Rp yp Rq yq Rs ys)
        go_upto_block 2 with (fail)
        go_cut [14, 5, 7, 8, 9] (fun s14 s5 s7 s8 s9 wx => s14 = .bool true ∧ HPI w gp KC (i + 1) s5 s7 s8 s9 wx)
        case first =>
          have HT := hid' T4
          have QP := TX.cells (J0 := J) (w0 := w) (hp := hp) (gp := gp) (M := [(gq, G)]) (mp E2 R)
          have QQ := TX.cells (J0 := J) (w0 := w) (hp := hp) (gp := gp) (M := [(gq, G)]) (mq E2 R)
          have QSt := TX.cells (J0 := J) (w0 := w) (hp := hp) (gp := gp) (M := [(gq, G)]) (ms E2 R)
          rcases (show (0 ≤ sw ∧ sw ≤ 3) ∨ sw = 4 ∨ sw = 5 ∨ sw = 6 ∨ sw = 7 ∨ sw < 0 ∨ 7 < sw by omega) with ⟨g0, g3⟩ | rfl | rfl | rfl | rfl | g0 | g7
          · clear QP QQ QSt
            have hrow : RowIn ((w8.heap.size, Obj.cells #[.int .i64 0, .bool false, .int .i64 0, .int .i64 0, .int .i64 0, .string ⟨#[]⟩] 24) :: (E2 ++ (R ++ KC))) 24 6 (.slice a9 na c9) all.length (all.flatMap O.cells) := by
              rw [HNA.out]
              exact HR.out.rowin.mono (fun q hq => List.mem_cons_of_mem _ (List.mem_append_right _ (List.mem_append_left _ hq)))
            have HM := hid' (show ∀ W, TS J w hp gp [(gq, G)] ((w8.heap.size, Obj.cells #[.int .i64 0, .bool false, .int .i64 0, .int .i64 0, .int .i64 0, .string ⟨#[]⟩] 24) :: (E2 ++ (R ++ KC))) L L W → Calls Try.prog 10 #[ptr hp, ptr gp, .slice a9 na c9, .agg #[.int .i64 sw, .int .i64 sa, .int .i64 sb, .int .i64 sn, .int .i64 sm, .string ss, .int .i64 ok, .bool ox, .int .i64 on, .int .i64 op, .int .i64 ol, .string os]] W fun r w' => ∃ o : O, r = .returned (.tuple #[o.val, .bool true]) ∧ ∃ L', TS J w hp gp [(gq, G)] ((w8.heap.size, Obj.cells #[.int .i64 0, .bool false, .int .i64 0, .int .i64 0, .int .i64 0, .string ⟨#[]⟩] 24) :: (E2 ++ (R ++ KC))) L' L' w' from fun W T => make1_any T hrow (by rw [HNA.out]; have := HAL.out; omega) sw sa sb sn sm ss ⟨ok, ox, on, op, ol, os⟩)
            have T5 := T4.alloc (Obj.cells #[.int .i64 0, .bool false, .int .i64 0, .int .i64 0, .int .i64 0, .string ⟨#[]⟩] 24)
            obtain ⟨i0, hi0, hz0, hz1, hz2⟩ := info_parts Try.infoObj
            go_wp2_with fail
            refine (HM.out _ T5).mono ?_
            rintro r w9 ⟨⟨xk, xx, xn, xp, xl, xs⟩, rfl, L', T6⟩
            clear hrow HM T5
            generalize w8.heap.size = b15 at *
            (try clear Rz); (try clear yz); (try clear Zz)
            have Rz := cells_of (T6.box _ m0)
            have yz := blk_lt (T6.box _ m0)
            have Zz := free_of (T6.box _ m0)
            (try simp only at Rz yz Zz)
            have T7 := T6.putO xk xx xn xp xl xs
            go_upto_region 20 with (fail)
            generalize hW : World.setCell _ _ _ = w10 at *
            clear hW T6 Rz yz Zz Rp yp Rq yq Rs ys
            (try clear Rz); (try clear yz); (try clear Zz)
            have Rz := cells_of (T7.box _ m0)
            have yz := blk_lt (T7.box _ m0)
            (try simp only at Rz yz)
            by_cases hx0 : xk = 0
            · go_wp2_with fail
              go_meet
              exact ⟨rfl, hp, gq, vp, J, E2, R, L', G, all, rfl, rfl, rfl, HV.out, by rw [HNA.out]; exact HR.out, by rw [HNA.out]; have := HAL.out; omega, T7.keep (List.sublist_cons_self _ _)⟩
            · have hxk : (xk != 0) = true := by simpa using hx0
              have T8 := T7.alloc (.cells (O.cells ⟨xk, xx, xn, xp, xl, xs⟩).toArray 24)
              have T9 : TS J w hp gp [(gq, G)] (R ++ ((w10.heap.size, .cells (O.cells ⟨xk, xx, xn, xp, xl, xs⟩).toArray 24) :: (b15, Obj.cells #[.int .i64 xk, .bool xx, .int .i64 xn, .int .i64 xp, .int .i64 xl, .string xs] 24) :: (E2 ++ KC))) L' L' _ := T8.perm (by
                classical refine List.perm_iff_count.2 fun q => ?_
                simp only [List.count_append, List.count_cons]
                omega)
              have HT9 := hid' T9
              clear T8 T9
              have hna9 : (na : Int) ≤ 30 := by have := HAL.out; omega
              go_wp2_with (at_builtin; refine wpList_append_own_at _ rfl (.tmp 91) (.tmp 93) 33 rfl w.heap.size 24 i0 O.nil.val 6 56 Try.underObjs hi0 hz0 hz1 hz2 rfl (by decide) (.slice a9 na c9) na (all.flatMap O.cells) rfl (HT9.out.ownsG HR.out) ⟨w10.heap.size, 0, none⟩ 1 1 (O.cells ⟨xk, xx, xn, xp, xl, xs⟩) rfl rfl (news_new (blk_new w10 _)) (one6o _) ?_ ?_ ?_ ?_; (unfold maxLen; omega); omega; (have := HT9.out.chg.size; exact this); intro v' w11 hown hgr _ hob)
              obtain ⟨R', hR', T10⟩ := HT9.out.grownG HR.out hown hgr hob (by decide)
              go_meet
              have hlen' : (all ++ [(⟨xk, xx, xn, xp, xl, xs⟩ : O)]).length = na + 1 := by rw [List.length_append, HNA.out]; rfl
              refine ⟨rfl, hp, gq, vp, J, E2, R', L', G, all ++ [⟨xk, xx, xn, xp, xl, xs⟩], rfl, rfl, rfl, HV.out, ?_, ?_, (T10.perm (K' := (w10.heap.size, .cells (O.cells ⟨xk, xx, xn, xp, xl, xs⟩).toArray 24) :: (b15, Obj.cells #[.int .i64 xk, .bool xx, .int .i64 xn, .int .i64 xp, .int .i64 xl, .string xs] 24) :: (E2 ++ (R' ++ KC))) ?_).keep ((List.sublist_cons_self _ _).trans (List.sublist_cons_self _ _))⟩
              · rw [hlen', List.flatMap_append]
                simpa using hR'
              · rw [hlen']; have := HAL.out; omega
              · classical refine List.perm_iff_count.2 fun q => ?_
                simp only [List.count_append, List.count_cons]
                omega
          · obtain ⟨L', e, hq⟩ : ∃ L' e, setH L ⟨uk, ux, un, up, ul, us⟩ sn ⟨dk, dx, dn, dp, dl, ds⟩ = (L', e) := ⟨_, _, rfl⟩
            have HA := hid' (fun W (T : TS J w hp gp [(gq, G)] (E2 ++ (R ++ KC)) L L W) => ts_set ⟨uk, ux, un, up, ul, us⟩ sn ⟨dk, dx, dn, dp, dl, ds⟩ hq T)
            have HB := hid' (fun W (T : TS J w hp gp [(gq, G)] (E2 ++ (R ++ KC)) L' L W) => ts_rset ⟨uk, ux, un, up, ul, us⟩ sn ⟨dk, dx, dn, dp, dl, ds⟩ hq T)
            clear hq
            go_upto_region 23 with (fail)
            have hS1 := TX.of T4
            clear T4 Rp yp Rq yq Rs ys
            go_region_held3 (fun W' => TX J w hp gp [(gq, G)] (E2 ++ (R ++ KC)) W') (first | (with_reducible assumption) | (with_reducible exact TX.drew (by with_reducible assumption)) | (with_reducible exact TX.of T5) | (with_reducible exact TX.of T6))
              (first
                | (go_at_call 11; with_reducible refine (HA.out _ (by first | with_reducible exact HT.out | with_reducible exact HT.out.drew)).mono ?_; rintro r w5 ⟨rfl, T5⟩)
                | (go_at_call 12; with_reducible refine (HB.out _ (by first | with_reducible exact T5 | with_reducible exact T5.drew)).mono ?_; rintro r w6 ⟨rfl, T6⟩))
            go_wp2_with fail
            go_meet
            exact ⟨by simp, hp, gq, vp, J, E2, R, L', G, all, rfl, rfl, rfl, HV.out, by rw [HNA.out]; exact HR.out, by rw [HNA.out]; have := HAL.out; omega, T6⟩
          · obtain ⟨L', e, hq⟩ : ∃ L' e, putH L ⟨uk, ux, un, up, ul, us⟩ sn ⟨dk, dx, dn, dp, dl, ds⟩ = (L', e) := ⟨_, _, rfl⟩
            have HA := hid' (fun W (T : TS J w hp gp [(gq, G)] (E2 ++ (R ++ KC)) L L W) => ts_put ⟨uk, ux, un, up, ul, us⟩ sn ⟨dk, dx, dn, dp, dl, ds⟩ hq T)
            have HB := hid' (fun W (T : TS J w hp gp [(gq, G)] (E2 ++ (R ++ KC)) L' L W) => ts_rput ⟨uk, ux, un, up, ul, us⟩ sn ⟨dk, dx, dn, dp, dl, ds⟩ hq T)
            clear hq
            go_upto_region 25 with (fail)
            have hS1 := TX.of T4
            clear T4 Rp yp Rq yq Rs ys
            go_region_held3 (fun W' => TX J w hp gp [(gq, G)] (E2 ++ (R ++ KC)) W') (first | (with_reducible assumption) | (with_reducible exact TX.drew (by with_reducible assumption)) | (with_reducible exact TX.of T5) | (with_reducible exact TX.of T6))
              (first
                | (go_at_call 13; with_reducible refine (HA.out _ (by first | with_reducible exact HT.out | with_reducible exact HT.out.drew)).mono ?_; rintro r w5 ⟨rfl, T5⟩)
                | (go_at_call 14; with_reducible refine (HB.out _ (by first | with_reducible exact T5 | with_reducible exact T5.drew)).mono ?_; rintro r w6 ⟨rfl, T6⟩))
            go_wp2_with fail
            go_meet
            exact ⟨by simp, hp, gq, vp, J, E2, R, L', G, all, rfl, rfl, rfl, HV.out, by rw [HNA.out]; exact HR.out, by rw [HNA.out]; have := HAL.out; omega, T6⟩
          · obtain ⟨L', e, hq⟩ : ∃ L' e, lockH L ⟨uk, ux, un, up, ul, us⟩ = (L', e) := ⟨_, _, rfl⟩
            have HA := hid' (fun W (T : TS J w hp gp [(gq, G)] (E2 ++ (R ++ KC)) L L W) => ts_lock ⟨uk, ux, un, up, ul, us⟩ hq T)
            have HB := hid' (fun W (T : TS J w hp gp [(gq, G)] (E2 ++ (R ++ KC)) L' L W) => ts_rlock ⟨uk, ux, un, up, ul, us⟩ hq T)
            clear hq
            go_upto_region 27 with (fail)
            have hS1 := TX.of T4
            clear T4 Rp yp Rq yq Rs ys
            go_region_held3 (fun W' => TX J w hp gp [(gq, G)] (E2 ++ (R ++ KC)) W') (first | (with_reducible assumption) | (with_reducible exact TX.drew (by with_reducible assumption)) | (with_reducible exact TX.of T5) | (with_reducible exact TX.of T6))
              (first
                | (go_at_call 15; with_reducible refine (HA.out _ (by first | with_reducible exact HT.out | with_reducible exact HT.out.drew)).mono ?_; rintro r w5 ⟨rfl, T5⟩)
                | (go_at_call 16; with_reducible refine (HB.out _ (by first | with_reducible exact T5 | with_reducible exact T5.drew)).mono ?_; rintro r w6 ⟨rfl, T6⟩))
            go_wp2_with fail
            go_meet
            exact ⟨by simp, hp, gq, vp, J, E2, R, L', G, all, rfl, rfl, rfl, HV.out, by rw [HNA.out]; exact HR.out, by rw [HNA.out]; have := HAL.out; omega, T6⟩
          · clear QP QQ QSt
            go_wp2_with fail
            refine (ts_rcopy T4).mono ?_
            rintro r w9 ⟨vp', rfl, J', E2', V', T5⟩
            have HV' := hid' V'
            clear V' Rp yp Rq yq Rs ys
            go_wp2_with fail
            refine (ts_copy T5).mono ?_
            rintro r w10 ⟨hp', rfl, T6⟩
            go_wp2_with fail
            go_meet
            exact ⟨rfl, hp', hp, vp', J', E2', R, L, L, all, rfl, rfl, rfl, HV'.out, by rw [HNA.out]; exact HR.out, by rw [HNA.out]; have := HAL.out; omega, T6.keep (List.Sublist.append_left (List.sublist_append_right _ _) _)⟩
          all_goals
            clear QP QQ QSt
            go_wp2_with fail
            refine (ts_become T4).mono ?_
            rintro r w9 ⟨rfl, T5⟩
            clear Rp yp Rq yq Rs ys
            go_wp2_with fail
            refine (ts_rbecome HV.out T5).mono ?_
            rintro r w10 ⟨rfl, T6⟩
            go_wp2_with fail
            go_meet
            exact ⟨rfl, hp, gq, vp, J, E2, R, G, G, all, rfl, rfl, rfl, HV.out, by rw [HNA.out]; exact HR.out, by rw [HNA.out]; have := HAL.out; omega, T6⟩
        case rest =>
          clear HR HV HAL HNA T4 Rp yp Rq yq Rs ys
          obtain ⟨rfl, hp, gq, vp, J, E2, R, L, G, all, rfl, rfl, rfl, V, hR, hal, T⟩ := hcut
          have HV := hid' V
          have HR := hid' hR
          have HAL := hid' hal
          clear V hR hal
          obtain ⟨E, H, A⟩ := T
          obtain ⟨lv, hb, hrow⟩ := H.parts
          obtain ⟨al, cl, rfl⟩ : ∃ al cl, lv = .slice al L.length cl := by
            rcases hrow with ⟨rfl, rfl⟩ | ⟨g, cap, cur, rfl, -⟩
            · exact ⟨none, 0, rfl⟩
            · exact ⟨_, _, rfl⟩
          clear hrow
          have TF0 : TF J w hp gp [(gq, G)] E (E2 ++ (R ++ KC)) L wc := ⟨H, A⟩
          have HT := hid' TF0
          have QP := TF.cells (J0 := J) (w0 := w) (hp := hp) (gp := gp) (M := [(gq, G)]) (E := E) (L := L) (mp E2 R)
          have QSt := TF.cells (J0 := J) (w0 := w) (hp := hp) (gp := gp) (M := [(gq, G)]) (E := E) (L := L) (ms E2 R)
          have QE := TF.cellsE (J0 := J) (w0 := w) (hp := hp) (gp := gp) (M := [(gq, G)]) (K := E2 ++ (R ++ KC)) (L := L) hb
          have H1 := hid' (fun W (T : TF J w hp gp [(gq, G)] E (E2 ++ (R ++ KC)) L W) => same11_at T ⟨uk, ux, un, up, ul, us⟩ sn)
          have H2 := hid' (fun W (T : TF J w hp gp [(gq, G)] E (E2 ++ (R ++ KC)) L W) => tf_cells rfl T)
          have H3 := hid' (fun W (T : TF J w hp gp [(gq, G)] E (E2 ++ (R ++ KC)) L W) => tf_used rfl T)
          have H4 := hid' (fun W (T : TF J w hp gp [(gq, G)] E (E2 ++ (R ++ KC)) L W) => tf_rused rfl T)
          clear hb H A
          generalize L.length = nl at *
          generalize used L = ul9 at *
          generalize wc = w12 at *
          go_upto_region 31 with (fail)
          go_region_held3 (fun W' => TF J w hp gp [(gq, G)] E (E2 ++ (R ++ KC)) L W') (first | (with_reducible assumption) | (with_reducible exact TF.drew (by with_reducible assumption)))
            (first
              | (go_at_call 19; with_reducible refine (H1.out _ (by first | with_reducible assumption | with_reducible exact TF.drew (by with_reducible assumption))).mono ?_; rintro r w13 ⟨rfl, T13⟩)
              | (go_at_call 20; with_reducible refine (H2.out _ (by with_reducible assumption)).mono ?_; rintro r w14 ⟨rfl, T14⟩)
              | (go_at_call 21; with_reducible refine (H3.out _ (by with_reducible assumption)).mono ?_; rintro r w15 ⟨rfl, T15⟩)
              | (go_at_call 22; with_reducible refine (H4.out _ (by with_reducible assumption)).mono ?_; rintro r w16 ⟨rfl, T16⟩))
          go_wp2_with fail
          go_roundw
          case rel =>
            exact ⟨i + 1, by go_num, by omega, hp, gq, vp, J, E2, R, L, G, all, rfl, rfl, rfl, HV.out, HR.out, HAL.out, T16.ts.keep (List.Sublist.append_left (List.Sublist.append_left hsub _) _)⟩
          case measure => simp [intOf]; omega
    · obtain rfl : i = n := by omega
      clear hlt HCE HSL
      have HV := hid' V
      have HAL := hid' hal
      obtain ⟨a9, c9, rfl, -⟩ := hR.rowin.slice
      have HR := hid' hR
      clear V hR hal
      obtain ⟨E, H, A⟩ := T
      obtain ⟨al, cl, hvb⟩ : ∃ al cl, (vp, refBox (.slice al G.length cl)) ∈ E2 := by
        obtain ⟨R2, lv2, rows2, rfl, hR2, -⟩ := HV.out
        obtain ⟨al, cl, rfl, -⟩ := hR2.rowin.slice
        exact ⟨al, cl, by simp⟩
      have mvb : (vp, refBox (.slice al G.length cl)) ∈ E2 ++ (R ++ KA) := List.mem_append_left _ hvb
      have mkk : (bk, Obj.cells #[.int .i64 kk, .bool kx, .int .i64 kn, .int .i64 kp, .int .i64 kl, .string ks] 24) ∈ E2 ++ (R ++ KA) := by simp [mk]
      have TF0 : TF J w hp gp [(gq, G)] E (E2 ++ (R ++ KA)) L wr := ⟨H, A⟩
      have hin : ∀ q ∈ J ++ E2, q ∈ E ++ (E2 ++ (R ++ KA)) := fun q hq => by
        rcases List.mem_append.1 hq with h | h
        · exact List.mem_append_left _ (H.holds q h)
        · exact List.mem_append_right _ (List.mem_append_left _ h)
      have H1 := hid' (fun W (T : TF J w hp gp [(gq, G)] E (E2 ++ (R ++ KA)) L W) => same11_at T ⟨kk, kx, kn, kp, kl, ks⟩ 0)
      have H2 := hid' (fun W (T : TF J w hp gp [(gq, G)] E (E2 ++ (R ++ KA)) L W) => T.ask fun _ A => (at_cells (hp := gq) (L := G) A (List.mem_cons_of_mem _ (List.mem_cons_self ..))).mono fun e w' ⟨h1, h2⟩ => ⟨h1, h2 ▸ A⟩)
      have H3 := hid' (fun W (T : TF J w hp gp [(gq, G)] E (E2 ++ (R ++ KA)) L W) => T.ask fun _ A => (at_used (hp := gq) (L := G) A (List.mem_cons_of_mem _ (List.mem_cons_self ..))).mono fun e w' ⟨h1, h2⟩ => ⟨h1, h2 ▸ A⟩)
      have H4 := hid' (fun W (T : TF J w hp gp [(gq, G)] E (E2 ++ (R ++ KA)) L W) => T.ask fun _ A => rused_any HV.out.refK A hin)
      have QK := TF.cells (J0 := J) (w0 := w) (hp := hp) (gp := gp) (M := [(gq, G)]) (E := E) (L := L) mkk
      have QV := TF.cells (J0 := J) (w0 := w) (hp := hp) (gp := gp) (M := [(gq, G)]) (E := E) (L := L) mvb
      clear H A hin hvb mvb mkk
      obtain ⟨na, hna⟩ : ∃ na, all.length = na := ⟨_, rfl⟩
      rw [hna] at HR HAL ⊢
      have HNA := hid' hna
      have hna9 : (na : Int) ≤ 30 := by have := HAL.out; omega
      clear hna
      generalize G.length = ng at *
      generalize used G = ug at *
      go_wp2_with fail
      go_loopw [184] (fun v184 wx => ∃ j : Nat, v184 = .int .i64 j ∧ j ≤ na ∧ TF J w hp gp [(gq, G)] E (E2 ++ (R ++ KA)) L wx) (fun v184 _ => na - (intOf v184).toNat)
      case atStart => exact ⟨0, rfl, Nat.zero_le _, TF0⟩
      case round =>
        clear TF0
        obtain ⟨j, rfl, hj, T⟩ := hrel
        by_cases hjt : j < na
        · clear QK QV H1 H2 H3 H4
          obtain ⟨g, cap, cur, hv, hRR, hcur⟩ := HR.out.shape (by omega)
          simp only [Value.slice.injEq, true_and] at hv
          obtain ⟨rfl, rfl⟩ := hv
          obtain ⟨⟨xk, xx, xn, xp, xl, xs⟩, ho⟩ : ∃ o, all[j]? = some o := ⟨_, List.getElem?_eq_getElem (by rw [HNA.out]; exact hjt)⟩
          have hq : ∀ k, k < 6 → cur[j * 6 + k]? = (O.cells ⟨xk, xx, xn, xp, xl, xs⟩)[k]? := fun k hk => by rw [hcur _ (by omega), flat_at all j k _ ho hk]
          have q0 := hq 0 (by decide)
          have q1 := hq 1 (by decide)
          have q2 := hq 2 (by decide)
          have q3 := hq 3 (by decide)
          have q4 := hq 4 (by decide)
          have q5 := hq 5 (by decide)
          simp only [O.cells, List.getElem?_cons_zero, List.getElem?_cons_succ, Nat.add_zero] at q0 q1 q2 q3 q4 q5
          have mr : (g, Obj.cells cur 24) ∈ E2 ++ (R ++ KA) := by rw [hRR]; simp
          have hji : (j : Int) < na := by omega
          have hcc : na ≤ c9 := by
            obtain ⟨a', c', h, h'⟩ := HR.out.rowin.slice
            simp only [Value.slice.injEq] at h
            omega
          have hcc' : (na : Int) ≤ c9 := by omega
          clear hq hcur ho
          (try clear Rg); (try clear yg); (try clear Zg)
          have Rg := cells_of (T.box _ mr)
          have yg := blk_lt (T.box _ mr)
          (try simp only at Rg yg)
          have T1 := T.alloc (Obj.cells #[.int .i64 xk, .bool xx, .int .i64 xn, .int .i64 xp, .int .i64 xl, .string xs] 24)
          have HSM := hid' (same11_at T1 ⟨xk, xx, xn, xp, xl, xs⟩ 0)
          clear T1
          go_wp2_with fail
          refine HSM.out.mono ?_
          rintro r w13 ⟨rfl, T2⟩
          go_wp2_with fail
          go_roundw
          case rel => exact ⟨j + 1, by go_num, by omega, T2.keep (List.sublist_cons_self _ _)⟩
          case measure => simp [intOf]; omega
        · obtain rfl : j = na := by omega
          clear hjt
          go_upto_region 40 with (fail)
          go_region_held3 (fun W' => TF J w hp gp [(gq, G)] E (E2 ++ (R ++ KA)) L W') (first | (with_reducible assumption) | (with_reducible exact TF.drew (by with_reducible assumption)))
            (first
              | (go_at_call 19; with_reducible refine (H1.out _ (by first | with_reducible assumption | with_reducible exact TF.drew (by with_reducible assumption))).mono ?_; rintro r w13 ⟨rfl, T13⟩)
              | (go_at_call 20; with_reducible refine (H2.out _ (by with_reducible assumption)).mono ?_; rintro r w14 ⟨rfl, T14⟩)
              | (go_at_call 21; with_reducible refine (H3.out _ (by with_reducible assumption)).mono ?_; rintro r w15 ⟨rfl, T15⟩)
              | (go_at_call 22; with_reducible refine (H4.out _ (by with_reducible assumption)).mono ?_; rintro r w16 ⟨rfl, T16⟩))
          go_wp2_with fail
          go_ret
          exact ⟨by simp, T16.2.chg⟩
end Go.Proofs.Ythkhdbinkcgpgaa
