/- tympanlaw12.DictPlays: the walk. -/
import Derived.Test.YthkhdbinkcgpgaaZDictd
import Derived.Test.YthkhdbinkcgpgaaZLde
import Derived.Test.YthkhdbinkcgpgaaZKey
import Derived.Test.YthkhdbinkcgpgaaZHplayb
import Derived.Deep.CutBlock
namespace Go.Proofs.Ythkhdbinkcgpgaa
open Go.RowKit

theorem wf_i64b {n : Int} (h : (Lit.int .i64 n).wf = true) : -9223372036854775808 ≤ n ∧ n ≤ 9223372036854775807 := by
  have e1 : IntKind.i64.min = -9223372036854775808 := by decide
  have e2 : IntKind.i64.max = 9223372036854775807 := by decide
  simp only [Lit.wf, Bool.and_eq_true, decide_eq_true_eq, e1, e2] at h
  exact h
theorem dict_room (n : Int) : (∃ room : Nat, n = room ∧ room ≤ 1000 ∧ dictH [] n = ([dcell [] room], dicO (0 : Nat), 0)) ∨ dictH [] n = ([], O.nil, 2) := by
  by_cases h : n < 0 ∨ 1000 < n
  · right; unfold dictH; rw [if_pos h]
  · left
    obtain ⟨room, rfl⟩ := Int.eq_ofNat_of_zero_le (show 0 ≤ n by omega)
    exact ⟨room, rfl, by omega, dict_new [] room (by simp) (by omega) (by simp [used]; omega)⟩
/-- Behind key: two boxes more. -/
def KP2 (w9 : World) (a : O) (x : Int) (v13 v14 : Value) (W : World) : Prop :=
  ∃ p q, v13 = ptr p ∧ v14 = ptr q ∧ p ≠ q ∧ w9.heap.size ≤ p ∧ w9.heap.size ≤ q ∧ Chg NoB w9 W ∧ W.heap[p]? = some (Obj.cells #[.int .i64 a.kind, .bool a.exec, .int .i64 a.n, .int .i64 a.pos, .int .i64 a.len, .string a.s] 24) ∧ W.heap[q]? = some (Obj.cells #[.int .i64 3, .bool false, .int .i64 x, .int .i64 0, .int .i64 0, .string ⟨#[]⟩] 24)
/-- What DictPlays's loop holds. -/
def DPI (w0 : World) (hp gp : Nat) (room : Nat) (KB : List (Nat × Obj)) (m : Nat) (W : World) : Prop :=
  ∃ (J0 : List (Nat × Obj)) (ps : List (O × O)), ps.length ≤ m ∧ ps.length ≤ room ∧ GoodP room ps ∧ TS J0 w0 hp gp [] KB [dcell ps room] [dcell ps room] W
set_option maxRecDepth 100000 in
set_option maxHeartbeats 40000000 in
theorem dictPlays_any (rm : Int) (va : Value) (l : List De) (w : World) (hrm : -9223372036854775808 ≤ rm ∧ rm ≤ 9223372036854775807) (hin : DesIn w va l) :
    Calls Try.prog 4 #[.int .i64 rm, va] w fun e w' => e = .returned (.bool true) ∧ Chg NoB w w' := by
  obtain ⟨hsl, hlen, hok⟩ := hin
  have HOK := hid' hok
  have HSL := hid' hsl
  obtain ⟨a, c, rfl, hac, hcells⟩ := hsl
  have HKN := hid' (fun W => known12_any W)
  have A0 : Ats w w [] [] := Ats.start (Chg.refl NoB w)
  have hl1 : (l.length : Int) ≤ 9223372036854775807 := by unfold maxLen at hlen; omega
  clear hok hcells
  by_cases h40 : 40 < l.length
  · have h40' : (40 : Int) < l.length := by omega
    generalize l.length = n at *
    go_enter Try.func4, Try.ntmps4
    go_wp2_with fail
    refine (HKN.out _).mono ?_
    rintro r w1 ⟨rfl, X1⟩
    go_wp2_with fail
    go_ret
    exact ⟨rfl, X1⟩
  have h40' : ¬ (40 : Int) < l.length := by omega
  obtain ⟨n, hn⟩ : ∃ n, l.length = n := ⟨_, rfl⟩
  have HN := hid' hn
  rw [hn] at HSL hac hlen hl1 h40 h40' ⊢
  clear hn
  rcases dict_room rm with ⟨room, rfl, hr, hd⟩ | hd
  rotate_left
  · rw [show O.nil = ⟨0, false, 0, 0, 0, ⟨#[]⟩⟩ from rfl] at hd
    have qe : eqO (⟨0, false, 0, 0, 0, ⟨#[]⟩⟩ : O) ⟨0, false, 0, 0, 0, ⟨#[]⟩⟩ = true := eqO_self _
    go_enter Try.func4, Try.ntmps4
    go_wp2_with fail
    refine (HKN.out _).mono ?_
    rintro r w1 ⟨rfl, X1⟩
    have A1 := A0.pure X1
    clear A0
    go_wp2_with fail
    refine (at_hnew A1).mono ?_
    rintro r w2 ⟨hp, rfl, A2⟩
    clear A1
    have A3 := A2.alloc (refBox (.slice none 0 0))
    have T3 : TS [] w hp w2.heap.size [] [] [] [] _ := ⟨_, RefK.new _, A3⟩
    clear A2 A3
    go_wp2_with fail
    refine (T3.doH (fun K A => at_dnew A rm hd)).mono ?_
    rintro r w4 ⟨rfl, T4⟩
    clear T3
    have T5 := T4.alloc (Obj.cells #[.int .i64 0, .bool false, .int .i64 0, .int .i64 0, .int .i64 0, .string ⟨#[]⟩] 24)
    clear T4
    go_wp2_with fail
    refine (ts_rdict rm hd T5).mono ?_
    rintro r w6 ⟨rfl, T6⟩
    have T7 := T6.alloc (Obj.cells #[.int .i64 0, .bool false, .int .i64 0, .int .i64 0, .int .i64 0, .string ⟨#[]⟩] 24)
    clear T5
    (try clear Rd); (try clear yd); (try clear Zd)
    have Rd := cells_of (T6.box _ m0)
    have yd := blk_lt (T6.box _ m0)
    (try simp only at Rd yd)
    go_wp2_with fail
    go_ret
    exact ⟨by simp, T7.chg⟩
  · have hd' : dictH [] (room : Int) = ([dcell [] room], ⟨10, false, 0, 0, 0, ⟨#[]⟩⟩, 0) := hd
    have qe : eqO (⟨10, false, 0, 0, 0, ⟨#[]⟩⟩ : O) ⟨10, false, 0, 0, 0, ⟨#[]⟩⟩ = true := eqO_self _
    clear hd
    go_enter Try.func4, Try.ntmps4
    go_wp2_with fail
    refine (HKN.out _).mono ?_
    rintro r w1 ⟨rfl, X1⟩
    have A1 := A0.pure X1
    clear A0
    go_wp2_with fail
    refine (at_hnew A1).mono ?_
    rintro r w2 ⟨hp, rfl, A2⟩
    clear A1
    have A3 := A2.alloc (refBox (.slice none 0 0))
    have T3 : TS [] w hp w2.heap.size [] [] [] [] _ := ⟨_, RefK.new _, A3⟩
    clear A2 A3
    go_wp2_with fail
    refine (T3.doH (fun K A => at_dnew A _ hd')).mono ?_
    rintro r w4 ⟨rfl, T4⟩
    clear T3
    generalize w2.heap.size = gp at *
    have T5 := T4.alloc (Obj.cells #[.int .i64 10, .bool false, .int .i64 0, .int .i64 0, .int .i64 0, .string ⟨#[]⟩] 24)
    clear T4
    go_wp2_with fail
    refine (ts_rdict _ hd' T5).mono ?_
    rintro r w6 ⟨rfl, T6⟩
    have T7 := T6.alloc (Obj.cells #[.int .i64 10, .bool false, .int .i64 0, .int .i64 0, .int .i64 0, .string ⟨#[]⟩] 24)
    clear T5
    (try clear Rd); (try clear yd); (try clear Zd)
    have Rd := cells_of (T6.box _ m0)
    have yd := blk_lt (T6.box _ m0)
    (try simp only at Rd yd)
    go_upto_region 8 with (fail)
    generalize w4.heap.size = b7 at *
    generalize w6.heap.size = b9 at *
    generalize World.alloc _ _ = w7 at *
    clear T6 Rd yd
    (try clear Rc); (try clear yc); (try clear Zc)
    have Rc := cells_of (T7.box _ m0)
    have yc := blk_lt (T7.box _ m0)
    (try clear Rd); (try clear yd); (try clear Zd)
    have Rd := cells_of (T7.box _ m1)
    have yd := blk_lt (T7.box _ m1)
    (try simp only at Rc yc Rd yd)
    obtain ⟨KA, hKA⟩ : ∃ KA, KA = [(b9, Obj.cells #[.int .i64 10, .bool false, .int .i64 0, .int .i64 0, .int .i64 0, .string ⟨#[]⟩] 24), (b7, Obj.cells #[.int .i64 10, .bool false, .int .i64 0, .int .i64 0, .int .i64 0, .string ⟨#[]⟩] 24)] := ⟨_, rfl⟩
    have md : (b7, Obj.cells #[.int .i64 10, .bool false, .int .i64 0, .int .i64 0, .int .i64 0, .string ⟨#[]⟩] 24) ∈ KA := by rw [hKA]; simp
    have T8 : TS [] w hp gp [] KA [dcell [] room] [dcell [] room] w7 := by rw [hKA]; exact T7
    clear T7 hKA
    go_wp2_with fail
    go_loopw [73] (fun v73 wr => ∃ i : Nat, v73 = .int .i64 i ∧ i ≤ n ∧ DPI w hp gp room KA i wr) (fun v73 _ => n - (intOf v73).toNat)
    case atStart => exact ⟨0, rfl, Nat.zero_le _, [], [], Nat.le_refl _, Nat.zero_le _, fun p hp => by simp at hp, T8⟩
    case round =>
      clear T8 Rc yc Rd yd
      obtain ⟨i, rfl, hi, J0, ps, hps1, hps2, hg, T⟩ := hrel
      by_cases hlt : i < n
      · obtain ⟨t, ht⟩ : ∃ t, l[i]? = some t := ⟨l[i]'(by rw [HN.out]; exact hlt), List.getElem?_eq_getElem _⟩
        have hok := HOK.out t (List.mem_of_getElem? ht)
        obtain ⟨a', c', hv, -, hc⟩ := (HSL.out.pure T.chg : DesAt wr _ l)
        obtain ⟨b, off, rfl, yb, hq⟩ := hc (by rw [HN.out]; omega)
        simp only [Value.slice.injEq] at hv
        obtain ⟨rfl, -, rfl⟩ := hv
        have hq := hq i t ht
        obtain ⟨sw, sk, sv, ⟨ok, ox, on, op, ol, os⟩⟩ := t
        obtain ⟨-, wk, -, eo0⟩ := hok
        have hk2 : sk ≤ 9223372036854775807 := (wf_i64b wk).2
        have q0 := hq 0 (by decide)
        have q1 := hq 1 (by decide)
        have q2 := hq 2 (by decide)
        have q3 := hq 3 (by decide)
        have q4 := hq 4 (by decide)
        have q5 := hq 5 (by decide)
        have q6 := hq 6 (by decide)
        have q7 := hq 7 (by decide)
        have q8 := hq 8 (by decide)
        simp only [De.cells, List.getElem?_cons_zero, List.getElem?_cons_succ, Nat.add_zero] at q0 q1 q2 q3 q4 q5 q6 q7 q8
        simp only [maxLen] at eo0
        have eo : (os.size : Int) ≤ 9223372036854775807 := by omega
        clear hq hc ht wk
        have hlt' : (i : Int) < n := by omega
        have hnc : (n : Int) ≤ c := by omega
        have T1 := T.alloc (Obj.cells #[.int .i64 sw, .int .i64 sk, .int .i64 sv, .int .i64 ok, .bool ox, .int .i64 on, .int .i64 op, .int .i64 ol, .string os] 52)
        go_upto_region 13 with (fail)
        clear q0 q1 q2 q3 q4 q5 q6 q7 q8 yb hnc T
        generalize wr.heap.size = b12 at *
        generalize World.alloc _ _ = w5 at *
        obtain ⟨KB, hKB⟩ : ∃ KB, KB = (b12, Obj.cells #[.int .i64 sw, .int .i64 sk, .int .i64 sv, .int .i64 ok, .bool ox, .int .i64 on, .int .i64 op, .int .i64 ol, .string os] 52) :: KA := ⟨_, rfl⟩
        rw [← hKB] at T1
        have ms : (b12, Obj.cells #[.int .i64 sw, .int .i64 sk, .int .i64 sv, .int .i64 ok, .bool ox, .int .i64 on, .int .i64 op, .int .i64 ol, .string os] 52) ∈ KB := by rw [hKB]; simp
        have md2 : (b7, Obj.cells #[.int .i64 10, .bool false, .int .i64 0, .int .i64 0, .int .i64 0, .string ⟨#[]⟩] 24) ∈ KB := by rw [hKB]; simp [md]
        have HKB := hid' hKB
        clear hKB
        (try clear Rs); (try clear ys); (try clear Zs)
        have Rs := cells_of (T1.box _ ms)
        have ys := blk_lt (T1.box _ ms)
        (try simp only at Rs ys)
        by_cases h2 : 300 < os.size
        · have h2' : (300 : Int) < os.size := by omega
          go_wp2_with fail
          go_ret
          exact ⟨rfl, T1.chg⟩
        have h2' : ¬ (300 : Int) < os.size := by omega
        obtain ⟨⟨uk, ux, un, up, ul, us⟩, hkf⟩ : ∃ p, keyF sk ⟨ok, ox, on, op, ol, os⟩ = p := ⟨_, rfl⟩
        have HKA := hid' (fun W => key_any sk ⟨ok, ox, on, op, ol, os⟩ (by omega) W)
        rw [hkf] at HKA
        have Q5 := Chg.cells (S := NoB) (T1.box _ ms) id
        clear hkf h2
        go_upto_region 15 with (fail)
        go_cut [13, 14] (fun s13 s14 wx => KP2 w5 ⟨uk, ux, un, up, ul, us⟩ sv s13 s14 wx)
        case first =>
          have X5 := Chg.refl NoB w5
          clear Rs ys
          go_region_held3 (fun w' => Chg NoB w5 w') (first | (with_reducible assumption) | (repeat' (first | (with_reducible assumption) | (with_reducible refine Chg.drew ?_) | (with_reducible refine Chg.alloc ?_ _) | (with_reducible refine Chg.setCell ?_ (Or.inr ?_) _) | omega | (dsimp only; omega))))
            (first
              | (go_at_call 26; with_reducible refine (HKA.out _).mono ?_; rintro r w6 ⟨rfl, X6⟩; have X56 : Chg NoB w5 w6 := Chg.pure (by with_reducible assumption) X6; have s6 := X56.size; (try (have bp := X6.blk (b := w5.heap.size) (x := Obj.cells #[.int .i64 0, .bool false, .int .i64 0, .int .i64 0, .int .i64 0, .string ⟨#[]⟩] 24) (by with_reducible first | exact blk_new w5 _ | exact blk_drew (blk_new w5 _) | exact blk_alloc (blk_new w5 _) _ | exact blk_drew (blk_alloc (blk_new w5 _) _)) id; have yp := blk_lt bp; have Rp := cells_of bp; have Zp := free_of bp)); (try (have bq := X6.blk (b := w5.heap.size + 1) (x := Obj.cells #[.int .i64 0, .bool false, .int .i64 0, .int .i64 0, .int .i64 0, .string ⟨#[]⟩] 24) (by with_reducible first | exact blk_new1 w5 _ _ | exact blk_drew (blk_new1 w5 _ _)) id; have yq := blk_lt bq; have Rq := cells_of bq; have Zq := free_of bq))))
          all_goals
            go_wp2_with fail
            go_meet
          · clear HSL HKN HKA HKB
            refine ⟨_, _, rfl, rfl, by omega, by omega, by omega, by with_reducible assumption, ?_, ?_⟩
            · exact (blk_alloc (blk_new _ _) _)
            · exact (blk_new1 _ _ _)
          · clear HSL HKN HKA HKB
            refine ⟨_, _, rfl, rfl, by omega, by omega, by omega, by with_reducible assumption, ?_, ?_⟩
            · exact (blk_new1 _ _ _)
            · exact (blk_alloc (blk_new _ _) _)
          · clear HSL HKN HKA HKB
            refine ⟨_, _, rfl, rfl, by omega, by omega, by omega, by with_reducible assumption, ?_, ?_⟩
            · exact (blk_alloc (six_blk bp _ _ _ _ _ _) _)
            · exact (six_new _ _ _ _ _ _ _)
          · clear HSL HKN HKA HKB
            refine ⟨_, _, rfl, rfl, by omega, by omega, by omega, by with_reducible assumption, ?_, ?_⟩
            · exact (six_other (six_blk bp _ _ _ _ _ _) (by omega) _ _ _ _ _ _)
            · exact (six_blk (six_other bq (by omega) _ _ _ _ _ _) _ _ _ _ _ _)
          · clear HSL HKN HKA HKB
            refine ⟨_, _, rfl, rfl, by omega, by omega, by omega, by with_reducible assumption, ?_, ?_⟩
            · exact (six_new _ _ _ _ _ _ _)
            · exact (blk_alloc (six_blk bp _ _ _ _ _ _) _)
          · clear HSL HKN HKA HKB
            refine ⟨_, _, rfl, rfl, by omega, by omega, by omega, by with_reducible assumption, ?_, ?_⟩
            · exact (six_other (six_blk bq _ _ _ _ _ _) (by omega) _ _ _ _ _ _)
            · exact (six_blk (six_other bp (by omega) _ _ _ _ _ _) _ _ _ _ _ _)
        case rest =>
          clear HKA Q5 Rs ys
          obtain ⟨p, q, rfl, rfl, hpq, hp1, hq1, X, bp, bq⟩ := hcut
          have T3 := T1.got2 X bp hp1 bq hq1 hpq
          clear X bp bq hp1 hq1 hpq T1
          obtain ⟨KC, hKC⟩ : ∃ KC, KC = (p, Obj.cells #[.int .i64 uk, .bool ux, .int .i64 un, .int .i64 up, .int .i64 ul, .string us] 24) :: (q, Obj.cells #[.int .i64 3, .bool false, .int .i64 sv, .int .i64 0, .int .i64 0, .string ⟨#[]⟩] 24) :: KB := ⟨_, rfl⟩
          have T4 : TS J0 w hp gp [] KC [dcell ps room] [dcell ps room] wc := by rw [hKC]; exact T3
          have mp : (p, Obj.cells #[.int .i64 uk, .bool ux, .int .i64 un, .int .i64 up, .int .i64 ul, .string us] 24) ∈ KC := by rw [hKC]; simp
          have mq : (q, Obj.cells #[.int .i64 3, .bool false, .int .i64 sv, .int .i64 0, .int .i64 0, .string ⟨#[]⟩] 24) ∈ KC := by rw [hKC]; simp
          have ms3 : (b12, Obj.cells #[.int .i64 sw, .int .i64 sk, .int .i64 sv, .int .i64 ok, .bool ox, .int .i64 on, .int .i64 op, .int .i64 ol, .string os] 52) ∈ KC := by rw [hKC]; simp [ms]
          have md3 : (b7, Obj.cells #[.int .i64 10, .bool false, .int .i64 0, .int .i64 0, .int .i64 0, .string ⟨#[]⟩] 24) ∈ KC := by rw [hKC]; simp [md2]
          have hsub : KA.Sublist KC := by rw [hKC, HKB.out]; exact ((List.sublist_cons_self _ _).trans (List.sublist_cons_self _ _)).trans (List.sublist_cons_self _ _)
          clear hKC T3 ms md2
          generalize wc = w8 at *
          obtain ⟨⟨dk, dx, dn, dp, dl, ds⟩, e, hke⟩ : ∃ key e, keyD [dcell ps room] ⟨uk, ux, un, up, ul, us⟩ = (key, e) := ⟨_, _, rfl⟩
          have HK1 := hid' (fun W K' (T : TS J0 w hp gp [] K' [dcell ps room] [dcell ps room] W) => T.doH fun _ A => at_dkey A _ hke (List.mem_cons_self ..))
          have HK2 := hid' (fun W K' (T : TS J0 w hp gp [] K' [dcell ps room] [dcell ps room] W) => T.ask fun E H A => rkey_any H A (fun q hq => List.mem_append_left _ hq) _ hke)
          have qe : eqO (⟨dk, dx, dn, dp, dl, ds⟩ : O) ⟨dk, dx, dn, dp, dl, ds⟩ = true := eqO_self _
          clear hke
          (try clear Rp); (try clear yp); (try clear Zp)
          have Rp := cells_of (T4.box _ mp)
          have yp := blk_lt (T4.box _ mp)
          (try simp only at Rp yp)
          go_wp2_with fail
          refine (HK1.out _ _ T4).mono ?_
          rintro r w9 ⟨rfl, T5⟩
          have T5a := T5.alloc (Obj.cells #[.int .i64 dk, .bool dx, .int .i64 dn, .int .i64 dp, .int .i64 dl, .string ds] 24)
          (try clear Rp); (try clear yp); (try clear Zp)
          have Rp := cells_of (T5.box _ mp)
          have yp := blk_lt (T5.box _ mp)
          (try simp only at Rp yp)
          go_wp2_with fail
          refine (HK2.out _ _ T5a).mono ?_
          rintro r w10 ⟨rfl, T6⟩
          clear T4 T5 T5a
          (try clear Rd); (try clear yd); (try clear Zd)
          have Rd := cells_of (T6.box _ m0)
          have yd := blk_lt (T6.box _ m0)
          (try simp only at Rd yd)
          have T7 := (T6.alloc (Obj.cells #[.int .i64 dk, .bool dx, .int .i64 dn, .int .i64 dp, .int .i64 dl, .string ds] 24)).keep ((List.sublist_cons_self _ _).trans (List.sublist_cons_self _ _))
          go_upto_region 20 with (fail)
          generalize World.alloc _ _ = w11 at *
          clear T6 Rd yd Rp yp
          (try clear Rs); (try clear ys); (try clear Zs)
          have Rs := cells_of (T7.box _ ms3)
          have ys := blk_lt (T7.box _ ms3)
          (try clear Rp); (try clear yp); (try clear Zp)
          have Rp := cells_of (T7.box _ mp)
          have yp := blk_lt (T7.box _ mp)
          (try clear Rq); (try clear yq); (try clear Zq)
          have Rq := cells_of (T7.box _ mq)
          have yq := blk_lt (T7.box _ mq)
          (try clear Rd); (try clear yd); (try clear Zd)
          have Rd := cells_of (T7.box _ md3)
          have yd := blk_lt (T7.box _ md3)
          (try simp only at Rs ys Rp yp Rq yq Rd yd)
          go_upto_block 2 with (fail)
          go_cut [14] (fun s14 wx => s14 = ptr q ∧ DPI w hp gp room KC (i + 1) wx)
          case first =>
            have HT := hid' T7
            have QP := TX.cells (J0 := J0) (w0 := w) (hp := hp) (gp := gp) (M := []) mp
            have QQ := TX.cells (J0 := J0) (w0 := w) (hp := hp) (gp := gp) (M := []) mq
            have QD := TX.cells (J0 := J0) (w0 := w) (hp := hp) (gp := gp) (M := []) md3
            by_cases g0 : sw = 0
            · subst g0
              obtain ⟨ps', e', l1, l2, l3, HA0, HB0⟩ := dset_both (J0 := J0) (w0 := w) (hp := hp) (gp := gp) (M := []) ps room hps2 hr (by omega) hg ⟨uk, ux, un, up, ul, us⟩ (numO sv)
              have HA := hid' HA0
              have HB := hid' HB0
              clear HA0 HB0
              go_upto_region 22 with (fail)
              have hS1 := TX.of T7
              clear T7 Rs ys Rp yp Rq yq Rd yd
              go_region_held3 (fun W' => TX J0 w hp gp [] KC W') (first | (with_reducible assumption) | (with_reducible exact TX.drew (by with_reducible assumption)) | (with_reducible exact TX.of T8) | (with_reducible exact TX.of T9))
                (first
                  | (go_at_call 29; refine (HA.out _ _ _ (by first | with_reducible exact HT.out | with_reducible exact HT.out.drew)).mono ?_; rintro r w5 ⟨rfl, T8⟩)
                  | (go_at_call 30; refine (HB.out _ _ _ (by first | with_reducible exact T8 | with_reducible exact T8.drew)).mono ?_; rintro r w6 ⟨rfl, T9⟩))
              go_wp2_with fail
              go_meet
              exact ⟨rfl, J0, ps', by omega, l2, l3, T9⟩
            have g0' : (sw == 0) = false := by simpa using g0
            by_cases g1 : sw = 1
            · subst g1
              obtain ⟨ps', e', l1, l2, l3, HA0, HB0⟩ := ddrop_both (J0 := J0) (w0 := w) (hp := hp) (gp := gp) (M := []) ps room hps2 hr (by omega) hg ⟨uk, ux, un, up, ul, us⟩
              have HA := hid' HA0
              have HB := hid' HB0
              clear HA0 HB0
              go_upto_region 25 with (fail)
              have hS1 := TX.of T7
              clear T7 Rs ys Rp yp Rq yq Rd yd
              go_region_held3 (fun W' => TX J0 w hp gp [] KC W') (first | (with_reducible assumption) | (with_reducible exact TX.drew (by with_reducible assumption)) | (with_reducible exact TX.of T8) | (with_reducible exact TX.of T9))
                (first
                  | (go_at_call 31; refine (HA.out _ _ _ (by first | with_reducible exact HT.out | with_reducible exact HT.out.drew)).mono ?_; rintro r w5 ⟨rfl, T8⟩)
                  | (go_at_call 32; refine (HB.out _ _ _ (by first | with_reducible exact T8 | with_reducible exact T8.drew)).mono ?_; rintro r w6 ⟨rfl, T9⟩))
              go_wp2_with fail
              go_meet
              exact ⟨rfl, J0, ps', by omega, l2, l3, T9⟩
            have g1' : (sw == 1) = false := by simpa using g1
            clear QP QQ QD
            go_wp2_with fail
            go_meet
            exact ⟨rfl, J0, ps, by omega, hps2, hg, T7⟩
          case rest =>
            clear T7 Rs ys Rp yp Rq yq Rd yd hg hps1 hps2 HK1 HK2
            obtain ⟨rfl, J0, ps, hps1, hps2, hg, T8⟩ := hcut
            obtain ⟨⟨vk, vx, vn, vp, vl, vs⟩, f, HA0, HB0⟩ := dget_both (J0 := J0) (w0 := w) (hp := hp) (gp := gp) (M := []) ps room hps2 hr (by omega) ⟨uk, ux, un, up, ul, us⟩
            have HA := hid' HA0
            have HB := hid' HB0
            have D := one_dic ps room hps2 hr
            have H3 := hid' (fun W K' (T : TS J0 w hp gp [] K' [dcell ps room] [dcell ps room] W) => (show Calls Try.prog 35 #[ptr hp, (dicO (0 : Nat)).val] W fun r w' => ∃ v, r = .returned (.tuple #[v, .int .i64 0]) ∧ ∃ R, RowB R v (2 * ps.length) (pairsL ps) ∧ (∃ a c, v = .slice a (2 * ps.length) c) ∧ TS J0 w hp gp [] (R ++ K') [dcell ps room] [dcell ps room] w' from by
              obtain ⟨E, H, A⟩ := T
              refine (at_dpairsB A (List.mem_cons_self ..) 0 ps room D hps2 hr).mono ?_
              rintro r w' ⟨v, h1, R, h2, h3, A'⟩
              exact ⟨v, h1, R, h2, h3, E, H, A'.perm (by
                classical refine List.perm_iff_count.2 fun q => ?_
                simp only [List.count_append]
                omega)⟩))
            have H4 := hid' (fun W K' (T : TS J0 w hp gp [] K' [dcell ps room] [dcell ps room] W) => (show Calls Try.prog 36 #[ptr gp, (dicO (0 : Nat)).val] W fun r w' => ∃ v, r = .returned (.tuple #[v, .int .i64 0]) ∧ ∃ R, RowB R v (2 * ps.length) (pairsL ps) ∧ (∃ a c, v = .slice a (2 * ps.length) c) ∧ TS J0 w hp gp [] (R ++ K') [dcell ps room] [dcell ps room] w' from by
              obtain ⟨E, H, A⟩ := T
              refine (rpairs12_any H A (fun q hq => List.mem_append_left _ hq) 0 ps room D hps2 hr).mono ?_
              rintro r w' ⟨v, h1, R, h2, h3, A'⟩
              exact ⟨v, h1, R, h2, h3, E, H, A'.perm (by
                classical refine List.perm_iff_count.2 fun q => ?_
                simp only [List.count_append]
                omega)⟩))
            have H5 := hid' (fun W K' (T : TS J0 w hp gp [] K' [dcell ps room] [dcell ps room] W) => T.doH fun _ A => at_dlen A (List.mem_cons_self ..) 0 ps room D hps2 hr)
            have H6 := hid' (fun W K' (T : TS J0 w hp gp [] K' [dcell ps room] [dcell ps room] W) => T.doH fun _ A => at_droom A (List.mem_cons_self ..) 0 ps room D hps2 hr)
            have qe : eqO (⟨vk, vx, vn, vp, vl, vs⟩ : O) ⟨vk, vx, vn, vp, vl, vs⟩ = true := eqO_self _
            have hpl : (pairsL ps).length = 2 * ps.length := pairs_length ps
            have HPL := hid' hpl
            have HG := hid' hg
            have HP1 := hid' hps1
            have HP2 := hid' hps2
            have hn9 : (ps.length : Int) ≤ 1000 := by omega
            clear HA0 HB0 D hpl hg hps1 hps2 qe
            have qe : eqO (⟨vk, vx, vn, vp, vl, vs⟩ : O) ⟨vk, vx, vn, vp, vl, vs⟩ = true := eqO_self _
            obtain ⟨np, hnp⟩ : ∃ np, ps.length = np := ⟨_, rfl⟩
            rw [hnp] at H3 H4 H5 HPL hn9
            have HNP := hid' hnp
            clear hnp
            generalize wc = w12 at *
            (try clear Rp); (try clear yp); (try clear Zp)
            have Rp := cells_of (T8.box _ mp)
            have yp := blk_lt (T8.box _ mp)
            (try clear Rd); (try clear yd); (try clear Zd)
            have Rd := cells_of (T8.box _ md3)
            have yd := blk_lt (T8.box _ md3)
            (try simp only at Rp yp Rd yd)
            go_wp2_with fail
            refine (HA.out _ _ _ T8).mono ?_
            rintro r w13 ⟨rfl, T9⟩
            have T9a := T9.alloc (Obj.cells #[.int .i64 vk, .bool vx, .int .i64 vn, .int .i64 vp, .int .i64 vl, .string vs] 24)
            (try clear Rp); (try clear yp); (try clear Zp)
            have Rp := cells_of (T9.box _ mp)
            have yp := blk_lt (T9.box _ mp)
            (try clear Rd); (try clear yd); (try clear Zd)
            have Rd := cells_of (T9.box _ md3)
            have yd := blk_lt (T9.box _ md3)
            (try simp only at Rp yp Rd yd)
            go_wp2_with fail
            refine (HB.out _ _ _ T9a).mono ?_
            rintro r w14 ⟨rfl, T10⟩
            have T10a := T10.alloc (Obj.cells #[.int .i64 vk, .bool vx, .int .i64 vn, .int .i64 vp, .int .i64 vl, .string vs] 24)
            (try clear Rp); (try clear yp); (try clear Zp)
            have Rp := cells_of (T10.box _ (List.mem_cons_of_mem _ mp))
            have yp := blk_lt (T10.box _ (List.mem_cons_of_mem _ mp))
            (try clear Rd); (try clear yd); (try clear Zd)
            have Rd := cells_of (T10.box _ (List.mem_cons_of_mem _ md3))
            have yd := blk_lt (T10.box _ (List.mem_cons_of_mem _ md3))
            (try simp only at Rp yp Rd yd)
            go_wp2_with fail
            refine (H3.out _ _ T10a).mono ?_
            rintro r w15 ⟨v1, rfl, R1, hR1, ⟨a1, c1, rfl⟩, T11⟩
            have HR1 := hid' hR1
            generalize w13.heap.size = b19 at *
            generalize w14.heap.size = b21 at *
            clear T8 T9 T9a T10 T10a hR1 Rp yp Rd yd
            (try clear Rd); (try clear yd); (try clear Zd)
            have Rd := cells_of (T11.box _ (List.mem_append_right _ (List.mem_cons_of_mem _ (List.mem_cons_of_mem _ md3))))
            have yd := blk_lt (T11.box _ (List.mem_append_right _ (List.mem_cons_of_mem _ (List.mem_cons_of_mem _ md3))))
            (try simp only at Rd yd)
            go_wp2_with fail
            refine (H4.out _ _ T11).mono ?_
            rintro r w16 ⟨v2, rfl, R2, hR2, ⟨a2, c2, rfl⟩, T12⟩
            have HR2 := hid' hR2
            clear hR2 T11 Rd yd
            obtain ⟨KD, hKD⟩ : ∃ KD, KD = R2 ++ (R1 ++ ((b21, Obj.cells #[.int .i64 vk, .bool vx, .int .i64 vn, .int .i64 vp, .int .i64 vl, .string vs] 24) :: (b19, Obj.cells #[.int .i64 vk, .bool vx, .int .i64 vn, .int .i64 vp, .int .i64 vl, .string vs] 24) :: KC)) := ⟨_, rfl⟩
            rw [← hKD] at T12
            have HKD := hid' hKD
            have m21 : (b21, Obj.cells #[.int .i64 vk, .bool vx, .int .i64 vn, .int .i64 vp, .int .i64 vl, .string vs] 24) ∈ KD := by rw [hKD]; simp
            have m19 : (b19, Obj.cells #[.int .i64 vk, .bool vx, .int .i64 vn, .int .i64 vp, .int .i64 vl, .string vs] 24) ∈ KD := by rw [hKD]; simp
            have md4 : (b7, Obj.cells #[.int .i64 10, .bool false, .int .i64 0, .int .i64 0, .int .i64 0, .string ⟨#[]⟩] 24) ∈ KD := by rw [hKD]; simp [md3]
            clear hKD
            (try clear Rd); (try clear yd); (try clear Zd)
            have Rd := cells_of (T12.box _ md4)
            have yd := blk_lt (T12.box _ md4)
            (try simp only at Rd yd)
            go_wp2_with fail
            refine (H5.out _ _ T12).mono ?_
            rintro r w17 ⟨rfl, T13⟩
            clear T12
            (try clear Rd); (try clear yd); (try clear Zd)
            have Rd := cells_of (T13.box _ md4)
            have yd := blk_lt (T13.box _ md4)
            (try simp only at Rd yd)
            go_wp2_with fail
            refine (H6.out _ _ T13).mono ?_
            rintro r w18 ⟨rfl, T14⟩
            clear T13 Rd yd
            have HSAME := hid' (same_at w18 (.slice a1 (2 * np) c1) (.slice a2 (2 * np) c2) (2 * np) (pairsL ps) HPL.out (by omega) (by have h := HR1.out w18 (fun q hq => T14.box q (by rw [HKD.out]; simp [hq])); exact h) (by have h := HR2.out w18 (fun q hq => T14.box q (by rw [HKD.out]; simp [hq])); exact h))
            (try clear Rq); (try clear yq); (try clear Zq)
            have Rq := cells_of (T14.box _ m21)
            have yq := blk_lt (T14.box _ m21)
            (try clear Rp); (try clear yp); (try clear Zp)
            have Rp := cells_of (T14.box _ m19)
            have yp := blk_lt (T14.box _ m19)
            (try simp only at Rq yq Rp yp)
            have wr1 : IntKind.i64.wrap (2 * (np : Int)) = 2 * np := IntWalk.i64_in _ (by omega)
            go_wp2_with fail
            refine HSAME.out.mono ?_
            rintro r w19 ⟨rfl, X19⟩
            have T15 := T14.pure X19
            go_wp2_with fail
            go_roundw
            case rel =>
              refine ⟨i + 1, by go_num, by omega, J0, ps, HP1.out, HP2.out, HG.out, T15.keep ?_⟩
              rw [HKD.out]
              exact ((hsub.trans (List.sublist_cons_self _ _)).trans (List.sublist_cons_self _ _)).trans ((List.sublist_append_right R1 _).trans (List.sublist_append_right R2 _))
            case measure => simp [intOf]; omega
      · obtain rfl : i = n := by omega
        clear hlt
        have H1 := hid' (fun W K' (T : TS J0 w hp gp [] K' [dcell ps room] [dcell ps room] W) => ts_used rfl T)
        have H2 := hid' (fun W K' (T : TS J0 w hp gp [] K' [dcell ps room] [dcell ps room] W) => ts_rused rfl T)
        generalize used [dcell ps room] = u9 at *
        go_wp2_with fail
        refine (H1.out _ _ T).mono ?_
        rintro r w5 ⟨rfl, T5⟩
        go_wp2_with fail
        refine (H2.out _ _ T5).mono ?_
        rintro r w6 ⟨rfl, T6⟩
        go_wp2_with fail
        go_ret
        exact ⟨by simp, T6.chg⟩
end Go.Proofs.Ythkhdbinkcgpgaa
