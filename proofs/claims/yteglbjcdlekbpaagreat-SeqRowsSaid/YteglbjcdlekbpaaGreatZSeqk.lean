/- Srw, Srz -/
import Derived.Test.YteglbjcdlekbpaaGreatZSeqj
import Derived.Test.YteglbjcdlekbpaaGreatZShell
/- Walk: SeqRows. -/
namespace Go.Proofs.YteglbjcdlekbpaaGreat
open Go.RowKit

theorem op_brk (w : World) : Calls Tryz.prog 12 #[.string ⟨#[93]⟩] w fun r w2 => r = .returned (.tuple #[.int .i64 57, .bool true]) ∧ Chg NoB w w2 := number_hit 56 2 [93] (by decide +kernel) w
theorem op_aload (w : World) : Calls Tryz.prog 12 #[.string ⟨#[97, 108, 111, 97, 100]⟩] w fun r w2 => r = .returned (.tuple #[.int .i64 53, .bool true]) ∧ Chg NoB w w2 := number_hit 52 2 [97, 108, 111, 97, 100] (by decide +kernel) w
theorem op_astore (w : World) : Calls Tryz.prog 12 #[.string ⟨#[97, 115, 116, 111, 114, 101]⟩] w fun r w2 => r = .returned (.tuple #[.int .i64 54, .bool true]) ∧ Chg NoB w w2 := number_hit 53 2 [97, 115, 116, 111, 114, 101] (by decide +kernel) w
abbrev mkO : O := ⟨6, false, 0, 0, 0, ⟨#[]⟩⟩
/-- The states of SeqRows. -/
def srP (xs : List O) (i : Nat) : QX := ([], [], mkO :: xs.take i, mkO :: xs.take i)
def srB (xs : List O) (n : Nat) : Nat → QX
  | 1 => ([rowC xs], [], [arN 0 n], mkO :: xs)
  | 2 => ([rowC xs], [], xs ++ [arN 0 n], mkO :: xs)
  | 3 => ([rowC xs, rowC (List.replicate n nullO)], [], xs ++ [arN 0 n], mkO :: xs)
  | 4 => ([rowC xs, rowC (List.replicate n nullO)], [], xs, mkO :: xs)
  | 5 => ([rowC xs, rowC (List.replicate n nullO)], [], xs ++ [arN 1 n], mkO :: xs)
  | 6 => ([rowC xs, rowC xs], [], [arN 1 n], mkO :: xs)
  | _ => ([], [], [], [])
set_option maxRecDepth 100000 in
set_option maxHeartbeats 2000000 in
theorem seqRows_in (va : Value) (z : List Int) (w : World) (wa : IntsAt w .i16 va z) (hz : z.length ≤ 90) (hX : MaxIs w) :
    Calls Tryz.prog 8 #[va] w fun e w' => e = .returned (.bool true) ∧ Chg NoB w w' := by
  obtain ⟨ad, n, cap, rfl, hzl, hlc, hcm, hwz, hcell⟩ := wa
  obtain ⟨xs, hxs⟩ : ∃ xs, xs = z.map iO := ⟨_, rfl⟩
  have hn : xs.length = n := by rw [hxs]; simp [hzl]
  have hn90 : n ≤ 90 := by omega
  have hxv : ∀ o ∈ xs, ∃ v, o = iO v := fun o ho => by
    rw [hxs] at ho
    obtain ⟨v, -, rfl⟩ := List.mem_map.1 ho
    exact ⟨v, rfl⟩
  have hxm : ∀ o ∈ xs, mayO o = true := fun o ho => by
    rw [hxs] at ho
    obtain ⟨v, hv, rfl⟩ := List.mem_map.1 ho
    have := wf_i16 (hwz v hv)
    simp [mayO, eqO, bareO, O.nil]; omega
  have HXI := hid' (fun (i : Nat) (hi : i < n) => (show ∃ v, xs[i]? = some (iO v) ∧ -32768 ≤ v ∧ v < 32768 ∧ ∃ b off, ad = some ⟨b, off, none⟩ ∧ b < w.heap.size ∧ w.cell? ⟨b, off + i, none⟩ = some (.int .i16 v) by
    have hlt : i < z.length := by omega
    obtain ⟨b, off, h1, h2, h3⟩ := hcell (by omega)
    have hw := wf_i16 (hwz _ (List.getElem_mem hlt))
    refine ⟨z[i], by rw [hxs, List.getElem?_map, List.getElem?_eq_getElem hlt]; rfl, hw.1, hw.2, b, off, h1, h2, ?_⟩
    have := h3 i hi
    rw [List.getD_eq_getElem?_getD, List.getElem?_eq_getElem hlt] at this
    exact this))
  have HKN := hid' (known19_any w hX)
  have C0 : Hid (∀  hp sp gp tp KB W, FQ w hp sp gp tp KB (([], [], [], [])) W → Calls Tryz.prog 32 #[qVal hp sp gp tp, mkO.val] W fun e w' => e = .returned (.bool true) ∧ FQ w hp sp gp tp KB (srP xs 0) w') := hid' (fun  hp sp gp tp KB => FQ.push mkO (by decide +kernel) (by decide) (by decide) rfl)
  have C1 : Hid (∀ (i : Nat) (v : Int) (h : xs[i]? = some (iO v)) hp sp gp tp KB W, FQ w hp sp gp tp KB (srP xs i) W → Calls Tryz.prog 32 #[qVal hp sp gp tp, (iO v).val] W fun e w' => e = .returned (.bool true) ∧ FQ w hp sp gp tp KB (srP xs (i + 1)) w') := hid' (fun i v h hp sp gp tp KB => FQ.push (iO v) (hxm _ (List.mem_of_getElem? h)) (by simp [srP]; omega) (by simp [srP]; omega) (by simp only [srP, List.take_add_one, h, Option.toList_some, List.cons_append]))
  have C2 : Hid (∀  hp sp gp tp KB W, FQ w hp sp gp tp KB (srP xs n) W → Calls Tryz.prog 34 #[qVal hp sp gp tp, .string ⟨#[93]⟩] W fun e w' => e = .returned (.int .i64 0) ∧ FQ w hp sp gp tp KB (srB xs n 1) w') := hid' (fun  hp sp gp tp KB => FQ.doing _ 57 0 true op_brk (L' := [rowC xs]) (l' := [arN 0 n]) (fun w' K' S' => sdo_57 S' (fun w2 S2 => bracket_any (l := []) (xs := xs) (mk := mkO) (L := []) (by have := S2; simp only [srP] at this; rwa [List.take_of_length_le (by omega)] at this) rfl hxv n hn (by decide) (by simp [used]; omega))) (by simp only [srP, srB, List.take_of_length_le (show xs.length ≤ n by omega)]))
  have C3 : Hid (∀  hp sp gp tp KB W, FQ w hp sp gp tp KB (srB xs n 1) W → Calls Tryz.prog 31 #[ptr sp, .int .i64 0] W fun e w' => e = .returned (.tuple #[(arN 0 n).val, .int .i64 0]) ∧ FQ w hp sp gp tp KB (srB xs n 1) w') := hid' (fun  hp sp gp tp KB => FQ.peek 0 0 (arN 0 n) rfl rfl)
  have C4 : Hid (∀  hp sp gp tp KB W, FQ w hp sp gp tp KB (srB xs n 1) W → Calls Tryz.prog 34 #[qVal hp sp gp tp, .string ⟨#[97, 108, 111, 97, 100]⟩] W fun e w' => e = .returned (.int .i64 0) ∧ FQ w hp sp gp tp KB (srB xs n 2) w') := hid' (fun  hp sp gp tp KB => FQ.doing _ 53 0 true op_aload (L' := [rowC xs]) (l' := xs ++ [arN 0 n]) (fun w' K' S' => sdo_53 S' (fun w2 S2 => aload_any (l := []) (xs := xs) (N := 0) (n := n) S2 m0 rfl (by decide) hn hxm (by simp; omega))) rfl)
  have C5 : Hid (∀ hp sp gp tp KB W, FQ w hp sp gp tp KB (srB xs n 2) W → Calls Tryz.prog 20 #[ptr sp] W fun r w' => ∃ g cap cur, r = .returned (.slice (some ⟨g, 0, none⟩) (n + 1) cap) ∧ n + 1 ≤ cap ∧ FQ w hp sp gp tp ((g, .cells cur 38) :: KB) (srB xs n 2) w' ∧ ∀ m o, (xs ++ [arN 0 n])[m]? = some o → ∀ j, j < 6 → cur[m * 6 + j]? = o.cells[j]?) := hid' (fun hp sp gp tp KB => FQ.sitems (by simp [srB]) (n + 1) (by simp [srB, hn]))
  have C6 : Hid (∀  hp sp gp tp KB W, FQ w hp sp gp tp KB (srB xs n 2) W → Calls Tryz.prog 38 #[ptr hp, .int .i64 n] W fun e w' => e = .returned (.tuple #[(arN 1 n).val, .int .i64 0]) ∧ FQ w hp sp gp tp KB (srB xs n 3) w') := hid' (fun  hp sp gp tp KB => FQ.array n (array_a [rowC xs] n (by simp) (by simp [used, C.size]; omega)) rfl)
  have C7 : Hid (∀  hp sp gp tp KB W, FQ w hp sp gp tp KB (srB xs n 3) W → Calls Tryz.prog 39 #[ptr sp] W fun e w' => e = .returned (.tuple #[(arN 0 n).val, .int .i64 0]) ∧ FQ w hp sp gp tp KB (srB xs n 4) w') := hid' (fun  hp sp gp tp KB => FQ.pop xs (arN 0 n) rfl rfl)
  have C8 : Hid (∀  hp sp gp tp KB W, FQ w hp sp gp tp KB (srB xs n 4) W → Calls Tryz.prog 19 #[ptr sp, (arN 1 n).val] W fun e w' => e = .returned (.int .i64 0) ∧ FQ w hp sp gp tp KB (srB xs n 5) w') := hid' (fun  hp sp gp tp KB => FQ.spush (arN 1 n) (mayO_arr _ _ (by omega) (by omega) (by omega) (by omega)) (by simp only [srB]; omega) rfl)
  have C9 : Hid (∀  hp sp gp tp KB W, FQ w hp sp gp tp KB (srB xs n 5) W → Calls Tryz.prog 34 #[qVal hp sp gp tp, .string ⟨#[97, 115, 116, 111, 114, 101]⟩] W fun e w' => e = .returned (.int .i64 0) ∧ FQ w hp sp gp tp KB (srB xs n 6) w') := hid' (fun  hp sp gp tp KB => FQ.doing _ 54 0 true op_astore (L' := [rowC xs, rowC xs]) (l' := [arN 1 n]) (fun w' K' S' => sdo_54 S' (fun w2 S2 => astore_any (l := []) (xs := xs) (N := 1) (n := n) S2 rfl (by decide) hn hxv)) rfl)
  have CA : Hid (∀  hp sp gp tp KB W, FQ w hp sp gp tp KB (srB xs n 6) W → Calls Tryz.prog 31 #[ptr sp, .int .i64 0] W fun e w' => e = .returned (.tuple #[(arN 1 n).val, .int .i64 0]) ∧ FQ w hp sp gp tp KB (srB xs n 6) w') := hid' (fun  hp sp gp tp KB => FQ.peek 0 0 (arN 1 n) rfl rfl)
  have CB : Hid (∀ hp sp gp tp KB W, FQ w hp sp gp tp KB (srB xs n 6) W → Calls Tryz.prog 40 #[ptr hp, (arN 0 n).val] W fun r w' => ∃ R v, r = .returned (.tuple #[v, .int .i64 0]) ∧ RowG 38 6 R v n (xs.flatMap O.cells) ∧ FQ w hp sp gp tp (R ++ KB) (srB xs n 6) w') := hid' (fun hp sp gp tp KB => FQ.hitems (arN 0 n) (items_a (L := [rowC xs, rowC xs]) (N := 0) (is := xs) rfl (by decide) (by omega) n (by rw [hn])) n hn)
  have CC : Hid (∀ hp sp gp tp KB W, FQ w hp sp gp tp KB (srB xs n 6) W → Calls Tryz.prog 40 #[ptr hp, (arN 1 n).val] W fun r w' => ∃ R v, r = .returned (.tuple #[v, .int .i64 0]) ∧ RowG 38 6 R v n (xs.flatMap O.cells) ∧ FQ w hp sp gp tp (R ++ KB) (srB xs n 6) w') := hid' (fun hp sp gp tp KB => FQ.hitems (arN 1 n) (items_a (L := [rowC xs, rowC xs]) (N := 1) (is := xs) rfl (by decide) (by omega) n (by rw [hn])) n hn)
  have CD : Hid (∀  hp sp gp tp KB W, FQ w hp sp gp tp KB (srB xs n 6) W → Calls Tryz.prog 18 #[ptr sp] W fun e w' => e = .returned (.int .i64 1) ∧ FQ w hp sp gp tp KB (srB xs n 6) w') := hid' (fun  hp sp gp tp KB => FQ.len 1 rfl)
  have HND := hid' (fun (hp sp gp tp : Nat) (KB : List (Nat × Obj)) (x : QX) (v : Int) => FQ.num (w0 := w) (hp := hp) (sp := sp) (gp := gp) (tp := tp) (KB := KB) (x := x) v)
  have HN := hid' hn
  have i1 : (n : Int) ≤ 90 := by omega
  have v0 := IntWalk.i64_in ((n : Int) + 1) (by omega)
  have hcapn : (n : Int) ≤ cap := by omega
  clear hX hz hzl hwz hcell hxs hxv hxm hn hn90
  go_enter Tryz.func8, Tryz.ntmps8
  go_wp2_with fail
  refine HKN.out.mono ?_
  rintro r w1 ⟨rfl, X1⟩
  go_wp2_with fail
  refine (FQ.fresh w1 X1).mono ?_
  rintro r w2 ⟨hp, sp, gp, tp, rfl, S1⟩
  have S2 := S1.alloc (qBox hp sp gp tp)
  generalize hg : w2.heap.size = g2 at *
  go_upto_region 6 with (fail)
  generalize hW : w2.alloc _ = w3 at *
  clear hW hg S1 HKN X1
  (try clear Ra); (try clear ya); (try clear Za)
  have Ra := cells_of (S2.box _ m0)
  have ya := blk_lt (S2.box _ m0)
  (try simp only at Ra ya)
  go_wp2_with fail
  refine (C0.out _ _ _ _ _ _ S2).mono ?_
  rintro r w4 ⟨rfl, S3⟩
  clear S2 Ra ya C0
  go_wp2_with fail
  go_loopw [4] (fun cv wr => ∃ i : Nat, i ≤ n ∧ cv = .int .i64 i ∧ FQ w hp sp gp tp [(g2, qBox hp sp gp tp)] (srP xs i) wr) (fun cv _ => n - (intOf cv).toNat)
  case atStart => exact ⟨0, Nat.zero_le _, rfl, S3⟩
  case round =>
    obtain ⟨i, hi, rfl, S4⟩ := hrel
    clear S3
    by_cases hlt : i < n
    · obtain ⟨v, hv, v1, v2, b, off, rfl, hbl, hbc⟩ := HXI.out i hlt
      obtain ⟨KB, hKB⟩ : ∃ KB, KB = [(g2, qBox hp sp gp tp)] := ⟨_, rfl⟩
      have nW : (g2, qBox hp sp gp tp) ∈ KB := by rw [hKB]; exact m0
      rw [← hKB] at S4
      have HKB := hid' hKB
      obtain ⟨f, f0, f1⟩ : ∃ f : Nat → QX, f 0 = srP xs i ∧ f 1 = srP xs (i + 1) := ⟨fun m => if m = 0 then srP xs i else srP xs (i + 1), rfl, rfl⟩
      rw [← f0] at S4
      have QW := FQ.cells (w0 := w) (hp := hp) (sp := sp) (gp := gp) (tp := tp) (f := f) nW
      have QI : ∀ W, (∃ m, FQ w hp sp gp tp KB (f m) W) → W.cell? ⟨b, off + i, none⟩ = some (.int .i16 v) := fun W ⟨m, h⟩ => (FQ.chg h).old hbc
      have HDR := hid' (fun m W (h : FQ w hp sp gp tp KB (f m) W) => h.drew)
      have HNU : Hid (∀ m v W, FQ w hp sp gp tp KB (f m) W → Calls Tryz.prog 33 #[.int .i64 v] W fun e w' => e = .returned (iO v).val ∧ FQ w hp sp gp tp KB (f m) w') := hid' (fun m v => FQ.num v)
      have C1' : Hid (∀ W, FQ w hp sp gp tp KB (f 0) W → Calls Tryz.prog 32 #[qVal hp sp gp tp, (iO v).val] W fun e w' => e = .returned (.bool true) ∧ FQ w hp sp gp tp KB (f 1) w') := hid' (by rw [f0, f1]; exact C1.out i v hv _ _ _ _ _)
      have HF1 := hid' f1
      have hS1 : ∃ m, FQ w hp sp gp tp KB (f m) wr := ⟨_, S4⟩
      have dl : (i : Int) < n := by omega
      have i0 : (0 : Int) ≤ i := by omega
      have v3 := IntWalk.i64_in v (by omega)
      clear f0 f1 nW hKB hv hbc C1 C2 C3 C4 C5 C6 C7 C8 C9 CA CB CC CD HND
      go_upto_region 10 with (fail)
      go_region_held3 (fun W' => ∃ m, FQ w hp sp gp tp KB (f m) W') (first | (with_reducible assumption) | (with_reducible exact ⟨_, by with_reducible assumption⟩) | (with_reducible exact ⟨_, HDR.out _ _ (by with_reducible assumption)⟩))
        (first
          | (go_at_call 33; refine (HNU.out _ _ _ (by first | with_reducible assumption | (with_reducible exact HDR.out _ _ (by with_reducible assumption)))).mono ?_; rintro r w12 ⟨rfl, S12⟩)
          | (go_at_call 32; refine (C1'.out _ (by first | with_reducible assumption | (with_reducible exact HDR.out _ _ (by with_reducible assumption)))).mono ?_; rintro r w14 ⟨rfl, S5⟩))
      rw [HF1.out, HKB.out] at S5
      clear hS1 S4 QW QI
      go_wp2_with fail
      go_roundw
      case rel => exact ⟨i + 1, by omega, by go_num, S5⟩
      case measure => simp [intOf]; omega
    · obtain rfl : n = i := by omega
      clear C1
      (try clear Ra); (try clear ya); (try clear Za)
      have Ra := cells_of (S4.box _ m0)
      have ya := blk_lt (S4.box _ m0)
      (try simp only at Ra ya)
      go_wp2_with fail
      refine (C2.out _ _ _ _ _ _ S4).mono ?_
      rintro r w5 ⟨rfl, S5⟩
      clear S4 Ra ya C2
      (try clear Ra); (try clear ya); (try clear Za)
      have Ra := cells_of (S5.box _ m0)
      have ya := blk_lt (S5.box _ m0)
      (try simp only at Ra ya)
      go_wp2_with fail
      refine (C3.out _ _ _ _ _ _ S5).mono ?_
      rintro r w6 ⟨rfl, S6⟩
      have S7 := S6.alloc (Obj.cells #[.int .i64 9, .bool false, .int .i64 0, .int .i64 0, .int .i64 n, .string ⟨#[]⟩] 38)
      generalize hg : w6.heap.size = g6 at *
      clear S5 Ra ya C3
      (try clear Ra); (try clear ya); (try clear Za)
      have Ra := cells_of (S6.box _ m0)
      have ya := blk_lt (S6.box _ m0)
      (try simp only at Ra ya)
      go_upto_region 13 with (fail)
      generalize hW : w6.alloc _ = w7 at *
      clear hW hg S6 Ra ya
      (try clear Ro); (try clear yo); (try clear Zo)
      have Ro := cells_of (S7.box _ m0)
      have yo := blk_lt (S7.box _ m0)
      (try clear Ra); (try clear ya); (try clear Za)
      have Ra := cells_of (S7.box _ m1)
      have ya := blk_lt (S7.box _ m1)
      (try simp only at Ro yo Ra ya)
      go_wp2_with fail
      refine (C4.out _ _ _ _ _ _ S7).mono ?_
      rintro r w8 ⟨rfl, S8⟩
      clear S7 Ra ya Ro yo C4
      (try clear Ro); (try clear yo); (try clear Zo)
      have Ro := cells_of (S8.box _ m0)
      have yo := blk_lt (S8.box _ m0)
      (try clear Ra); (try clear ya); (try clear Za)
      have Ra := cells_of (S8.box _ m1)
      have ya := blk_lt (S8.box _ m1)
      (try simp only at Ro yo Ra ya)
      go_wp2_with fail
      refine (C5.out _ _ _ _ _ _ S8).mono ?_
      rintro r w9 ⟨ga, ca, cur, rfl, hca, S9, hcur⟩
      clear S8 Ra ya Ro yo C5
      (try clear Rc); (try clear yc); (try clear Zc)
      have Rc := cells_of (S9.box _ m0)
      have yc := blk_lt (S9.box _ m0)
      (try clear Ro); (try clear yo); (try clear Zo)
      have Ro := cells_of (S9.box _ m1)
      have yo := blk_lt (S9.box _ m1)
      (try clear Ra); (try clear ya); (try clear Za)
      have Ra := cells_of (S9.box _ m2)
      have ya := blk_lt (S9.box _ m2)
      (try simp only at Rc yc Ro yo Ra ya)
      have hlast : (xs ++ [arN 0 n])[n]? = some (arN 0 n) := by rw [List.getElem?_append_right (by rw [HN.out]; exact Nat.le_refl _), HN.out, Nat.sub_self]; rfl
      have q0 := hcur n _ hlast 0 (by decide)
      have q1 := hcur n _ hlast 1 (by decide)
      have q2 := hcur n _ hlast 2 (by decide)
      have q3 := hcur n _ hlast 3 (by decide)
      have q4 := hcur n _ hlast 4 (by decide)
      have q5 := hcur n _ hlast 5 (by decide)
      simp only [O.cells, List.getElem?_cons_zero, List.getElem?_cons_succ, Nat.add_zero] at q0 q1 q2 q3 q4 q5
      have qe : eqO ⟨9, false, 0, 0, n, ⟨#[]⟩⟩ ⟨9, false, 0, 0, n, ⟨#[]⟩⟩ = true := eqO_self _
      have n1 : (n : Int) < (n : Int) + 1 := by omega
      have n2 : (0 : Int) ≤ n := by omega
      have n3 : (n : Int) + 1 ≤ ca := by omega
      have HCU := hid' hcur
      clear hlast hcur
      go_upto_region 15 with (fail)
      go_quiet (fail)
      have S10 := S9.pure ((Chg.refl NoB w9).drewN nq)
      generalize w9.drewN nq = w10 at *
      clear S9 Rc yc Ro yo Ra ya q0 q1 q2 q3 q4 q5 n1
      obtain ⟨KB, hKB⟩ : ∃ KB, KB = [(ga, Obj.cells cur 38), (g6, Obj.cells #[.int .i64 9, .bool false, .int .i64 0, .int .i64 0, .int .i64 n, .string ⟨#[]⟩] 38), (g2, qBox hp sp gp tp)] := ⟨_, rfl⟩
      have nA : (ga, Obj.cells cur 38) ∈ KB := by rw [hKB]; exact m0
      have nO : (g6, Obj.cells #[.int .i64 9, .bool false, .int .i64 0, .int .i64 0, .int .i64 n, .string ⟨#[]⟩] 38) ∈ KB := by rw [hKB]; exact m1
      have nW : (g2, qBox hp sp gp tp) ∈ KB := by rw [hKB]; exact m2
      rw [← hKB] at S10
      clear hKB
      go_wp2_with fail
      go_loopw [10] (fun cv wr => ∃ i : Nat, i ≤ n ∧ cv = .int .i64 i ∧ FQ w hp sp gp tp KB (srB xs n 2) wr) (fun cv _ => n - (intOf cv).toNat)
      case atStart => exact ⟨0, Nat.zero_le _, rfl, S10⟩
      case round =>
        obtain ⟨i, hi, rfl, S11⟩ := hrel
        clear S10
        by_cases hlt : i < n
        · obtain ⟨v, hv, v1, v2, b, off, rfl, hbl, hbc⟩ := HXI.out i hlt
          have hvi : (xs ++ [arN 0 n])[i]? = some (iO v) := by rw [List.getElem?_append_left (by rw [HN.out]; exact hlt)]; exact hv
          have q0 := HCU.out i _ hvi 0 (by decide)
          have q1 := HCU.out i _ hvi 1 (by decide)
          have q2 := HCU.out i _ hvi 2 (by decide)
          have q3 := HCU.out i _ hvi 3 (by decide)
          have q4 := HCU.out i _ hvi 4 (by decide)
          have q5 := HCU.out i _ hvi 5 (by decide)
          simp only [O.cells, List.getElem?_cons_zero, List.getElem?_cons_succ, Nat.add_zero] at q0 q1 q2 q3 q4 q5
          obtain ⟨f, f0⟩ : ∃ f : Nat → QX, ∀ m, f m = srB xs n 2 := ⟨fun _ => srB xs n 2, fun _ => rfl⟩
          rw [← f0 0] at S11
          have QA := FQ.cells (w0 := w) (hp := hp) (sp := sp) (gp := gp) (tp := tp) (f := f) nA
          have QI : ∀ W, (∃ m, FQ w hp sp gp tp KB (f m) W) → W.cell? ⟨b, off + i, none⟩ = some (.int .i16 v) := fun W ⟨m, h⟩ => (FQ.chg h).old hbc
          have HDR := hid' (fun m W (h : FQ w hp sp gp tp KB (f m) W) => h.drew)
          have HNU : Hid (∀ m v W, FQ w hp sp gp tp KB (f m) W → Calls Tryz.prog 33 #[.int .i64 v] W fun e w' => e = .returned (iO v).val ∧ FQ w hp sp gp tp KB (f m) w') := hid' (fun m v => FQ.num v)
          have HF0 := hid' (f0 0)
          have hS1 : ∃ m, FQ w hp sp gp tp KB (f m) wr := ⟨_, S11⟩
          have dl : (i : Int) < n := by omega
          have dl2 : (i : Int) < (n : Int) + 1 := by omega
          have i0 : (0 : Int) ≤ i := by omega
          have v3 := IntWalk.i64_in v (by omega)
          have qe2 : eqO ⟨3, false, v, 0, 0, ⟨#[]⟩⟩ ⟨3, false, v, 0, 0, ⟨#[]⟩⟩ = true := eqO_self _
          clear f0 hv hvi hbc C6 C7 C8 C9 CA CB CC CD HND HXI HCU
          go_upto_region 20 with (fail)
          go_region_held3 (fun W' => ∃ m, FQ w hp sp gp tp KB (f m) W') (first | (with_reducible assumption) | (with_reducible exact ⟨_, by with_reducible assumption⟩) | (with_reducible exact ⟨_, HDR.out _ _ (by with_reducible assumption)⟩))
            (first
              | (go_at_call 33; refine (HNU.out _ _ _ (by first | with_reducible assumption | (with_reducible exact HDR.out _ _ (by with_reducible assumption)))).mono ?_; rintro r w12 ⟨rfl, S12⟩))
          have S13 : FQ w hp sp gp tp KB (f 0) _ := (by first | with_reducible assumption | (with_reducible exact HDR.out _ _ (by with_reducible assumption)))
          rw [HF0.out] at S13
          clear hS1 S11 QA QI S12
          go_wp2_with fail
          go_roundw
          case rel => exact ⟨i + 1, by omega, by go_num, S13⟩
          case measure => simp [intOf]; omega
        · obtain rfl : n = i := by omega
          have RW := S11.cells1 nW
          go_wp2_with fail
          refine (C6.out _ _ _ _ _ _ S11).mono ?_
          rintro r w20 ⟨rfl, S12⟩
          have S13 := S12.alloc (Obj.cells #[.int .i64 9, .bool false, .int .i64 1, .int .i64 0, .int .i64 n, .string ⟨#[]⟩] 38)
          generalize hg : w20.heap.size = gx at *
          clear RW S11 C6
          have RW := S12.cells1 nW
          go_upto_region 23 with (fail)
          generalize hW : w20.alloc _ = w21 at *
          clear hW hg S12 RW
          have RW := S13.cells1 (List.mem_cons_of_mem _ nW)
          go_wp2_with fail
          refine (C7.out _ _ _ _ _ _ S13).mono ?_
          rintro r w22 ⟨rfl, S14⟩
          clear S13 RW C7
          have RW := S14.cells1 (List.mem_cons_of_mem _ nW)
          have RX := S14.cells1 m0
          go_wp2_with fail
          refine (C8.out _ _ _ _ _ _ S14).mono ?_
          rintro r w23 ⟨rfl, S15⟩
          clear S14 RW RX C8
          have RW := S15.cells1 (List.mem_cons_of_mem _ nW)
          go_wp2_with fail
          refine (C9.out _ _ _ _ _ _ S15).mono ?_
          rintro r w24 ⟨rfl, S16⟩
          clear S15 RW C9
          have RW := S16.cells1 (List.mem_cons_of_mem _ nW)
          go_wp2_with fail
          refine (CA.out _ _ _ _ _ _ S16).mono ?_
          rintro r w25 ⟨rfl, S17⟩
          have S18 := S17.alloc (Obj.cells #[.int .i64 9, .bool false, .int .i64 1, .int .i64 0, .int .i64 n, .string ⟨#[]⟩] 38)
          generalize hg : w25.heap.size = gy at *
          clear S16 RW CA
          have RW := S17.cells1 (List.mem_cons_of_mem _ nW)
          go_upto_region 27 with (fail)
          generalize hW : w25.alloc _ = w26 at *
          clear hW hg S17 RW
          have RW := S18.cells1 (List.mem_cons_of_mem _ (List.mem_cons_of_mem _ nW))
          have RO := S18.cells1 (List.mem_cons_of_mem _ (List.mem_cons_of_mem _ nO))
          go_wp2_with fail
          refine (CB.out _ _ _ _ _ _ S18).mono ?_
          rintro r w27 ⟨R1, va, rfl, hR1, S19⟩
          obtain ⟨a1, c1, rfl, -⟩ := rowG_slice hR1
          clear S18 RW RO CB
          have RW := S19.cells1 (List.mem_append_right _ (List.mem_cons_of_mem _ (List.mem_cons_of_mem _ nW)))
          have RY := S19.cells1 (List.mem_append_right _ m0)
          go_wp2_with fail
          refine (CC.out _ _ _ _ _ _ S19).mono ?_
          rintro r w28 ⟨R2, vb, rfl, hR2, S20⟩
          obtain ⟨a2, c2, rfl, -⟩ := rowG_slice hR2
          clear S19 RW RY CC
          have RW := S20.cells1 (List.mem_append_right _ (List.mem_append_right _ (List.mem_cons_of_mem _ (List.mem_cons_of_mem _ nW))))
          go_wp2_with fail
          refine (CD.out _ _ _ _ _ _ S20).mono ?_
          rintro r w29 ⟨rfl, S21⟩
          clear S20 RW CD
          have RX := S21.cells1 (List.mem_append_right _ (List.mem_append_right _ m1))
          have RY := S21.cells1 (List.mem_append_right _ (List.mem_append_right _ m0))
          have qe3 : eqO ⟨9, false, 1, 0, n, ⟨#[]⟩⟩ ⟨9, false, 1, 0, n, ⟨#[]⟩⟩ = true := eqO_self _
          have HSM := hid' (same_rows w29 _ _ n xs HN.out (by omega) (RowOf.of hR1 HN.out (fun q hq => S21.box q (List.mem_append_right _ (List.mem_append_left _ hq)))) (RowOf.of hR2 HN.out (fun q hq => S21.box q (List.mem_append_left _ hq))))
          have HX := hid' S21.chg
          clear hR1 hR2 S21 nA nO nW HXI HCU HN HND
          go_wp2_with fail
          refine HSM.out.mono ?_
          rintro r w30 ⟨rfl, X30⟩
          go_wp2_with fail
          go_ret
          exact ⟨rfl, HX.out.pure X30⟩
end Go.Proofs.YteglbjcdlekbpaaGreat
/- Walk: SeqRows, whatever comes. -/
namespace Go.Proofs.YteglbjcdlekbpaaGreat
open Go.RowKit

set_option maxRecDepth 100000 in
theorem seqRows_any (va : Value) (z : List Int) (w : World) (wa : IntsAt w .i16 va z) (hX : MaxIs w) :
    Calls Tryz.prog 8 #[va] w fun e w' => e = .returned (.bool true) ∧ Chg NoB w w' := by
  by_cases hz : z.length ≤ 90
  · exact seqRows_in va z w wa hz hX
  · have HKN := hid' (known19_any w hX)
    obtain ⟨ad, n, cap, rfl, hzl, -⟩ := wa
    have d1 : decide ((90 : Int) < n) = true := by simp; omega
    clear hX hz hzl
    go_enter Tryz.func8, Tryz.ntmps8
    go_wp2_with fail
    refine HKN.out.mono ?_
    rintro r w1 ⟨rfl, X1⟩
    go_wp2_with fail
    go_ret
    exact ⟨rfl, X1⟩
end Go.Proofs.YteglbjcdlekbpaaGreat
