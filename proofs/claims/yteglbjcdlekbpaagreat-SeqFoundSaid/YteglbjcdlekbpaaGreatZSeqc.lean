/- Fda, Fdb, Fdx, Fdz -/
import Derived.Test.YteglbjcdlekbpaaGreatZSeqb
/- Walk: SeqFound, anchored, found. -/
namespace Go.Proofs.YteglbjcdlekbpaaGreat
open Go.RowKit

set_option maxRecDepth 100000 in
set_option maxHeartbeats 2000000 in
theorem seqFound_a0 (a b c : ByteArray) (la : a.size ≤ 100) (lb : b.size ≤ 20) (lc : c.size ≤ 100) (hocc : Lib.occAt (a ++ b ++ c).toList b.toList 0 = true) (w : World) (hX : MaxIs w) :
    Calls Tryz.prog 7 #[.string a, .string b, .string c, .bool true] w fun e w' => e = .returned (.bool true) ∧ Chg NoB w w' := by
  obtain ⟨s, hs⟩ : ∃ s, a ++ b ++ c = s := ⟨_, rfl⟩
  have hsz : s.size = a.size + b.size + c.size := by rw [← hs]; simp [ByteArray.size_append]
  rw [hs] at hocc
  obtain ⟨k, k1, hidx, k2, k3, hcat, hD, hB, hk⟩ := found_plain a b c s hs
  obtain rfl : k = 0 := by
    cases k with
    | zero => rfl
    | succ k => have := k3 0 (by omega); rw [hocc] at this; exact absurd this (by decide)
  rw [Nat.zero_add] at hB
  have b2 := f_bytes s b (by omega) 0 b.size (by omega)
  have b3 := f_bytes s b (by omega) b.size (s.size - b.size) (by omega)
  rw [show 0 + b.size = b.size by omega, hB] at b2
  rw [show b.size + (s.size - b.size) = s.size by omega] at b3
  have e2 : ((s.size - b.size : Nat) : Int) = s.size - b.size := by omega
  rw [e2] at b3
  have p1 := f_part s b (by omega) (0 + b.size) (s.size - 0 - b.size) (by omega) (by omega) (by omega)
  have p2 := f_part s b (by omega) 0 b.size (by omega) (by omega) (by omega)
  have p3 := f_part s b (by omega) 0 0 (by omega) (by omega) (by omega)
  rw [show ((0 : Int) + b.size) = b.size by omega, show ((s.size : Int) - 0 - b.size) = s.size - b.size by omega] at p1
  have m1 := mayO_str 0 b.size (s.size - b.size) false (by omega) (by omega) (by omega) (by omega) (by omega) (by omega)
  have m2 := mayO_str 0 0 b.size false (by omega) (by omega) (by omega) (by omega) (by omega) (by omega)
  generalize hHd : s.extract b.size s.size = Hh at *
  obtain ⟨hb, hhb⟩ : ∃ hb, hb = strN 0 false b.size (s.size - b.size) := ⟨_, rfl⟩
  obtain ⟨ib, hib⟩ : ∃ ib, ib = strN 0 false 0 b.size := ⟨_, rfl⟩
  rw [← hhb] at b3 p1 m1
  have b2 : bytesH (fL s b) ib = (b, 0) := by rw [hib]; exact b2
  rw [← hib] at p2 m2
  have HSE := hid' (fun (hp sp : Nat) (w' : World) (K' : List (Nat × Obj)) (S' : StkAt w w' [(hp, fL s b)] K' sp ([] ++ [strN 0 false 0 s.size, strN 1 false 0 b.size])) =>
    anchor_yes S' m0 hX rfl rfl (f_held s b (by omega) (by omega)) (f_bytess s b (by omega)) (f_bytesb s b (by omega)) (by omega) (by omega) 0 hidx (by omega) (by omega) (by omega) (by rw [show ((0 : Int) + b.size) = b.size by omega, show ((s.size : Int) - 0 - b.size) = s.size - b.size by omega]; exact p1) p2 p3 m1 m2 (by decide))
  have HDO := hid' (fun (hp sp : Nat) (w' : World) (K' : List (Nat × Obj)) (S' : StkAt w w' [(hp, fL s b)] K' sp ([] ++ [strN 0 false 0 s.size, strN 1 false 0 b.size])) => sdo_56 S' (fun w2 S2 => HSE.out hp sp w2 K' S2))
  have HT1 := hid' (fun (hp sp gp tp : Nat) (w' : World) (K' : List (Nat × Obj)) (G : List C) (lt : List O) (S' : SeqAt w w' hp sp gp tp (fL s b) G ([] ++ [hb, ib, bO true]) lt K') => top19_any S' 1 1 ib rfl rfl b 0 b2)
  have HT2 := hid' (fun (hp sp gp tp : Nat) (w' : World) (K' : List (Nat × Obj)) (G : List C) (lt : List O) (S' : SeqAt w w' hp sp gp tp (fL s b) G ([] ++ [hb, ib, bO true]) lt K') => top19_any S' 2 0 hb rfl rfl Hh 0 b3)
  have HPK := hid' (fun (hp sp gp tp : Nat) (w' : World) (K' : List (Nat × Obj)) (G : List C) (lt : List O) (S' : SeqAt w w' hp sp gp tp (fL s b) G ([] ++ [hb, ib, bO true]) lt K') => S'.stk (L' := fL s b) (l' := [] ++ [hb, ib, bO true]) (fun K2 S2 => stk_peek S2 0 2 (bO true) rfl rfl))
  have HLN := hid' (fun (hp sp gp tp : Nat) (w' : World) (K' : List (Nat × Obj)) (G : List C) (lt : List O) (S' : SeqAt w w' hp sp gp tp (fL s b) G ([] ++ [hb, ib, bO true]) lt K') => S'.stk (L' := fL s b) (l' := [] ++ [hb, ib, bO true]) (r := .int .i64 3) (fun K2 S2 => (stk_len S2).mono fun _ _ h => ⟨by rw [h.1]; rfl, h.2 ▸ S2⟩))
  have HBE := hid' (fun w' => begins19_any s b true (by omega) (by omega) hocc w')
  have HKN := hid' (known19_any w hX)
  have HLB := hid' lb
  have i1 : (a.size : Int) ≤ 100 := by omega
  have i2 : (b.size : Int) ≤ 20 := by omega
  have i3 : (c.size : Int) ≤ 100 := by omega
  have i4 : (0 : Int) ≤ b.size := by omega
  have i5 : (b.size : Int) ≤ s.size := by omega
  have hfin := hid' (show (txt s.toList).size = s.size by simp [C.size, ba_len])
  have HL1 := hid' (show s.size ≤ 220 by omega)
  have HHD := hid' hHd
  clear b2 b3 p1 p2 p3 m1 m2 hhb hib hHd e2 HSE hX hidx k1 k2 k3 hk hB hD hcat hocc hsz la lb lc
  go_enter Tryz.func7, Tryz.ntmps7
  go_wp2_with fail
  refine HKN.out.mono ?_
  rintro r w1 ⟨rfl, X1⟩
  go_wp2_with fail
  refine (fresh19_any (Ats.start X1)).mono ?_
  rintro r w2 ⟨hp, sp, gp, tp, rfl, S1⟩
  have S2 := S1.alloc (qBox hp sp gp tp)
  generalize hg : w2.heap.size = g2 at *
  go_upto_region 7 with (fail)
  generalize hW : w2.alloc _ = w3 at *
  clear hW hg S1
  (try clear Ra); (try clear ya); (try clear Za)
  have Ra := cells_of (S2.box _ m0)
  have ya := blk_lt (S2.box _ m0)
  (try simp only at Ra ya)
  go_wp2_with fail
  refine (text19_any S2 s (by decide) (by have := HL1.out; simp [used]; omega) (by decide) (by decide)).mono ?_
  rintro r w4 ⟨rfl, S3⟩
  (try clear Ra); (try clear ya); (try clear Za)
  have Ra := cells_of (S3.box _ m0)
  have ya := blk_lt (S3.box _ m0)
  (try simp only at Ra ya)
  clear S2
  go_wp2_with fail
  refine (text19_any S3 b (by simp) (by have h1 := HL1.out; have h2 := HLB.out; have h3 := hfin.out; simp only [used, List.nil_append, List.map_cons, List.map_nil, List.sum_cons, List.sum_nil]; omega) (by simp) (by simp)).mono ?_
  rintro r w5 ⟨rfl, S4⟩
  have S5 : SeqAt w w5 hp sp gp tp (fL s b) (fL s b) ([] ++ [strN 0 false 0 s.size, strN 1 false 0 b.size]) ([] ++ [strN 0 false 0 s.size, strN 1 false 0 b.size]) [(g2, qBox hp sp gp tp)] := S4
  (try clear Ra); (try clear ya); (try clear Za)
  have Ra := cells_of (S5.box _ m0)
  have ya := blk_lt (S5.box _ m0)
  (try simp only at Ra ya)
  clear S3 S4
  go_wp2_with fail
  refine (do19_any S5 ⟨#[97, 110, 99, 104, 111, 114, 115, 101, 97, 114, 99, 104]⟩ 56 0 true op_anchor (fun w' K' S' => HDO.out hp sp w' K' S')).mono ?_
  rintro r w6 ⟨rfl, S6⟩
  (try clear Ra); (try clear ya); (try clear Za)
  have Ra := cells_of (S6.box _ m0)
  have ya := blk_lt (S6.box _ m0)
  (try simp only at Ra ya)
  clear S5
  go_wp2_with fail
  refine (HPK.out _ _ _ _ _ _ _ _ S6).mono ?_
  rintro r w7 ⟨rfl, S7⟩
  have S8 := S7.alloc (.cells #[.int .i64 2, .bool false, .int .i64 1, .int .i64 0, .int .i64 0, .string ⟨#[]⟩] 38)
  generalize hg : w7.heap.size = g7 at *
  clear S6
  (try clear Ra); (try clear ya); (try clear Za)
  have Ra := cells_of (S7.box _ m0)
  have ya := blk_lt (S7.box _ m0)
  (try simp only at Ra ya)
  go_upto_region 12 with (fail)
  generalize hW : w7.alloc _ = w8 at *
  clear hW hg S7
  (try clear Ra); (try clear ya); (try clear Za)
  have Ra := cells_of (S8.box _ m1)
  have ya := blk_lt (S8.box _ m1)
  (try clear Rx); (try clear yx); (try clear Zx)
  have Rx := cells_of (S8.box _ m0)
  have yx := blk_lt (S8.box _ m0)
  (try simp only at Ra ya Rx yx)
  go_wp2_with fail
  refine (HBE.out _).mono ?_
  rintro r w9 ⟨rfl, rfl⟩
  go_upto_region 13 with (fail)
  obtain ⟨KB, hKB⟩ : ∃ KB, KB = [(g7, Obj.cells #[.int .i64 2, .bool false, .int .i64 1, .int .i64 0, .int .i64 0, .string ⟨#[]⟩] 38), (g2, qBox hp sp gp tp)] := ⟨_, rfl⟩
  have nX : (g7, Obj.cells #[.int .i64 2, .bool false, .int .i64 1, .int .i64 0, .int .i64 0, .string ⟨#[]⟩] 38) ∈ KB := by rw [hKB]; exact m0
  have nW : (g2, qBox hp sp gp tp) ∈ KB := by rw [hKB]; exact m1
  rw [← hKB] at S8
  clear Ra ya Rx yx hKB
  clear HDO HPK
  generalize ([] ++ [hb, ib, bO true] : List O) = lq at *
  generalize ([] ++ [strN 0 false 0 s.size, strN 1 false 0 b.size] : List O) = ltq at *
  have QX := FS.cells (w0 := w) (hp := hp) (sp := sp) (gp := gp) (tp := tp) (L := fL s b) (G := fL s b) (l := lq) (lt := ltq) nX
  have QW := FS.cells (w0 := w) (hp := hp) (sp := sp) (gp := gp) (tp := tp) (L := fL s b) (G := fL s b) (l := lq) (lt := ltq) nW
  have HT1A := hid' (fun W (S' : FS w hp sp gp tp (fL s b) (fL s b) lq ltq KB W) => (HT1.out hp sp gp tp W KB (fL s b) _ S' : Calls Tryz.prog 35 #[qVal hp sp gp tp, .int .i64 1] W fun e w' => e = .returned (.string b) ∧ FS w hp sp gp tp (fL s b) (fL s b) lq ltq KB w'))
  have HT2A := hid' (fun W (S' : FS w hp sp gp tp (fL s b) (fL s b) lq ltq KB W) => (HT2.out hp sp gp tp W KB (fL s b) _ S' : Calls Tryz.prog 35 #[qVal hp sp gp tp, .int .i64 2] W fun e w' => e = .returned (.string Hh) ∧ FS w hp sp gp tp (fL s b) (fL s b) lq ltq KB w'))
  have HLA := hid' (fun W (S' : FS w hp sp gp tp (fL s b) (fL s b) lq ltq KB W) => (HLN.out hp sp gp tp W KB (fL s b) _ S' : Calls Tryz.prog 18 #[ptr sp] W fun e w' => e = .returned (.int .i64 3) ∧ FS w hp sp gp tp (fL s b) (fL s b) lq ltq KB w'))
  have HFIN := hid' (fun W (S' : FS w hp sp gp tp (fL s b) (fL s b) lq ltq KB W) => (SeqAt.chg S' : Chg NoB w W))
  have hS1 : FS w hp sp gp tp (fL s b) (fL s b) lq ltq KB w8 := S8
  have hdr : ∀ W, FS w hp sp gp tp (fL s b) (fL s b) lq ltq KB W → FS w hp sp gp tp (fL s b) (fL s b) lq ltq KB W.drew := fun W h => SeqAt.drew h
  have HDR := hid' hdr
  have HHD2 := HHD.out
  obtain ⟨f, f1, f2⟩ : ∃ f : Int → ByteArray, f 1 = b ∧ f 2 = Hh := ⟨fun i => if i = 1 then b else Hh, rfl, rfl⟩
  have HTP : Hid (∀ (W : World) (i : Int), (i = 1 ∨ i = 2) → FS w hp sp gp tp (fL s b) (fL s b) lq ltq KB W → Calls Tryz.prog 35 #[qVal hp sp gp tp, .int .i64 i] W fun e w' => e = .returned (.string (f i)) ∧ FS w hp sp gp tp (fL s b) (fL s b) lq ltq KB w') := hid' (fun W i hi S' => by
    rcases hi with rfl | rfl
    · rw [f1]; exact HT1A.out W S'
    · rw [f2]; exact HT2A.out W S')
  clear HT1A HT2A HT1 HT2 HHD
  clear S8 nX nW HKN HLN hdr HL1 HLB hfin X1 HBE
  go_region_held3 (fun W' => FS w hp sp gp tp (fL s b) (fL s b) lq ltq KB W') (first | (with_reducible assumption) | (with_reducible exact FS.of S11) | (with_reducible exact HDR.out _ (by with_reducible assumption)))
    (first
      | (go_at_call 18; refine (HLA.out _ (by first | with_reducible assumption | (with_reducible exact HDR.out _ (by with_reducible assumption)))).mono ?_; rintro r w11 ⟨rfl, S11⟩)
      | (go_at_call 35; refine (HTP.out _ _ (by decide) (by first | with_reducible assumption | (with_reducible exact HDR.out _ (by with_reducible assumption)))).mono ?_; rintro r w12 ⟨rfl, S12⟩))
  go_wp2_with fail
  go_ret
  exact ⟨rfl, HFIN.out _ (by first | with_reducible assumption | (with_reducible exact HDR.out _ (by with_reducible assumption)))⟩
end Go.Proofs.YteglbjcdlekbpaaGreat
/- Walk: SeqFound, anchored, not found. -/
namespace Go.Proofs.YteglbjcdlekbpaaGreat
open Go.RowKit

set_option maxRecDepth 100000 in
set_option maxHeartbeats 2000000 in
theorem seqFound_a1 (a b c : ByteArray) (la : a.size ≤ 100) (lb : b.size ≤ 20) (lc : c.size ≤ 100) (hocc : Lib.occAt (a ++ b ++ c).toList b.toList 0 = false) (w : World) (hX : MaxIs w) :
    Calls Tryz.prog 7 #[.string a, .string b, .string c, .bool true] w fun e w' => e = .returned (.bool true) ∧ Chg NoB w w' := by
  obtain ⟨s, hs⟩ : ∃ s, a ++ b ++ c = s := ⟨_, rfl⟩
  have hsz : s.size = a.size + b.size + c.size := by rw [← hs]; simp [ByteArray.size_append]
  rw [hs] at hocc
  obtain ⟨k, k1, hidx, k2, k3, hcat, hD, hB, hk⟩ := found_plain a b c s hs
  have kp : 0 < k := by
    rcases Nat.eq_zero_or_pos k with h | h
    · subst h; rw [hocc] at k2; exact absurd k2 (by decide)
    · exact h
  have b1 := f_bytess s b (by omega)
  have m1 := mayO_str 0 0 s.size false (by omega) (by omega) (by omega) (by omega) (by omega) (by omega)
  obtain ⟨hb, hhb⟩ : ∃ hb, hb = strN 0 false 0 s.size := ⟨_, rfl⟩
  have b1 : bytesH (fL s b) hb = (s, 0) := by rw [hhb]; exact b1
  have HSE := hid' (fun (hp sp : Nat) (w' : World) (K' : List (Nat × Obj)) (S' : StkAt w w' [(hp, fL s b)] K' sp ([] ++ [strN 0 false 0 s.size, strN 1 false 0 b.size])) =>
    search_no S' m0 hX rfl rfl (f_held s b (by omega) (by omega)) (f_bytess s b (by omega)) (f_bytesb s b (by omega)) (by omega) (by omega) k hidx m1 (by decide) 56 (.inr rfl) (.inr ⟨by omega, rfl⟩))
  rw [← hhb] at HSE
  have HDO := hid' (fun (hp sp : Nat) (w' : World) (K' : List (Nat × Obj)) (S' : StkAt w w' [(hp, fL s b)] K' sp ([] ++ [hb, strN 1 false 0 b.size])) => sdo_56 S' (fun w2 S2 => HSE.out hp sp w2 K' S2))
  have HT1 := hid' (fun (hp sp gp tp : Nat) (w' : World) (K' : List (Nat × Obj)) (G : List C) (lt : List O) (S' : SeqAt w w' hp sp gp tp (fL s b) G ([] ++ [hb, bO false]) lt K') => top19_any S' 1 0 hb rfl rfl s 0 b1)
  have HPK := hid' (fun (hp sp gp tp : Nat) (w' : World) (K' : List (Nat × Obj)) (G : List C) (lt : List O) (S' : SeqAt w w' hp sp gp tp (fL s b) G ([] ++ [hb, bO false]) lt K') => S'.stk (L' := fL s b) (l' := [] ++ [hb, bO false]) (fun K2 S2 => stk_peek S2 0 1 (bO false) rfl rfl))
  have HLN := hid' (fun (hp sp gp tp : Nat) (w' : World) (K' : List (Nat × Obj)) (G : List C) (lt : List O) (S' : SeqAt w w' hp sp gp tp (fL s b) G ([] ++ [hb, bO false]) lt K') => S'.stk (L' := fL s b) (l' := [] ++ [hb, bO false]) (r := .int .i64 2) (fun K2 S2 => (stk_len S2).mono fun _ _ h => ⟨by rw [h.1]; rfl, h.2 ▸ S2⟩))
  have HBE := hid' (fun w' => begins19_any s b false (by omega) (by omega) hocc w')
  have HKN := hid' (known19_any w hX)
  have HLB := hid' lb
  have i1 : (a.size : Int) ≤ 100 := by omega
  have i2 : (b.size : Int) ≤ 20 := by omega
  have i3 : (c.size : Int) ≤ 100 := by omega
  have i4 : (0 : Int) ≤ b.size := by omega
  have i5 : (b.size : Int) ≤ s.size := by omega
  have hfin := hid' (show (txt s.toList).size = s.size by simp [C.size, ba_len])
  have HL1 := hid' (show s.size ≤ 220 by omega)
  have HHB := hid' hhb
  clear b1 m1 hhb kp HSE hX hidx k1 k2 k3 hk hB hD hcat hocc hsz la lb lc
  go_enter Tryz.func7, Tryz.ntmps7
  go_wp2_with fail
  refine HKN.out.mono ?_
  rintro r w1 ⟨rfl, X1⟩
  go_wp2_with fail
  refine (fresh19_any (Ats.start X1)).mono ?_
  rintro r w2 ⟨hp, sp, gp, tp, rfl, S1⟩
  have S2 := S1.alloc (qBox hp sp gp tp)
  generalize hg : w2.heap.size = g2 at *
  go_upto_region 7 with (fail)
  generalize hW : w2.alloc _ = w3 at *
  clear hW hg S1
  (try clear Ra); (try clear ya); (try clear Za)
  have Ra := cells_of (S2.box _ m0)
  have ya := blk_lt (S2.box _ m0)
  (try simp only at Ra ya)
  go_wp2_with fail
  refine (text19_any S2 s (by decide) (by have := HL1.out; simp [used]; omega) (by decide) (by decide)).mono ?_
  rintro r w4 ⟨rfl, S3⟩
  (try clear Ra); (try clear ya); (try clear Za)
  have Ra := cells_of (S3.box _ m0)
  have ya := blk_lt (S3.box _ m0)
  (try simp only at Ra ya)
  clear S2
  go_wp2_with fail
  refine (text19_any S3 b (by simp) (by have h1 := HL1.out; have h2 := HLB.out; have h3 := hfin.out; simp only [used, List.nil_append, List.map_cons, List.map_nil, List.sum_cons, List.sum_nil]; omega) (by simp) (by simp)).mono ?_
  rintro r w5 ⟨rfl, S4⟩
  have S5 : SeqAt w w5 hp sp gp tp (fL s b) (fL s b) ([] ++ [strN 0 false 0 s.size, strN 1 false 0 b.size]) ([] ++ [strN 0 false 0 s.size, strN 1 false 0 b.size]) [(g2, qBox hp sp gp tp)] := S4
  have S5 : SeqAt w w5 hp sp gp tp (fL s b) (fL s b) ([] ++ [hb, strN 1 false 0 b.size]) ([] ++ [hb, strN 1 false 0 b.size]) [(g2, qBox hp sp gp tp)] := by rw [HHB.out]; exact S5
  (try clear Ra); (try clear ya); (try clear Za)
  have Ra := cells_of (S5.box _ m0)
  have ya := blk_lt (S5.box _ m0)
  (try simp only at Ra ya)
  clear S3 S4
  go_wp2_with fail
  refine (do19_any S5 ⟨#[97, 110, 99, 104, 111, 114, 115, 101, 97, 114, 99, 104]⟩ 56 0 true op_anchor (fun w' K' S' => HDO.out hp sp w' K' S')).mono ?_
  rintro r w6 ⟨rfl, S6⟩
  (try clear Ra); (try clear ya); (try clear Za)
  have Ra := cells_of (S6.box _ m0)
  have ya := blk_lt (S6.box _ m0)
  (try simp only at Ra ya)
  clear S5
  go_wp2_with fail
  refine (HPK.out _ _ _ _ _ _ _ _ S6).mono ?_
  rintro r w7 ⟨rfl, S7⟩
  have S8 := S7.alloc (.cells #[.int .i64 2, .bool false, .int .i64 0, .int .i64 0, .int .i64 0, .string ⟨#[]⟩] 38)
  generalize hg : w7.heap.size = g7 at *
  clear S6
  (try clear Ra); (try clear ya); (try clear Za)
  have Ra := cells_of (S7.box _ m0)
  have ya := blk_lt (S7.box _ m0)
  (try simp only at Ra ya)
  go_upto_region 12 with (fail)
  generalize hW : w7.alloc _ = w8 at *
  clear hW hg S7
  (try clear Ra); (try clear ya); (try clear Za)
  have Ra := cells_of (S8.box _ m1)
  have ya := blk_lt (S8.box _ m1)
  (try clear Rx); (try clear yx); (try clear Zx)
  have Rx := cells_of (S8.box _ m0)
  have yx := blk_lt (S8.box _ m0)
  (try simp only at Ra ya Rx yx)
  go_wp2_with fail
  refine (HBE.out _).mono ?_
  rintro r w9 ⟨rfl, rfl⟩
  (try clear Ra); (try clear ya); (try clear Za)
  have Ra := cells_of (S8.box _ m1)
  have ya := blk_lt (S8.box _ m1)
  (try clear Rx); (try clear yx); (try clear Zx)
  have Rx := cells_of (S8.box _ m0)
  have yx := blk_lt (S8.box _ m0)
  (try simp only at Ra ya Rx yx)
  go_wp2_with fail
  refine (HLN.out _ _ _ _ _ _ _ _ S8).mono ?_
  rintro r w11 ⟨rfl, S11⟩
  (try clear Ra); (try clear ya); (try clear Za)
  have Ra := cells_of (S11.box _ m1)
  have ya := blk_lt (S11.box _ m1)
  (try clear Rx); (try clear yx); (try clear Zx)
  have Rx := cells_of (S11.box _ m0)
  have yx := blk_lt (S11.box _ m0)
  (try simp only at Ra ya Rx yx)
  have q1 : eqO ⟨2, false, 0, 0, 0, ⟨#[]⟩⟩ ⟨2, false, 0, 0, 0, ⟨#[]⟩⟩ = true := eqO_self _
  go_wp2_with fail
  refine (HT1.out _ _ _ _ _ _ _ _ S11).mono ?_
  rintro r w12 ⟨rfl, S12⟩
  go_wp2_with fail
  go_ret
  exact ⟨rfl, S12.chg⟩
end Go.Proofs.YteglbjcdlekbpaaGreat
/- Walk: SeqFound, search. -/
namespace Go.Proofs.YteglbjcdlekbpaaGreat
open Go.RowKit

set_option maxRecDepth 100000 in
set_option maxHeartbeats 2000000 in
theorem seqFound_no (a b c : ByteArray) (la : a.size ≤ 100) (lb : b.size ≤ 20) (lc : c.size ≤ 100) (w : World) (hX : MaxIs w) :
    Calls Tryz.prog 7 #[.string a, .string b, .string c, .bool false] w fun e w' => e = .returned (.bool true) ∧ Chg NoB w w' := by
  obtain ⟨s, hs⟩ : ∃ s, a ++ b ++ c = s := ⟨_, rfl⟩
  have hsz : s.size = a.size + b.size + c.size := by rw [← hs]; simp [ByteArray.size_append]
  obtain ⟨k, k1, hidx, k2, k3, hcat, hD, hB, hk⟩ := found_plain a b c s hs
  have b1 := f_bytes s b (by omega) 0 k (by omega)
  have b2 := f_bytes s b (by omega) k b.size hk
  have b3 := f_bytes s b (by omega) (k + b.size) (s.size - k - b.size) (by omega)
  rw [hB] at b2
  have e1 : ((k + b.size : Nat) : Int) = k + b.size := by omega
  have e2 : ((s.size - k - b.size : Nat) : Int) = s.size - k - b.size := by omega
  rw [e1, e2] at b3
  have p1 := f_part s b (by omega) (k + b.size) (s.size - k - b.size) (by omega) (by omega) (by omega)
  have p2 := f_part s b (by omega) k b.size (by omega) (by omega) (by omega)
  have p3 := f_part s b (by omega) 0 k (by omega) (by omega) (by omega)
  have m1 := mayO_str 0 (k + b.size) (s.size - k - b.size) false (by omega) (by omega) (by omega) (by omega) (by omega) (by omega)
  have m2 := mayO_str 0 k b.size false (by omega) (by omega) (by omega) (by omega) (by omega) (by omega)
  have m3 := mayO_str 0 0 k false (by omega) (by omega) (by omega) (by omega) (by omega) (by omega)
  generalize hDd : s.extract 0 (0 + k) = D at *
  generalize hHd : s.extract (k + b.size) (k + b.size + (s.size - k - b.size)) = Hh at *
  obtain ⟨hb, hhb⟩ : ∃ hb, hb = strN 0 false (k + b.size) (s.size - k - b.size) := ⟨_, rfl⟩
  obtain ⟨ib, hib⟩ : ∃ ib, ib = strN 0 false k b.size := ⟨_, rfl⟩
  obtain ⟨db, hdb⟩ : ∃ db, db = strN 0 false 0 k := ⟨_, rfl⟩
  rw [← hhb] at b3 p1 m1
  rw [← hib] at b2 p2 m2
  have b1 : bytesH (fL s b) db = (D, 0) := by rw [hdb]; exact b1
  rw [← hdb] at p3 m3
  have HSE := hid' (fun (hp sp : Nat) (w' : World) (K' : List (Nat × Obj)) (S' : StkAt w w' [(hp, fL s b)] K' sp ([] ++ [strN 0 false 0 s.size, strN 1 false 0 b.size])) =>
    search_yes S' m0 hX rfl rfl (f_held s b (by omega) (by omega)) (f_bytess s b (by omega)) (f_bytesb s b (by omega)) (by omega) (by omega) k hidx (by omega) (by omega) p1 p2 p3 m1 m2 m3 (by decide))
  have HDO := hid' (fun (hp sp : Nat) (w' : World) (K' : List (Nat × Obj)) (S' : StkAt w w' [(hp, fL s b)] K' sp ([] ++ [strN 0 false 0 s.size, strN 1 false 0 b.size])) => sdo_55 S' (fun w2 S2 => HSE.out hp sp w2 K' S2))
  have HT1 := hid' (fun (hp sp gp tp : Nat) (w' : World) (K' : List (Nat × Obj)) (G : List C) (lt : List O) (S' : SeqAt w w' hp sp gp tp (fL s b) G ([] ++ [hb, ib, db, bO true]) lt K') => top19_any S' 1 2 db rfl rfl D 0 b1)
  have HT2 := hid' (fun (hp sp gp tp : Nat) (w' : World) (K' : List (Nat × Obj)) (G : List C) (lt : List O) (S' : SeqAt w w' hp sp gp tp (fL s b) G ([] ++ [hb, ib, db, bO true]) lt K') => top19_any S' 2 1 ib rfl rfl b 0 b2)
  have HT3 := hid' (fun (hp sp gp tp : Nat) (w' : World) (K' : List (Nat × Obj)) (G : List C) (lt : List O) (S' : SeqAt w w' hp sp gp tp (fL s b) G ([] ++ [hb, ib, db, bO true]) lt K') => top19_any S' 3 0 hb rfl rfl Hh 0 b3)
  have HPK := hid' (fun (hp sp gp tp : Nat) (w' : World) (K' : List (Nat × Obj)) (G : List C) (lt : List O) (S' : SeqAt w w' hp sp gp tp (fL s b) G ([] ++ [hb, ib, db, bO true]) lt K') => S'.stk (L' := fL s b) (l' := [] ++ [hb, ib, db, bO true]) (fun K2 S2 => stk_peek S2 0 3 (bO true) rfl rfl))
  have HLN := hid' (fun (hp sp gp tp : Nat) (w' : World) (K' : List (Nat × Obj)) (G : List C) (lt : List O) (S' : SeqAt w w' hp sp gp tp (fL s b) G ([] ++ [hb, ib, db, bO true]) lt K') => S'.stk (L' := fL s b) (l' := [] ++ [hb, ib, db, bO true]) (r := .int .i64 4) (fun K2 S2 => (stk_len S2).mono fun _ _ h => ⟨by rw [h.1]; rfl, h.2 ▸ S2⟩))
  have HFI := hid' (fun w' => find19_any s b k (by omega) (by omega) hk k2 k3 w')
  have HKN := hid' (known19_any w hX)
  have HSZ := hid' hsz
  have HLB := hid' lb
  have i1 : (a.size : Int) ≤ 100 := by omega
  have i2 : (b.size : Int) ≤ 20 := by omega
  have i3 : (c.size : Int) ≤ 100 := by omega
  have i4 : (k : Int) ≤ a.size := by omega
  have hHs : D.size + b.size + Hh.size = s.size := by rw [← hcat]; simp [ByteArray.size_append]
  have c1 : ¬ (9223372036854775807 < k + b.size) := by omega
  have c2 : ¬ (9223372036854775807 < k + b.size + Hh.size) := by omega
  clear hHs
  have hfin := hid' (show (txt s.toList).size = s.size by simp [C.size, ba_len])
  have HL1 := hid' (show s.size ≤ 220 by omega)
  clear b1 b2 b3 p1 p2 p3 m1 m2 m3 hhb hib hdb HSE hX hidx k1 k2 k3 hk hB hDd hHd e1 e2 hsz la lb lc
  go_enter Tryz.func7, Tryz.ntmps7
  go_wp2_with fail
  refine HKN.out.mono ?_
  rintro r w1 ⟨rfl, X1⟩
  go_wp2_with fail
  refine (fresh19_any (Ats.start X1)).mono ?_
  rintro r w2 ⟨hp, sp, gp, tp, rfl, S1⟩
  have S2 := S1.alloc (qBox hp sp gp tp)
  generalize hg : w2.heap.size = g2 at *
  go_upto_region 7 with (fail)
  generalize hW : w2.alloc _ = w3 at *
  clear hW hg S1
  (try clear Ra); (try clear ya); (try clear Za)
  have Ra := cells_of (S2.box _ m0)
  have ya := blk_lt (S2.box _ m0)
  (try simp only at Ra ya)
  go_wp2_with fail
  refine (text19_any S2 s (by decide) (by have := HL1.out; simp [used]; omega) (by decide) (by decide)).mono ?_
  rintro r w4 ⟨rfl, S3⟩
  (try clear Ra); (try clear ya); (try clear Za)
  have Ra := cells_of (S3.box _ m0)
  have ya := blk_lt (S3.box _ m0)
  (try simp only at Ra ya)
  clear S2
  go_wp2_with fail
  refine (text19_any S3 b (by simp) (by have h1 := HL1.out; have h2 := HLB.out; have h3 := hfin.out; simp only [used, List.nil_append, List.map_cons, List.map_nil, List.sum_cons, List.sum_nil]; omega) (by simp) (by simp)).mono ?_
  rintro r w5 ⟨rfl, S4⟩
  have S5 : SeqAt w w5 hp sp gp tp (fL s b) (fL s b) ([] ++ [strN 0 false 0 s.size, strN 1 false 0 b.size]) ([] ++ [strN 0 false 0 s.size, strN 1 false 0 b.size]) [(g2, qBox hp sp gp tp)] := S4
  (try clear Ra); (try clear ya); (try clear Za)
  have Ra := cells_of (S5.box _ m0)
  have ya := blk_lt (S5.box _ m0)
  (try simp only at Ra ya)
  clear S3 S4
  go_wp2_with fail
  refine (do19_any S5 ⟨#[115, 101, 97, 114, 99, 104]⟩ 55 0 true op_search (fun w' K' S' => HDO.out hp sp w' K' S')).mono ?_
  rintro r w6 ⟨rfl, S6⟩
  (try clear Ra); (try clear ya); (try clear Za)
  have Ra := cells_of (S6.box _ m0)
  have ya := blk_lt (S6.box _ m0)
  (try simp only at Ra ya)
  clear S5
  go_wp2_with fail
  refine (HPK.out _ _ _ _ _ _ _ _ S6).mono ?_
  rintro r w7 ⟨rfl, S7⟩
  have S8 := S7.alloc (.cells #[.int .i64 2, .bool false, .int .i64 1, .int .i64 0, .int .i64 0, .string ⟨#[]⟩] 38)
  generalize hg : w7.heap.size = g7 at *
  clear S6
  (try clear Ra); (try clear ya); (try clear Za)
  have Ra := cells_of (S7.box _ m0)
  have ya := blk_lt (S7.box _ m0)
  (try simp only at Ra ya)
  go_upto_region 17 with (fail)
  generalize hW : w7.alloc _ = w8 at *
  clear hW hg S7
  (try clear Ra); (try clear ya); (try clear Za)
  have Ra := cells_of (S8.box _ m1)
  have ya := blk_lt (S8.box _ m1)
  (try clear Rx); (try clear yx); (try clear Zx)
  have Rx := cells_of (S8.box _ m0)
  have yx := blk_lt (S8.box _ m0)
  (try simp only at Ra ya Rx yx)
  go_wp2_with fail
  refine (HT1.out _ _ _ _ _ _ _ _ S8).mono ?_
  rintro r w9 ⟨rfl, S9⟩
  go_upto_region 18 with (fail)
  obtain ⟨KB, hKB⟩ : ∃ KB, KB = [(g7, Obj.cells #[.int .i64 2, .bool false, .int .i64 1, .int .i64 0, .int .i64 0, .string ⟨#[]⟩] 38), (g2, qBox hp sp gp tp)] := ⟨_, rfl⟩
  have nX : (g7, Obj.cells #[.int .i64 2, .bool false, .int .i64 1, .int .i64 0, .int .i64 0, .string ⟨#[]⟩] 38) ∈ KB := by rw [hKB]; exact m0
  have nW : (g2, qBox hp sp gp tp) ∈ KB := by rw [hKB]; exact m1
  rw [← hKB] at S9
  clear S8 Ra ya Rx yx hKB
  clear HDO HPK
  generalize ([] ++ [hb, ib, db, bO true] : List O) = lq at *
  generalize ([] ++ [strN 0 false 0 s.size, strN 1 false 0 b.size] : List O) = ltq at *
  have QX := FS.cells (w0 := w) (hp := hp) (sp := sp) (gp := gp) (tp := tp) (L := fL s b) (G := fL s b) (l := lq) (lt := ltq) nX
  have QW := FS.cells (w0 := w) (hp := hp) (sp := sp) (gp := gp) (tp := tp) (L := fL s b) (G := fL s b) (l := lq) (lt := ltq) nW
  have HTA := hid' (fun W (S' : FS w hp sp gp tp (fL s b) (fL s b) lq ltq KB W) => (HT1.out hp sp gp tp W KB (fL s b) _ S' : Calls Tryz.prog 35 #[qVal hp sp gp tp, .int .i64 1] W fun e w' => e = .returned (.string D) ∧ FS w hp sp gp tp (fL s b) (fL s b) lq ltq KB w'))
  have HTB := hid' (fun W (S' : FS w hp sp gp tp (fL s b) (fL s b) lq ltq KB W) => (HT2.out hp sp gp tp W KB (fL s b) _ S' : Calls Tryz.prog 35 #[qVal hp sp gp tp, .int .i64 2] W fun e w' => e = .returned (.string b) ∧ FS w hp sp gp tp (fL s b) (fL s b) lq ltq KB w'))
  have HTC := hid' (fun W (S' : FS w hp sp gp tp (fL s b) (fL s b) lq ltq KB W) => (HT3.out hp sp gp tp W KB (fL s b) _ S' : Calls Tryz.prog 35 #[qVal hp sp gp tp, .int .i64 3] W fun e w' => e = .returned (.string Hh) ∧ FS w hp sp gp tp (fL s b) (fL s b) lq ltq KB w'))
  have HLA := hid' (fun W (S' : FS w hp sp gp tp (fL s b) (fL s b) lq ltq KB W) => (HLN.out hp sp gp tp W KB (fL s b) _ S' : Calls Tryz.prog 18 #[ptr sp] W fun e w' => e = .returned (.int .i64 4) ∧ FS w hp sp gp tp (fL s b) (fL s b) lq ltq KB w'))
  have HFIN := hid' (fun W (S' : FS w hp sp gp tp (fL s b) (fL s b) lq ltq KB W) => (SeqAt.chg S' : Chg NoB w W))
  have hS1 : FS w hp sp gp tp (fL s b) (fL s b) lq ltq KB w9 := S9
  have hdr : ∀ W, FS w hp sp gp tp (fL s b) (fL s b) lq ltq KB W → FS w hp sp gp tp (fL s b) (fL s b) lq ltq KB W.drew := fun W h => SeqAt.drew h
  have HDR := hid' hdr
  have q1 : eqO ⟨2, false, 1, 0, 0, ⟨#[]⟩⟩ ⟨2, false, 1, 0, 0, ⟨#[]⟩⟩ = true := eqO_self _
  have d1 : decide ((k : Int) ≤ a.size) = true := by simpa using i4
  obtain ⟨f, f1, f2, f3⟩ : ∃ f : Int → ByteArray, f 1 = D ∧ f 2 = b ∧ f 3 = Hh := ⟨fun i => if i = 1 then D else if i = 2 then b else Hh, rfl, rfl, rfl⟩
  have HTP : Hid (∀ (W : World) (i : Int), (i = 1 ∨ i = 2 ∨ i = 3) → FS w hp sp gp tp (fL s b) (fL s b) lq ltq KB W → Calls Tryz.prog 35 #[qVal hp sp gp tp, .int .i64 i] W fun e w' => e = .returned (.string (f i)) ∧ FS w hp sp gp tp (fL s b) (fL s b) lq ltq KB w') := hid' (fun W i hi S' => by
    rcases hi with rfl | rfl | rfl
    · rw [f1]; exact HTA.out W S'
    · rw [f2]; exact HTB.out W S'
    · rw [f3]; exact HTC.out W S')
  clear HTA HTB HTC
  clear S9 nX nW HKN HSZ b1 HT1 HT2 HT3 HLN hdr HL1 HLB hfin X1
  go_region_held3 (fun W' => FS w hp sp gp tp (fL s b) (fL s b) lq ltq KB W') (first | (with_reducible assumption) | (with_reducible exact FS.of S11) | (with_reducible exact HDR.out _ (by with_reducible assumption)))
    (first
      | (go_at_call 18; refine (HLA.out _ (by first | with_reducible assumption | (with_reducible exact HDR.out _ (by with_reducible assumption)))).mono ?_; rintro r w11 ⟨rfl, S11⟩)
      | (go_at_call 37; refine (HFI.out _).mono ?_; rintro r w15 ⟨rfl, rfl⟩)
      | (go_at_call 35; refine (HTP.out _ _ (by decide) (by first | with_reducible assumption | (with_reducible exact HDR.out _ (by with_reducible assumption)))).mono ?_; rintro r w12 ⟨rfl, S12⟩))
  go_wp2_with fail
  go_ret
  exact ⟨rfl, HFIN.out _ (by first | with_reducible assumption | (with_reducible exact HDR.out _ (by with_reducible assumption)))⟩
end Go.Proofs.YteglbjcdlekbpaaGreat
/- Walk: SeqFound, whatever comes. -/
namespace Go.Proofs.YteglbjcdlekbpaaGreat
open Go.RowKit

set_option maxRecDepth 100000 in
theorem seqFound_big (a b c : ByteArray) (an : Bool) (h : 100 < a.size ∨ 20 < b.size ∨ 100 < c.size) (w : World) (hX : MaxIs w) :
    Calls Tryz.prog 7 #[.string a, .string b, .string c, .bool an] w fun e w' => e = .returned (.bool true) ∧ Chg NoB w w' := by
  have HKN := hid' (known19_any w hX)
  clear hX
  by_cases h1 : 100 < a.size
  · have d1 : decide ((100 : Int) < a.size) = true := by simp; omega
    clear h h1
    go_enter Tryz.func7, Tryz.ntmps7
    go_wp2_with fail
    refine HKN.out.mono ?_
    rintro r w1 ⟨rfl, X1⟩
    go_wp2_with fail
    go_ret
    exact ⟨rfl, X1⟩
  · have d1 : decide ((100 : Int) < a.size) = false := by simp; omega
    by_cases h2 : 20 < b.size
    · have d2 : decide ((20 : Int) < b.size) = true := by simp; omega
      clear h h1 h2
      go_enter Tryz.func7, Tryz.ntmps7
      go_wp2_with fail
      refine HKN.out.mono ?_
      rintro r w1 ⟨rfl, X1⟩
      go_wp2_with fail
      go_ret
      exact ⟨rfl, X1⟩
    · have d2 : decide ((20 : Int) < b.size) = false := by simp; omega
      have d3 : decide ((100 : Int) < c.size) = true := by simp; omega
      clear h h1 h2
      go_enter Tryz.func7, Tryz.ntmps7
      go_wp2_with fail
      refine HKN.out.mono ?_
      rintro r w1 ⟨rfl, X1⟩
      go_wp2_with fail
      go_ret
      exact ⟨rfl, X1⟩
theorem seqFound_any (a b c : ByteArray) (an : Bool) (_ : a.size ≤ maxLen) (_ : b.size ≤ maxLen) (_ : c.size ≤ maxLen) (w : World) (hX : MaxIs w) :
    Calls Tryz.prog 7 #[.string a, .string b, .string c, .bool an] w fun e w' => e = .returned (.bool true) ∧ Chg NoB w w' := by
  by_cases h : 100 < a.size ∨ 20 < b.size ∨ 100 < c.size
  · exact seqFound_big a b c an h w hX
  · have la : a.size ≤ 100 := by omega
    have lb : b.size ≤ 20 := by omega
    have lc : c.size ≤ 100 := by omega
    cases an with
    | false => exact seqFound_no a b c la lb lc w hX
    | true =>
      cases ho : Lib.occAt (a ++ b ++ c).toList b.toList 0 with
      | true => exact seqFound_a0 a b c la lb lc ho w hX
      | false => exact seqFound_a1 a b c la lb lc ho w hX
end Go.Proofs.YteglbjcdlekbpaaGreat
