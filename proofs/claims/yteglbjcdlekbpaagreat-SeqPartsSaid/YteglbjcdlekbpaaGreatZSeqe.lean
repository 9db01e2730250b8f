/- Paw, Paz -/
import Derived.Test.YteglbjcdlekbpaaGreatZSeqb
import Derived.Test.YteglbjcdlekbpaaGreatZSeqd
/- Walk: SeqParts. -/
namespace Go.Proofs.YteglbjcdlekbpaaGreat
open Go.RowKit

theorem op_get (w : World) : Calls Tryz.prog 12 #[.string ⟨#[103, 101, 116, 105, 110, 116, 101, 114, 118, 97, 108]⟩] w fun r w2 => r = .returned (.tuple #[.int .i64 51, .bool true]) ∧ Chg NoB w w2 := number_hit 50 2 [103, 101, 116, 105, 110, 116, 101, 114, 118, 97, 108] (by decide +kernel) w
theorem op_put (w : World) : Calls Tryz.prog 12 #[.string ⟨#[112, 117, 116, 105, 110, 116, 101, 114, 118, 97, 108]⟩] w fun r w2 => r = .returned (.tuple #[.int .i64 52, .bool true]) ∧ Chg NoB w w2 := number_hit 51 2 [112, 117, 116, 105, 110, 116, 101, 114, 118, 97, 108] (by decide +kernel) w
theorem mayO_int (v : Int) (h0 : -1073741823 ≤ v) (h1 : v ≤ 1073741823) : mayO (iO v) = true := by
  simp [mayO, eqO, bareO, O.nil]; omega
abbrev sO (z : Int) : O := strN 0 false 0 z
/-- The states of SeqParts. -/
def paF (s t : ByteArray) (a m : Int) : Nat → QX
  | 0 => ([txt s.toList], [txt s.toList], [sO s.size], [sO s.size])
  | 1 => ([txt s.toList], [txt s.toList], [sO s.size, sO s.size], [sO s.size, sO s.size])
  | 2 => ([txt s.toList], [txt s.toList], [sO s.size, sO s.size, iO a], [sO s.size, sO s.size, iO a])
  | 3 => ([txt s.toList], [txt s.toList], [sO s.size, sO s.size, iO a, iO m], [sO s.size, sO s.size, iO a, iO m])
  | 4 => ([txt s.toList], [txt s.toList], [sO s.size, strN 0 false a m], [sO s.size, sO s.size, iO a, iO m])
  | 5 => ([txt s.toList], [txt s.toList], [sO s.size, strN 0 false a m, iO 0], [sO s.size, sO s.size, iO a, iO m, iO 0])
  | 6 => (fL s t, fL s t, [sO s.size, strN 0 false a m, iO 0, strN 1 false 0 t.size], [sO s.size, sO s.size, iO a, iO m, iO 0, strN 1 false 0 t.size])
  | 7 => (pL s t a.toNat, fL s t, [sO s.size], [sO s.size, sO s.size, iO a, iO m, iO 0, strN 1 false 0 t.size])
  | _ => ([], [], [], [])
theorem f_held1 (s : ByteArray) (sx : s.size ≤ 40000) (a m : Int) : HeldAll [txt s.toList] [sO s.size, iO a, iO m] := by
  intro x hx hk
  simp only [List.mem_cons, List.not_mem_nil, or_false] at hx
  rcases hx with rfl | rfl | rfl
  · exact may_s (L := [txt s.toList]) (bs := s.toList) (N := 0) rfl (by omega) (by rw [ba_len]; omega) false 0 s.size (by omega) (by omega) (by rw [ba_len]; omega)
  · exact absurd hk (by show ¬ isK 1792 3 = true; decide +kernel)
  · exact absurd hk (by show ¬ isK 1792 3 = true; decide +kernel)
theorem f_held2 (s t : ByteArray) (sx : s.size ≤ 40000) (st : t.size ≤ 40000) (a m : Nat) (h : a + m ≤ s.size) : HeldAll (fL s t) [strN 0 false a m, iO 0, strN 1 false 0 t.size] := by
  intro x hx hk
  simp only [List.mem_cons, List.not_mem_nil, or_false] at hx
  rcases hx with rfl | rfl | rfl
  · exact may_s (L := fL s t) (bs := s.toList) (N := 0) rfl (by omega) (by rw [ba_len]; omega) false a m (by omega) (by omega) (by rw [ba_len]; omega)
  · exact absurd hk (by show ¬ isK 1792 3 = true; decide +kernel)
  · exact may_s (L := fL s t) (bs := t.toList) (N := 1) rfl (by omega) (by rw [ba_len]; omega) false 0 t.size (by omega) (by omega) (by rw [ba_len]; omega)
theorem f_part1 (s : ByteArray) (sx : s.size ≤ 40000) (i n : Int) (hi : 0 ≤ i) (hn : 0 ≤ n) (h : i + n ≤ s.size) : partH [txt s.toList] (sO s.size) i n = (strN 0 false i n, 0) := by
  have := part_s (L := [txt s.toList]) (bs := s.toList) (N := 0) rfl (by omega) (by rw [ba_len]; omega) false 0 s.size i n (by omega) (by omega) (by rw [ba_len]; omega) hi hn h
  rw [Int.zero_add] at this
  exact this
theorem f_bytes1 (s : ByteArray) (sx : s.size ≤ 40000) (p z : Nat) (h : p + z ≤ s.size) : bytesH [txt s.toList] (strN 0 false p z) = (s.extract p (p + z), 0) := by
  have := bytes_s (L := [txt s.toList]) (bs := s.toList) (N := 0) rfl (by omega) (by rw [ba_len]; omega) false p z (by omega) (by omega) (by rw [ba_len]; omega)
  rw [Int.toNat_natCast, Int.toNat_natCast, ba_cut] at this
  exact this
set_option maxRecDepth 100000 in
set_option maxHeartbeats 2000000 in
theorem seqParts_in (s t : ByteArray) (at' n : Int) (ls : s.size ≤ 200) (lt : t.size ≤ 200) (a0 : 0 ≤ at') (a1 : at' ≤ 255) (n0 : 0 ≤ n) (n1 : n ≤ 255) (w : World) (hX : MaxIs w) :
    Calls Tryz.prog 6 #[.string s, .string t, .int .u8 at', .int .u8 n] w fun e w' => e = .returned (.bool true) ∧ Chg NoB w w' := by
  obtain ⟨a, ha⟩ : ∃ a : Nat, at' % ((s.size : Int) + 1) = a := ⟨(at' % ((s.size : Int) + 1)).toNat, by have := Int.emod_nonneg at' (show ((s.size : Int) + 1) ≠ 0 by omega); omega⟩
  have hal : a ≤ s.size := by have := Int.emod_lt_of_pos at' (show (0 : Int) < (s.size : Int) + 1 by omega); omega
  obtain ⟨m, hm⟩ : ∃ m : Nat, n % ((s.size : Int) - a + 1) = m := ⟨(n % ((s.size : Int) - a + 1)).toNat, by have := Int.emod_nonneg n (show ((s.size : Int) - a + 1) ≠ 0 by omega); omega⟩
  have hml : a + m ≤ s.size := by have := Int.emod_lt_of_pos n (show (0 : Int) < (s.size : Int) - a + 1 by omega); omega
  obtain ⟨f, hf⟩ : ∃ f, f = paF s t a m := ⟨_, rfl⟩
  have HKN := hid' (known19_any w hX)
  have hbs := f_bytes1 s (by omega) a m hml
  obtain ⟨pt, hx1⟩ : ∃ pt, s.extract a (a + m) = pt := ⟨_, rfl⟩
  have hx2 : s.extract (a : Int).toNat ((a : Int) + m).toNat = pt := by rw [← hx1, show ((a : Int) + m).toNat = a + m by omega, Int.toNat_natCast]
  have hx3 : s.extract a ((a : Int) + m).toNat = pt := by rw [← hx1, show ((a : Int) + m).toNat = a + m by omega]
  rw [hx1] at hbs
  have C0 : Hid (∀ hp sp gp tp KB W, FQ w hp sp gp tp KB ([], [], [], []) W → Calls Tryz.prog 30 #[qVal hp sp gp tp, .string s] W fun e w' => e = .returned (.bool true) ∧ FQ w hp sp gp tp KB (f 0) w') := hid' (by rw [hf]; exact fun _ _ _ _ _ => FQ.text s rfl (by decide) (by simp [used]; omega) (by decide) (by decide) rfl)
  have CP : Hid (∀ hp sp gp tp KB W, FQ w hp sp gp tp KB (f 0) W → Calls Tryz.prog 31 #[ptr sp, .int .i64 0] W fun e w' => e = .returned (.tuple #[(sO s.size).val, .int .i64 0]) ∧ FQ w hp sp gp tp KB (f 0) w') := hid' (by rw [hf]; exact fun hp sp gp tp _ => FQ.peek 0 0 (sO s.size) rfl rfl)
  have C1 : Hid (∀ hp sp gp tp KB W, FQ w hp sp gp tp KB (f 0) W → Calls Tryz.prog 32 #[qVal hp sp gp tp, (sO s.size).val] W fun e w' => e = .returned (.bool true) ∧ FQ w hp sp gp tp KB (f 1) w') := hid' (by rw [hf]; exact fun hp sp gp tp _ => FQ.push _ (mayO_str _ _ _ _ (by omega) (by omega) (by omega) (by omega) (by omega) (by omega)) (by simp [paF]) (by simp [paF]) rfl)
  have C2 : Hid (∀ hp sp gp tp KB W, FQ w hp sp gp tp KB (f 1) W → Calls Tryz.prog 32 #[qVal hp sp gp tp, (iO a).val] W fun e w' => e = .returned (.bool true) ∧ FQ w hp sp gp tp KB (f 2) w') := hid' (by rw [hf]; exact fun hp sp gp tp _ => FQ.push _ (mayO_int _ (by omega) (by omega)) (by simp [paF]) (by simp [paF]) rfl)
  have C3 : Hid (∀ hp sp gp tp KB W, FQ w hp sp gp tp KB (f 2) W → Calls Tryz.prog 32 #[qVal hp sp gp tp, (iO m).val] W fun e w' => e = .returned (.bool true) ∧ FQ w hp sp gp tp KB (f 3) w') := hid' (by rw [hf]; exact fun hp sp gp tp _ => FQ.push _ (mayO_int _ (by omega) (by omega)) (by simp [paF]) (by simp [paF]) rfl)
  have C4 : Hid (∀ hp sp gp tp KB W, FQ w hp sp gp tp KB (f 3) W → Calls Tryz.prog 34 #[qVal hp sp gp tp, .string ⟨#[103, 101, 116, 105, 110, 116, 101, 114, 118, 97, 108]⟩] W fun e w' => e = .returned (.int .i64 0) ∧ FQ w hp sp gp tp KB (f 4) w') := hid' (by rw [hf]; exact fun hp sp gp tp _ => FQ.doing _ 51 0 true op_get (L' := [txt s.toList]) (l' := [sO s.size, strN 0 false a m]) (fun w' K' S' => sdo_51 (l := [sO s.size]) S' m0 rfl (f_held1 s (by omega) a m) (f_part1 s (by omega) a m (by omega) (by omega) (by omega)) (mayO_str _ _ _ _ (by omega) (by omega) (by omega) (by omega) (by omega) (by omega)) (by simp)) rfl)
  have C5 : Hid (∀ hp sp gp tp KB W, FQ w hp sp gp tp KB (f 4) W → Calls Tryz.prog 35 #[qVal hp sp gp tp, .int .i64 0] W fun e w' => e = .returned (.string pt) ∧ FQ w hp sp gp tp KB (f 4) w') := hid' (by rw [hf]; exact fun hp sp gp tp _ => FQ.top 0 1 (strN 0 false a m) rfl rfl _ 0 hbs)
  have C6 : Hid (∀ hp sp gp tp KB W, FQ w hp sp gp tp KB (f 4) W → Calls Tryz.prog 18 #[ptr sp] W fun e w' => e = .returned (.int .i64 2) ∧ FQ w hp sp gp tp KB (f 4) w') := hid' (by rw [hf]; exact fun hp sp gp tp _ => FQ.len 2 rfl)
  have C7 : Hid (∀ hp sp gp tp KB W, FQ w hp sp gp tp KB (f 4) W → Calls Tryz.prog 32 #[qVal hp sp gp tp, (iO 0).val] W fun e w' => e = .returned (.bool true) ∧ FQ w hp sp gp tp KB (f 5) w') := hid' (by rw [hf]; exact fun hp sp gp tp _ => FQ.push _ (mayO_int _ (by omega) (by omega)) (by simp [paF]) (by simp [paF]) rfl)
  have C8 : Hid (∀ hp sp gp tp KB W, FQ w hp sp gp tp KB (f 5) W → Calls Tryz.prog 30 #[qVal hp sp gp tp, .string t] W fun e w' => e = .returned (.bool true) ∧ FQ w hp sp gp tp KB (f 6) w') := hid' (by rw [hf]; exact fun hp sp gp tp _ => FQ.text t rfl (by simp [paF]) (by simp [paF, used, C.size, ba_len]; omega) (by simp [paF]) (by simp [paF]) rfl)
  have C9 : Hid (t.size ≤ m → ∀ hp sp gp tp KB W, FQ w hp sp gp tp KB (f 6) W → Calls Tryz.prog 34 #[qVal hp sp gp tp, .string ⟨#[112, 117, 116, 105, 110, 116, 101, 114, 118, 97, 108]⟩] W fun e w' => e = .returned (.int .i64 0) ∧ FQ w hp sp gp tp KB (f 7) w') := hid' (fun hc => by rw [hf]; exact fun hp sp gp tp _ => FQ.doing _ 52 0 true op_put (L' := pL s t a) (l' := [sO s.size]) (fun w' K' S' => sdo_52 (l := [sO s.size]) (l' := [sO s.size]) S' rfl rfl (f_held2 s t (by omega) (by omega) a m hml) (p_put s t (by omega) (by omega) a m hml hc) (.inl ⟨rfl, rfl⟩)) rfl)
  have CE : Hid (¬ t.size ≤ m → ∀ hp sp gp tp KB W, FQ w hp sp gp tp KB (f 6) W → Calls Tryz.prog 34 #[qVal hp sp gp tp, .string ⟨#[112, 117, 116, 105, 110, 116, 101, 114, 118, 97, 108]⟩] W fun e w' => e = .returned (.int .i64 12) ∧ FQ w hp sp gp tp KB (f 6) w') := hid' (fun hc => by rw [hf]; exact fun hp sp gp tp _ => FQ.doing _ 52 12 true op_put (L' := fL s t) (l' := [sO s.size, strN 0 false a m, iO 0, strN 1 false 0 t.size]) (fun w' K' S' => sdo_52 (l := [sO s.size]) (l' := [sO s.size, strN 0 false a m, iO 0, strN 1 false 0 t.size]) S' rfl rfl (f_held2 s t (by omega) (by omega) a m hml) (p_putE s t (by omega) (by omega) a m hml hc) (.inr ⟨by decide, rfl⟩)) rfl)
  have CA : Hid (∀ hp sp gp tp KB W, FQ w hp sp gp tp KB (f 6) W → Calls Tryz.prog 18 #[ptr sp] W fun e w' => e = .returned (.int .i64 4) ∧ FQ w hp sp gp tp KB (f 6) w') := hid' (by rw [hf]; exact fun hp sp gp tp _ => FQ.len 4 rfl)
  have CB : Hid (∀ hp sp gp tp KB W, FQ w hp sp gp tp KB (f 6) W → Calls Tryz.prog 35 #[qVal hp sp gp tp, .int .i64 3] W fun e w' => e = .returned (.string s) ∧ FQ w hp sp gp tp KB (f 6) w') := hid' (by rw [hf]; exact fun hp sp gp tp _ => FQ.top 3 0 (sO s.size) rfl rfl _ 0 (f_bytess s t (by omega)))
  have CC : Hid (∀ hp sp gp tp KB W, FQ w hp sp gp tp KB (f 7) W → Calls Tryz.prog 18 #[ptr sp] W fun e w' => e = .returned (.int .i64 1) ∧ FQ w hp sp gp tp KB (f 7) w') := hid' (by rw [hf]; exact fun hp sp gp tp _ => FQ.len 1 rfl)
  obtain ⟨y1, hy1⟩ : ∃ y, s.extract 0 a = y := ⟨_, rfl⟩
  obtain ⟨y2, hy2⟩ : ∃ y, s.extract (a + t.size) s.size = y := ⟨_, rfl⟩
  have hy1' : s.extract 0 (a : Int).toNat = y1 := hy1
  have hy2' : s.extract ((a : Int) + t.size).toNat s.size = y2 := by rw [← hy2, show ((a : Int) + t.size).toNat = a + t.size by omega]
  have hz1 : y1.size ≤ 200 := by rw [← hy1, ByteArray.size_extract]; omega
  have hz2 : y2.size ≤ 200 := by rw [← hy2, ByteArray.size_extract]; omega
  obtain ⟨y3, hy3⟩ : ∃ y, y1 ++ t ++ y2 = y := ⟨_, rfl⟩
  have CD : Hid (t.size ≤ m → ∀ hp sp gp tp KB W, FQ w hp sp gp tp KB (f 7) W → Calls Tryz.prog 35 #[qVal hp sp gp tp, .int .i64 0] W fun e w' => e = .returned (.string y3) ∧ FQ w hp sp gp tp KB (f 7) w') := hid' (fun hc => by rw [hf, ← hy3, ← hy1, ← hy2]; exact fun hp sp gp tp _ => FQ.top 0 0 (sO s.size) rfl rfl _ 0 (p_bytes s t (by omega) a (by omega)))
  have c1 : ¬ (9223372036854775807 < y1.size + t.size) := by omega
  have c2 : ¬ (9223372036854775807 < y1.size + t.size + y2.size) := by omega
  have v2 := IntWalk.i64_in ((a : Int) + t.size) (by omega)
  have i1 : (s.size : Int) ≤ 200 := by omega
  have i2 : (t.size : Int) ≤ 200 := by omega
  have i3 : (a : Int) ≤ s.size := by omega
  have i4 : (a : Int) + m ≤ s.size := by omega
  have i5 : (0 : Int) ≤ s.size := by omega
  have i6 : (0 : Int) ≤ a := by omega
  have i7 : (0 : Int) ≤ m := by omega
  have i8 : (a : Int) ≤ a + m := by omega
  have v1 := IntWalk.i64_in ((a : Int) + m) (by omega)
  have HX := hid' hX
  have HLS := hid' ls
  have HLT := hid' lt
  have HF := hid' hf
  have HML := hid' hml
  have i9 : (0 : Int) ≤ t.size := by omega
  clear ls lt hX hal hml hbs hf hz1 hz2
  go_enter Tryz.func6, Tryz.ntmps6
  go_wp2_with fail
  refine HKN.out.mono ?_
  rintro r w1 ⟨rfl, X1⟩
  go_wp2_with fail
  refine (FQ.fresh w1 X1).mono ?_
  rintro r w2 ⟨hp, sp, gp, tp, rfl, S1⟩
  have S2 := S1.alloc (qBox hp sp gp tp)
  generalize hg : w2.heap.size = g2 at *
  go_upto_region 8 with (fail)
  rw [ha, hm]
  generalize hW : w2.alloc _ = w3 at *
  clear hW hg S1 ha hm a0 a1 n0 n1 HKN X1
  (try clear Ra); (try clear ya); (try clear Za)
  have Ra := cells_of (S2.box _ m0)
  have ya := blk_lt (S2.box _ m0)
  (try simp only at Ra ya)
  go_wp2_with fail
  refine (C0.out _ _ _ _ _ _ S2).mono ?_
  rintro r w4 ⟨rfl, S3⟩
  clear S2 Ra ya
  (try clear Ra); (try clear ya); (try clear Za)
  have Ra := cells_of (S3.box _ m0)
  have ya := blk_lt (S3.box _ m0)
  (try simp only at Ra ya)
  go_wp2_with fail
  refine (CP.out _ _ _ _ _ _ S3).mono ?_
  rintro r w5 ⟨rfl, S4⟩
  have S5 := S4.alloc (.cells #[.int .i64 8, .bool false, .int .i64 0, .int .i64 0, .int .i64 s.size, .string ⟨#[]⟩] 38)
  generalize hg : w5.heap.size = g5 at *
  clear S3 Ra ya
  (try clear Ra); (try clear ya); (try clear Za)
  have Ra := cells_of (S4.box _ m0)
  have ya := blk_lt (S4.box _ m0)
  (try simp only at Ra ya)
  go_upto_region 11 with (fail)
  generalize hW : w5.alloc _ = w6 at *
  clear hW hg S4 Ra ya
  obtain ⟨KB, hKB⟩ : ∃ KB, KB = [(g5, Obj.cells #[.int .i64 8, .bool false, .int .i64 0, .int .i64 0, .int .i64 s.size, .string ⟨#[]⟩] 38), (g2, qBox hp sp gp tp)] := ⟨_, rfl⟩
  have nX : (g5, Obj.cells #[.int .i64 8, .bool false, .int .i64 0, .int .i64 0, .int .i64 s.size, .string ⟨#[]⟩] 38) ∈ KB := by rw [hKB]; exact m0
  have nW : (g2, qBox hp sp gp tp) ∈ KB := by rw [hKB]; exact m1
  rw [← hKB] at S5
  clear hKB
  have QX := FQ.cells (w0 := w) (hp := hp) (sp := sp) (gp := gp) (tp := tp) (f := f) nX
  have QW := FQ.cells (w0 := w) (hp := hp) (sp := sp) (gp := gp) (tp := tp) (f := f) nW
  obtain ⟨g, hg0, hg1, hg2⟩ : ∃ g : Nat → O, g 0 = sO s.size ∧ g 1 = iO a ∧ g 2 = iO m := ⟨fun n => match n with | 0 => sO s.size | 1 => iO a | _ => iO m, rfl, rfl, rfl⟩
  have e0 : Value.agg #[.int .i64 8, .bool false, .int .i64 0, .int .i64 0, .int .i64 s.size, .string ⟨#[]⟩] = (g 0).val := by rw [hg0]
  have e1 : Value.agg #[.int .i64 3, .bool false, .int .i64 a, .int .i64 0, .int .i64 0, .string ⟨#[]⟩] = (g 1).val := by rw [hg1]
  have e2 : Value.agg #[.int .i64 3, .bool false, .int .i64 m, .int .i64 0, .int .i64 0, .string ⟨#[]⟩] = (g 2).val := by rw [hg2]
  have HE := hid' (And.intro e0 (And.intro e1 e2))
  have CPU : Hid (∀ n v W, FQ w hp sp gp tp KB (f n) W → n < 3 → v = (g n).val → Calls Tryz.prog 32 #[qVal hp sp gp tp, v] W fun e w' => e = .returned (.bool true) ∧ FQ w hp sp gp tp KB (f (n + 1)) w') := hid' (fun n v W h hn hv => by
    rcases n with _ | _ | _ | n
    · rw [hv, hg0]; exact C1.out _ _ _ _ _ _ h
    · rw [hv, hg1]; exact C2.out _ _ _ _ _ _ h
    · rw [hv, hg2]; exact C3.out _ _ _ _ _ _ h
    · omega)
  clear hg0 hg1 hg2 e0 e1 e2 C1 C2 C3
  have HDR := hid' (fun n W (h : FQ w hp sp gp tp KB (f n) W) => h.drew)
  have HNU : Hid (∀ n v W, FQ w hp sp gp tp KB (f n) W → Calls Tryz.prog 33 #[.int .i64 v] W fun e w' => e = .returned (iO v).val ∧ FQ w hp sp gp tp KB (f n) w') := hid' (fun n v => FQ.num v)
  have HNW := hid' nW
  have hS1 : ∃ n, FQ w hp sp gp tp KB (f n) w6 := ⟨_, S5⟩
  clear nX nW C0 CP
  go_region_held3 (fun W' => ∃ n, FQ w hp sp gp tp KB (f n) W') (first | (with_reducible assumption) | (with_reducible exact ⟨_, by with_reducible assumption⟩) | (with_reducible exact ⟨_, HDR.out _ _ (by with_reducible assumption)⟩))
    (first
      | (go_at_call 33; refine (HNU.out _ _ _ (by first | with_reducible assumption | (with_reducible exact HDR.out _ _ (by with_reducible assumption)))).mono ?_; rintro r w7 ⟨rfl, S6⟩)
      | (go_at_call 32; refine (CPU.out _ _ _ (by first | with_reducible assumption | (with_reducible exact HDR.out _ _ (by with_reducible assumption))) (by decide) (by first | with_reducible exact HE.out.1 | with_reducible exact HE.out.2.1 | with_reducible exact HE.out.2.2)).mono ?_; rintro r w7 ⟨rfl, S6⟩)
      | (go_at_call 34; refine (C4.out _ _ _ _ _ _ (by first | with_reducible assumption | (with_reducible exact HDR.out _ _ (by with_reducible assumption)))).mono ?_; rintro r w7 ⟨rfl, S6⟩)
      | (go_at_call 35; refine (C5.out _ _ _ _ _ _ (by first | with_reducible assumption | (with_reducible exact HDR.out _ _ (by with_reducible assumption)))).mono ?_; rintro r w7 ⟨rfl, S6⟩)
      | (go_at_call 18; refine (C6.out _ _ _ _ _ _ (by first | with_reducible assumption | (with_reducible exact HDR.out _ _ (by with_reducible assumption)))).mono ?_; rintro r w7 ⟨rfl, S6⟩))
  go_upto_region 13 with (fail)
  clear CPU HE C4 C5 C6
  go_region_held3 (fun W' => ∃ n, FQ w hp sp gp tp KB (f n) W') (first | (with_reducible assumption) | (with_reducible exact ⟨_, by with_reducible assumption⟩) | (with_reducible exact ⟨_, HDR.out _ _ (by with_reducible assumption)⟩))
    (first
      | (go_at_call 33; refine (HNU.out _ _ _  (by first | with_reducible assumption | (with_reducible exact HDR.out _ _ (by with_reducible assumption)))).mono ?_; rintro r w7 ⟨rfl, S6⟩)
      | (go_at_call 32; refine (C7.out _ _ _ _ _ _  (by first | with_reducible assumption | (with_reducible exact HDR.out _ _ (by with_reducible assumption)))).mono ?_; rintro r w7 ⟨rfl, S6⟩)
      | (go_at_call 30; refine (C8.out _ _ _ _ _ _  (by first | with_reducible assumption | (with_reducible exact HDR.out _ _ (by with_reducible assumption)))).mono ?_; rintro r w7 ⟨rfl, S6⟩))
  go_upto_region 15 with (fail)
  have RW := S6.cells1 HNW.out
  by_cases hc : t.size ≤ m
  · have C9' := hid' (C9.out hc)
    have CD' := hid' (CD.out hc)
    have i10 : (t.size : Int) ≤ m := by omega
    have i11 : (a : Int) + t.size ≤ s.size := by omega
    have i12 : (0 : Int) ≤ a + t.size := by omega
    clear C9 CE CA CB C7 C8 hc CD
    go_wp2_with fail
    refine (C9'.out _ _ _ _ _ _ S6).mono ?_
    rintro r w8 ⟨rfl, S8⟩
    go_upto_region 18 with (fail)
    have hS2 : ∃ n, FQ w hp sp gp tp KB (f n) w8 := ⟨_, S8⟩
    clear RW
    go_region_held3 (fun W' => ∃ n, FQ w hp sp gp tp KB (f n) W') (first | (with_reducible assumption) | (with_reducible exact ⟨_, by with_reducible assumption⟩) | (with_reducible exact ⟨_, HDR.out _ _ (by with_reducible assumption)⟩))
      (first
        | (go_at_call 35; refine (CD'.out _ _ _ _ _ _  (by first | with_reducible assumption | (with_reducible exact HDR.out _ _ (by with_reducible assumption)))).mono ?_; rintro r w7 ⟨rfl, S6⟩)
        | (go_at_call 18; refine (CC.out _ _ _ _ _ _  (by first | with_reducible assumption | (with_reducible exact HDR.out _ _ (by with_reducible assumption)))).mono ?_; rintro r w7 ⟨rfl, S6⟩))
    go_wp2_with fail
    go_ret
    exact ⟨rfl, FQ.chg (by first | with_reducible assumption | (with_reducible exact HDR.out _ _ (by with_reducible assumption)))⟩
  · have CE' := hid' (CE.out hc)
    have i10 : (m : Int) < t.size := by omega
    clear C9 CE CC C7 C8 hc CD
    go_wp2_with fail
    refine (CE'.out _ _ _ _ _ _ S6).mono ?_
    rintro r w8 ⟨rfl, S8⟩
    clear RW
    have RW := S8.cells1 HNW.out
    go_wp2_with fail
    refine (CA.out _ _ _ _ _ _ S8).mono ?_
    rintro r w9 ⟨rfl, S9⟩
    clear RW
    have RW := S9.cells1 HNW.out
    go_wp2_with fail
    refine (CB.out _ _ _ _ _ _ S9).mono ?_
    rintro r w10 ⟨rfl, S10⟩
    go_wp2_with fail
    go_ret
    exact ⟨rfl, S10.chg⟩
end Go.Proofs.YteglbjcdlekbpaaGreat
/- Walk: SeqParts, whatever comes. -/
namespace Go.Proofs.YteglbjcdlekbpaaGreat
open Go.RowKit

set_option maxRecDepth 100000 in
theorem seqParts_big (s t : ByteArray) (a n : Int) (h : 200 < s.size ∨ 200 < t.size) (w : World) (hX : MaxIs w) :
    Calls Tryz.prog 6 #[.string s, .string t, .int .u8 a, .int .u8 n] w fun e w' => e = .returned (.bool true) ∧ Chg NoB w w' := by
  have HKN := hid' (known19_any w hX)
  clear hX
  by_cases h1 : 200 < s.size
  · have d1 : decide ((200 : Int) < s.size) = true := by simp; omega
    clear h h1
    go_enter Tryz.func6, Tryz.ntmps6
    go_wp2_with fail
    refine HKN.out.mono ?_
    rintro r w1 ⟨rfl, X1⟩
    go_wp2_with fail
    go_ret
    exact ⟨rfl, X1⟩
  · have d1 : decide ((200 : Int) < s.size) = false := by simp; omega
    have d2 : decide ((200 : Int) < t.size) = true := by simp; omega
    clear h h1
    go_enter Tryz.func6, Tryz.ntmps6
    go_wp2_with fail
    refine HKN.out.mono ?_
    rintro r w1 ⟨rfl, X1⟩
    go_wp2_with fail
    go_ret
    exact ⟨rfl, X1⟩
theorem seqParts_any (s t : ByteArray) (a n : Int) (_ : s.size ≤ maxLen) (_ : t.size ≤ maxLen) (a0 : 0 ≤ a) (a1 : a < 256) (n0 : 0 ≤ n) (n1 : n < 256) (w : World) (hX : MaxIs w) :
    Calls Tryz.prog 6 #[.string s, .string t, .int .u8 a, .int .u8 n] w fun e w' => e = .returned (.bool true) ∧ Chg NoB w w' := by
  by_cases h : 200 < s.size ∨ 200 < t.size
  · exact seqParts_big s t a n h w hX
  · exact seqParts_in s t a n (by omega) (by omega) a0 (by omega) n0 (by omega) w hX
end Go.Proofs.YteglbjcdlekbpaaGreat
