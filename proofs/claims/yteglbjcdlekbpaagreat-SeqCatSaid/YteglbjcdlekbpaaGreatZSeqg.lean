/- Ctw, Ctz -/
import Derived.Test.YteglbjcdlekbpaaGreatZSeqb
import Derived.Test.YteglbjcdlekbpaaGreatZSeqf
/- Walk: SeqCat. -/
namespace Go.Proofs.YteglbjcdlekbpaaGreat
open Go.RowKit

theorem op_cat (w : World) : Calls Tryz.prog 12 #[.string ⟨#[99, 97, 116]⟩] w fun r w2 => r = .returned (.tuple #[.int .i64 58, .bool true]) ∧ Chg NoB w w2 := number_hit 57 2 [99, 97, 116] (by decide +kernel) w
theorem op_length (w : World) : Calls Tryz.prog 12 #[.string ⟨#[108, 101, 110, 103, 116, 104]⟩] w fun r w2 => r = .returned (.tuple #[.int .i64 48, .bool true]) ∧ Chg NoB w w2 := number_hit 47 2 [108, 101, 110, 103, 116, 104] (by decide +kernel) w
/-- The heap of SeqCat behind cat. -/
abbrev cL (a b ab : ByteArray) : List C := [txt a.toList, txt b.toList, txt ab.toList]
abbrev cM (a b ab : ByteArray) (c : Int) : List C := [txt (a.toList.set 0 (UInt8.ofNat c.toNat)), txt b.toList, txt ab.toList]
/-- The states of SeqCat. -/
def caF (a b ab : ByteArray) (c z : Int) : Nat → QX
  | 0 => ([txt a.toList], [txt a.toList], [strN 0 false 0 a.size], [strN 0 false 0 a.size])
  | 1 => (fL a b, fL a b, [strN 0 false 0 a.size, strN 1 false 0 b.size], [strN 0 false 0 a.size, strN 1 false 0 b.size])
  | 2 => (cL a b ab, fL a b, [strN 2 false 0 z], [strN 0 false 0 a.size, strN 1 false 0 b.size])
  | 3 => (cM a b ab c, fL a b, [strN 2 false 0 z], [strN 0 false 0 a.size, strN 1 false 0 b.size])
  | 4 => (cM a b ab c, fL a b, [iO z], [strN 0 false 0 a.size, strN 1 false 0 b.size])
  | _ => ([], [], [], [])
theorem c_bytes (L : List C) (ab : ByteArray) (h : L[2]? = some (txt ab.toList)) (sx : ab.size ≤ 40000) : bytesH L (strN 2 false 0 ab.size) = (ab, 0) := by
  have := bytes_s (bs := ab.toList) (N := 2) h (by omega) (by rw [ba_len]; omega) false 0 ab.size (by omega) (by omega) (by rw [ba_len]; omega)
  rw [Int.toNat_natCast, Int.toNat_zero, List.drop_zero, List.take_of_length_le (by rw [ba_len]; omega), ByteArray.toList_eq] at this
  exact this
theorem c_held (L : List C) (ab : ByteArray) (h : L[2]? = some (txt ab.toList)) (sx : ab.size ≤ 40000) : HeldAll L [strN 2 false 0 ab.size] := by
  intro x hx _
  simp only [List.mem_cons, List.not_mem_nil, or_false] at hx
  subst hx
  exact may_s (bs := ab.toList) (N := 2) h (by omega) (by rw [ba_len]; omega) false 0 ab.size (by omega) (by omega) (by rw [ba_len]; omega)
set_option maxRecDepth 100000 in
set_option maxHeartbeats 600000 in
theorem seqCat_in (a b : ByteArray) (c : Int) (a0 : 1 ≤ a.size) (la : a.size ≤ 200) (lb : b.size ≤ 200) (c0 : 0 ≤ c) (c1 : c ≤ 255) (w : World) (hX : MaxIs w) :
    Calls Tryz.prog 10 #[.string a, .string b, .int .u8 c] w fun e w' => e = .returned (.bool true) ∧ Chg NoB w w' := by
  obtain ⟨ab, hab⟩ : ∃ ab, a ++ b = ab := ⟨_, rfl⟩
  have hsz : ab.size = a.size + b.size := by rw [← hab]; simp [ByteArray.size_append]
  obtain ⟨z, hz⟩ : ∃ z : Int, (a.size : Int) + b.size = z := ⟨_, rfl⟩
  have hzz : (ab.size : Int) = z := by rw [← hz]; omega
  obtain ⟨f, hf⟩ : ∃ f, f = caF a b ab c z := ⟨_, rfl⟩
  have HKN := hid' (known19_any w hX)
  have hst : stringH (fL a b) (a ++ b) = (cL a b ab, strN 2 false 0 z, 0) := by
    rw [hab, ← hzz]
    exact str_s (fL a b) ab (by simp) (by simp [used, C.size, ba_len]; omega)
  have C0 : Hid (∀ hp sp gp tp KB W, FQ w hp sp gp tp KB ([], [], [], []) W → Calls Tryz.prog 30 #[qVal hp sp gp tp, .string a] W fun e w' => e = .returned (.bool true) ∧ FQ w hp sp gp tp KB (f 0) w') := hid' (by rw [hf]; exact fun _ _ _ _ _ => FQ.text a rfl (by decide) (by simp [used]; omega) (by decide) (by decide) rfl)
  have C1 : Hid (∀ hp sp gp tp KB W, FQ w hp sp gp tp KB (f 0) W → Calls Tryz.prog 31 #[ptr sp, .int .i64 0] W fun e w' => e = .returned (.tuple #[(strN 0 false 0 a.size).val, .int .i64 0]) ∧ FQ w hp sp gp tp KB (f 0) w') := hid' (by rw [hf]; exact fun hp sp gp tp _ => FQ.peek 0 0 (strN 0 false 0 a.size) rfl rfl)
  have C2 : Hid (∀ hp sp gp tp KB W, FQ w hp sp gp tp KB (f 0) W → Calls Tryz.prog 30 #[qVal hp sp gp tp, .string b] W fun e w' => e = .returned (.bool true) ∧ FQ w hp sp gp tp KB (f 1) w') := hid' (by rw [hf]; exact fun _ _ _ _ _ => FQ.text b rfl (by simp [caF]) (by simp [caF, used, C.size, ba_len]; omega) (by simp [caF]) (by simp [caF]) rfl)
  have C3 : Hid (∀ hp sp gp tp KB W, FQ w hp sp gp tp KB (f 1) W → Calls Tryz.prog 34 #[qVal hp sp gp tp, .string ⟨#[99, 97, 116]⟩] W fun e w' => e = .returned (.int .i64 0) ∧ FQ w hp sp gp tp KB (f 2) w') := hid' (by rw [hf]; exact fun hp sp gp tp _ => FQ.doing _ 58 0 true op_cat (L' := cL a b ab) (l' := [strN 2 false 0 z]) (fun w' K' S' => sdo_58 S' (fun w2 S2 => cat_str (l := []) S2 rfl rfl (f_held a b (by omega) (by omega)) (f_bytess a b (by omega)) (f_bytesb a b (by omega)) (by omega) (by omega) hst (mayO_str _ _ _ _ (by omega) (by omega) (by omega) (by omega) (by omega) (by omega)) (by decide))) rfl)
  have C4 : Hid (∀ hp sp gp tp KB W, FQ w hp sp gp tp KB (f 2) W → Calls Tryz.prog 18 #[ptr sp] W fun e w' => e = .returned (.int .i64 1) ∧ FQ w hp sp gp tp KB (f 2) w') := hid' (by rw [hf]; exact fun hp sp gp tp _ => FQ.len 1 rfl)
  have hb2 : bytesH (cL a b ab) (strN 2 false 0 z) = (ab, 0) := by rw [← hzz]; exact c_bytes _ ab rfl (by omega)
  have hb3 : bytesH (cM a b ab c) (strN 2 false 0 z) = (ab, 0) := by rw [← hzz]; exact c_bytes _ ab rfl (by omega)
  have hh3 : HeldAll (cM a b ab c) [strN 2 false 0 z] := by rw [← hzz]; exact c_held _ ab rfl (by omega)
  have C5 : Hid (∀ hp sp gp tp KB W, FQ w hp sp gp tp KB (f 2) W → Calls Tryz.prog 35 #[qVal hp sp gp tp, .int .i64 0] W fun e w' => e = .returned (.string ab) ∧ FQ w hp sp gp tp KB (f 2) w') := hid' (by rw [hf]; exact fun hp sp gp tp _ => FQ.top 0 0 (strN 2 false 0 z) rfl rfl _ 0 hb2)
  have C6 : Hid (∀ hp sp gp tp KB W, FQ w hp sp gp tp KB (f 2) W → Calls Tryz.prog 31 #[ptr sp, .int .i64 0] W fun e w' => e = .returned (.tuple #[(strN 2 false 0 z).val, .int .i64 0]) ∧ FQ w hp sp gp tp KB (f 2) w') := hid' (by rw [hf]; exact fun hp sp gp tp _ => FQ.peek 0 0 (strN 2 false 0 z) rfl rfl)
  have hset : setH (cL a b ab) (strN 0 false 0 a.size) 0 (iO c) = (cM a b ab c, 0) := set_s (L := cL a b ab) (bs := a.toList) (N := 0) rfl (by omega) (by rw [ba_len]; omega) false 0 a.size 0 c (by omega) (by omega) (by rw [ba_len]; omega) (by omega) (by omega) c0 (by omega)
  have C7 : Hid (∀ hp sp gp tp KB W, FQ w hp sp gp tp KB (f 2) W → Calls Tryz.prog 41 #[ptr hp, (strN 0 false 0 a.size).val, .int .i64 0, (iO c).val] W fun e w' => e = .returned (.int .i64 0) ∧ FQ w hp sp gp tp KB (f 3) w') := hid' (by rw [hf]; exact fun hp sp gp tp _ => FQ.set _ _ _ hset rfl)
  have hlen : ∀ (hp sp : Nat) (w2 : World) (K' : List (Nat × Obj)) (_ : StkAt w w2 [(hp, cM a b ab c)] K' sp [strN 2 false 0 z]), Calls Tryz.prog 105 #[ptr hp, ptr sp] w2 fun r w' => r = .returned (.int .i64 0) ∧ StkAt w w' [(hp, cM a b ab c)] K' sp [iO z] := fun hp sp w2 K' S2 => by
    have := length_str (l := []) S2 m0 rfl hh3 hb3 (by omega) (by decide)
    rw [hzz] at this
    exact this
  have C8 : Hid (∀ hp sp gp tp KB W, FQ w hp sp gp tp KB (f 3) W → Calls Tryz.prog 34 #[qVal hp sp gp tp, .string ⟨#[108, 101, 110, 103, 116, 104]⟩] W fun e w' => e = .returned (.int .i64 0) ∧ FQ w hp sp gp tp KB (f 4) w') := hid' (by rw [hf]; exact fun hp sp gp tp _ => FQ.doing _ 48 0 true op_length (L' := cM a b ab c) (l' := [iO z]) (fun w' K' S' => sdo_48 S' (fun w2 S2 => hlen hp sp w2 K' S2)) rfl)
  have C9 : Hid (∀ hp sp gp tp KB W, FQ w hp sp gp tp KB (f 4) W → Calls Tryz.prog 31 #[ptr sp, .int .i64 0] W fun e w' => e = .returned (.tuple #[(iO z).val, .int .i64 0]) ∧ FQ w hp sp gp tp KB (f 4) w') := hid' (by rw [hf]; exact fun hp sp gp tp _ => FQ.peek 0 0 (iO z) rfl rfl)
  have CA : Hid (∀ hp sp gp tp KB W, FQ w hp sp gp tp KB (f 4) W → Calls Tryz.prog 42 #[ptr hp, (strN 2 false 0 z).val] W fun e w' => e = .returned (.tuple #[.string ab, .int .i64 0]) ∧ FQ w hp sp gp tp KB (f 4) w') := hid' (by rw [hf]; exact fun hp sp gp tp _ => FQ.bytes _ _ _ hb3)
  have hne : ¬ a = ByteArray.empty := by rintro rfl; exact absurd a0 (by decide)
  have d0 : ((a.size : Int) == 0) = false := by simp; exact hne
  have i1 : (1 : Int) ≤ a.size := by omega
  have i2 : (a.size : Int) ≤ 200 := by omega
  have i3 : (b.size : Int) ≤ 200 := by omega
  have s1 : ¬ (9223372036854775807 < a.size + b.size) := by omega
  have v1 := IntWalk.i64_in ((a.size : Int) + b.size) (by omega)
  have q1 : eqO ⟨3, false, z, 0, 0, ⟨#[]⟩⟩ ⟨3, false, z, 0, 0, ⟨#[]⟩⟩ = true := eqO_self _
  rw [hz] at v1
  have v2 := IntWalk.i64_in c (by omega)
  clear a0 la lb hX hsz hzz hf hst hb2 hb3 hh3 hset hlen
  go_enter Tryz.func10, Tryz.ntmps10
  go_wp2_with fail
  refine HKN.out.mono ?_
  rintro r w1 ⟨rfl, X1⟩
  go_wp2_with fail
  refine (FQ.fresh w1 X1).mono ?_
  rintro r w2 ⟨hp, sp, gp, tp, rfl, S1⟩
  have S2 := S1.alloc (qBox hp sp gp tp)
  generalize hg : w2.heap.size = g2 at *
  go_upto_region 6 with (fail)
  generalize hW : w2.alloc _ = w3 at *
  clear hW hg S1 HKN X1
  (try clear Ra); (try clear ya); (try clear Za)
  have Ra := cells_of (S2.box _ m0)
  have ya := blk_lt (S2.box _ m0)
  (try simp only at Ra ya)
  go_wp2_with fail
  refine (C0.out _ _ _ _ _ _ S2).mono ?_
  rintro r w4 ⟨rfl, S3⟩
  clear S2 Ra ya
  (try clear Ra); (try clear ya); (try clear Za)
  have Ra := cells_of (S3.box _ m0)
  have ya := blk_lt (S3.box _ m0)
  (try simp only at Ra ya)
  go_wp2_with fail
  refine (C1.out _ _ _ _ _ _ S3).mono ?_
  rintro r w5 ⟨rfl, S4⟩
  have S5 := S4.alloc (.cells #[.int .i64 8, .bool false, .int .i64 0, .int .i64 0, .int .i64 a.size, .string ⟨#[]⟩] 38)
  generalize hg : w5.heap.size = g5 at *
  clear S3 Ra ya
  (try clear Ra); (try clear ya); (try clear Za)
  have Ra := cells_of (S4.box _ m0)
  have ya := blk_lt (S4.box _ m0)
  (try simp only at Ra ya)
  go_upto_region 8 with (fail)
  generalize hW : w5.alloc _ = w6 at *
  clear hW hg S4 Ra ya
  (try clear Rx); (try clear yx); (try clear Zx)
  have Rx := cells_of (S5.box _ m0)
  have yx := blk_lt (S5.box _ m0)
  (try clear Ra); (try clear ya); (try clear Za)
  have Ra := cells_of (S5.box _ m1)
  have ya := blk_lt (S5.box _ m1)
  (try simp only at Rx yx Ra ya)
  go_wp2_with fail
  refine (C2.out _ _ _ _ _ _ S5).mono ?_
  rintro r w7 ⟨rfl, S6⟩
  clear S5 Ra ya Rx yx
  (try clear Rx); (try clear yx); (try clear Zx)
  have Rx := cells_of (S6.box _ m0)
  have yx := blk_lt (S6.box _ m0)
  (try clear Ra); (try clear ya); (try clear Za)
  have Ra := cells_of (S6.box _ m1)
  have ya := blk_lt (S6.box _ m1)
  (try simp only at Rx yx Ra ya)
  go_wp2_with fail
  refine (C3.out _ _ _ _ _ _ S6).mono ?_
  rintro r w8 ⟨rfl, S7⟩
  clear S6 Ra ya Rx yx
  (try clear Rx); (try clear yx); (try clear Zx)
  have Rx := cells_of (S7.box _ m0)
  have yx := blk_lt (S7.box _ m0)
  (try clear Ra); (try clear ya); (try clear Za)
  have Ra := cells_of (S7.box _ m1)
  have ya := blk_lt (S7.box _ m1)
  (try simp only at Rx yx Ra ya)
  go_wp2_with fail
  refine (C4.out _ _ _ _ _ _ S7).mono ?_
  rintro r w9 ⟨rfl, S8⟩
  clear S7 Ra ya Rx yx
  (try clear Rx); (try clear yx); (try clear Zx)
  have Rx := cells_of (S8.box _ m0)
  have yx := blk_lt (S8.box _ m0)
  (try clear Ra); (try clear ya); (try clear Za)
  have Ra := cells_of (S8.box _ m1)
  have ya := blk_lt (S8.box _ m1)
  (try simp only at Rx yx Ra ya)
  go_wp2_with fail
  refine (C5.out _ _ _ _ _ _ S8).mono ?_
  rintro r w10 ⟨rfl, S9⟩
  clear S8 Ra ya Rx yx
  (try clear Rx); (try clear yx); (try clear Zx)
  have Rx := cells_of (S9.box _ m0)
  have yx := blk_lt (S9.box _ m0)
  (try clear Ra); (try clear ya); (try clear Za)
  have Ra := cells_of (S9.box _ m1)
  have ya := blk_lt (S9.box _ m1)
  (try simp only at Rx yx Ra ya)
  go_wp2_with fail
  refine (C6.out _ _ _ _ _ _ S9).mono ?_
  rintro r w11 ⟨rfl, S10⟩
  have S11 := S10.alloc (.cells #[.int .i64 8, .bool false, .int .i64 2, .int .i64 0, .int .i64 z, .string ⟨#[]⟩] 38)
  generalize hg : w11.heap.size = g11 at *
  clear S9 Ra ya Rx yx
  (try clear Ra); (try clear ya); (try clear Za)
  have Ra := cells_of (S10.box _ m1)
  have ya := blk_lt (S10.box _ m1)
  (try simp only at Ra ya)
  go_upto_region 13 with (fail)
  generalize hW : w11.alloc _ = w12 at *
  clear hW hg S10 Ra ya
  obtain ⟨KB, hKB⟩ : ∃ KB, KB = [(g11, Obj.cells #[.int .i64 8, .bool false, .int .i64 2, .int .i64 0, .int .i64 z, .string ⟨#[]⟩] 38), (g5, Obj.cells #[.int .i64 8, .bool false, .int .i64 0, .int .i64 0, .int .i64 a.size, .string ⟨#[]⟩] 38), (g2, qBox hp sp gp tp)] := ⟨_, rfl⟩
  have nC : (g11, Obj.cells #[.int .i64 8, .bool false, .int .i64 2, .int .i64 0, .int .i64 z, .string ⟨#[]⟩] 38) ∈ KB := by rw [hKB]; exact m0
  have nX : (g5, Obj.cells #[.int .i64 8, .bool false, .int .i64 0, .int .i64 0, .int .i64 a.size, .string ⟨#[]⟩] 38) ∈ KB := by rw [hKB]; exact m1
  have nW : (g2, qBox hp sp gp tp) ∈ KB := by rw [hKB]; exact m2
  rw [← hKB] at S11
  clear hKB
  have QX := FQ.cells (w0 := w) (hp := hp) (sp := sp) (gp := gp) (tp := tp) (f := f) nX
  have QW := FQ.cells (w0 := w) (hp := hp) (sp := sp) (gp := gp) (tp := tp) (f := f) nW
  have HDR := hid' (fun KB n W (h : FQ w hp sp gp tp KB (f n) W) => h.drew)
  have HN := hid' (And.intro nW nC)
  have HNU : Hid (∀ n v W, FQ w hp sp gp tp KB (f n) W → Calls Tryz.prog 33 #[.int .i64 v] W fun e w' => e = .returned (iO v).val ∧ FQ w hp sp gp tp KB (f n) w') := hid' (fun n v => FQ.num v)
  have hS1 : ∃ n, FQ w hp sp gp tp KB (f n) w12 := ⟨_, S11⟩
  clear nX nW nC
  go_region_held3 (fun W' => ∃ n, FQ w hp sp gp tp KB (f n) W') (first | (with_reducible assumption) | (with_reducible exact ⟨_, by with_reducible assumption⟩) | (with_reducible exact ⟨_, HDR.out _ _ _ (by with_reducible assumption)⟩))
    (first
      | (go_at_call 33; refine (HNU.out _ _ _ (by first | with_reducible assumption | (with_reducible exact HDR.out _ _ _ (by with_reducible assumption)))).mono ?_; rintro r w13 ⟨rfl, S12⟩)
      | (go_at_call 41; refine (C7.out _ _ _ _ _ _ (by first | with_reducible assumption | (with_reducible exact HDR.out _ _ _ (by with_reducible assumption)))).mono ?_; rintro r w14 ⟨rfl, S13⟩))
  go_upto_region 14 with (fail)
  have RW := S13.cells1 HN.out.1
  clear hS1 S11 QX QW
  go_wp2_with fail
  refine (C8.out _ _ _ _ _ _ S13).mono ?_
  rintro r w15 ⟨rfl, S14⟩
  clear RW
  have RW := S14.cells1 HN.out.1
  go_wp2_with fail
  refine (C9.out _ _ _ _ _ _ S14).mono ?_
  rintro r w16 ⟨rfl, S15⟩
  have S16 := S15.alloc (.cells #[.int .i64 3, .bool false, .int .i64 z, .int .i64 0, .int .i64 0, .string ⟨#[]⟩] 38)
  generalize hg : w16.heap.size = g16 at *
  clear RW
  have RW := S15.cells1 HN.out.1
  go_upto_region 16 with (fail)
  generalize hW : w16.alloc _ = w17 at *
  clear hW hg S15 RW
  have RW := S16.cells1 (List.mem_cons_of_mem _ HN.out.1)
  have RC := S16.cells1 (List.mem_cons_of_mem _ HN.out.2)
  go_wp2_with fail
  refine (CA.out _ _ _ _ _ _ S16).mono ?_
  rintro r w18 ⟨rfl, S17⟩
  go_upto_region 17 with (fail)
  have QN := FQ.cells (w0 := w) (hp := hp) (sp := sp) (gp := gp) (tp := tp) (f := f) (KB := (g16, Obj.cells #[.int .i64 3, .bool false, .int .i64 z, .int .i64 0, .int .i64 0, .string ⟨#[]⟩] 38) :: KB) m0
  have hS2 : ∃ n, FQ w hp sp gp tp ((g16, Obj.cells #[.int .i64 3, .bool false, .int .i64 z, .int .i64 0, .int .i64 0, .string ⟨#[]⟩] 38) :: KB) (f n) w18 := ⟨_, S17⟩
  clear RW RC S16 HNU
  have HNU : Hid (∀ n v W, FQ w hp sp gp tp ((g16, Obj.cells #[.int .i64 3, .bool false, .int .i64 z, .int .i64 0, .int .i64 0, .string ⟨#[]⟩] 38) :: KB) (f n) W → Calls Tryz.prog 33 #[.int .i64 v] W fun e w' => e = .returned (iO v).val ∧ FQ w hp sp gp tp ((g16, Obj.cells #[.int .i64 3, .bool false, .int .i64 z, .int .i64 0, .int .i64 0, .string ⟨#[]⟩] 38) :: KB) (f n) w') := hid' (fun n v => FQ.num v)
  go_region_held3 (fun W' => ∃ n, FQ w hp sp gp tp ((g16, Obj.cells #[.int .i64 3, .bool false, .int .i64 z, .int .i64 0, .int .i64 0, .string ⟨#[]⟩] 38) :: KB) (f n) W') (first | (with_reducible assumption) | (with_reducible exact ⟨_, by with_reducible assumption⟩) | (with_reducible exact ⟨_, HDR.out _ _ _ (by with_reducible assumption)⟩))
    (first
      | (go_at_call 33; refine (HNU.out _ _ _ (by first | with_reducible assumption | (with_reducible exact HDR.out _ _ _ (by with_reducible assumption)))).mono ?_; rintro r w19 ⟨rfl, S18⟩))
  go_wp2_with fail
  go_ret
  exact ⟨rfl, FQ.chg (by first | with_reducible assumption | (with_reducible exact HDR.out _ _ _ (by with_reducible assumption)))⟩
end Go.Proofs.YteglbjcdlekbpaaGreat
/- Walk: SeqCat, whatever comes. -/
namespace Go.Proofs.YteglbjcdlekbpaaGreat
open Go.RowKit

set_option maxRecDepth 100000 in
theorem seqCat_big (a b : ByteArray) (c : Int) (h : a = ByteArray.empty ∨ 200 < a.size ∨ 200 < b.size) (w : World) (hX : MaxIs w) :
    Calls Tryz.prog 10 #[.string a, .string b, .int .u8 c] w fun e w' => e = .returned (.bool true) ∧ Chg NoB w w' := by
  have HKN := hid' (known19_any w hX)
  clear hX
  by_cases h0 : a = ByteArray.empty
  · subst h0
    clear h
    go_enter Tryz.func10, Tryz.ntmps10
    go_wp2_with fail
    refine HKN.out.mono ?_
    rintro r w1 ⟨rfl, X1⟩
    go_wp2_with fail
    go_ret
    exact ⟨rfl, X1⟩
  · have d0 : ((a.size : Int) == 0) = false := by simp; exact h0
    by_cases h1 : 200 < a.size
    · have d1 : decide ((200 : Int) < a.size) = true := by simp; omega
      clear h h1
      go_enter Tryz.func10, Tryz.ntmps10
      go_wp2_with fail
      refine HKN.out.mono ?_
      rintro r w1 ⟨rfl, X1⟩
      go_wp2_with fail
      go_ret
      exact ⟨rfl, X1⟩
    · have d1 : decide ((200 : Int) < a.size) = false := by simp; omega
      have d2 : decide ((200 : Int) < b.size) = true := by
        rcases h with h | h | h
        · exact absurd h h0
        · exact absurd h h1
        · simp; omega
      clear h h1
      go_enter Tryz.func10, Tryz.ntmps10
      go_wp2_with fail
      refine HKN.out.mono ?_
      rintro r w1 ⟨rfl, X1⟩
      go_wp2_with fail
      go_ret
      exact ⟨rfl, X1⟩
theorem seqCat_any (a b : ByteArray) (c : Int) (_ : a.size ≤ maxLen) (_ : b.size ≤ maxLen) (c0 : 0 ≤ c) (c1 : c < 256) (w : World) (hX : MaxIs w) :
    Calls Tryz.prog 10 #[.string a, .string b, .int .u8 c] w fun e w' => e = .returned (.bool true) ∧ Chg NoB w w' := by
  by_cases h : a = ByteArray.empty ∨ 200 < a.size ∨ 200 < b.size
  · exact seqCat_big a b c h w hX
  · have hz : a.size ≠ 0 := fun hz => h (.inl (by
      apply ByteArray.ext
      exact Array.eq_empty_of_size_eq_zero hz))
    exact seqCat_in a b c (by omega) (by omega) (by omega) c0 (by omega) w hX
end Go.Proofs.YteglbjcdlekbpaaGreat
