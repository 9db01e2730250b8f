/- Ubt, Ubw -/
import Derived.Test.YtpgkjgceldleaaaZBuilde
/- BuildBinds: the walk. -/
namespace Go.Proofs.Ytpgkjgceldleaaa
open Go.RowKit

section
variable {w0 w w' : World} {out : ByteArray} {hp cp : Nat} {X : List C} {K : List (Nat × Obj)}
/-- Whatever the two arrays hold, boxes more. -/
def BBy (w0 : World) (out : ByteArray) (hp cp : Nat) (K : List (Nat × Obj)) (W : World) : Prop := ∃ X E, BBt w0 W out hp cp X (E ++ K)
theorem BBy.of {E : List (Nat × Obj)} (S : BBt w0 w out hp cp X (E ++ K)) : BBy w0 out hp cp K w := ⟨X, E, S⟩
theorem BBy.of0 (S : BBt w0 w out hp cp X K) : BBy w0 out hp cp K w := ⟨X, [], S⟩
theorem BBy.drew (h : BBy w0 out hp cp K w) : BBy w0 out hp cp K w.drew := by obtain ⟨X, E, S⟩ := h; exact ⟨X, E, S.pure (Chg.refl NoB w).drew⟩
theorem BBy.alloc (h : BBy w0 out hp cp K w) (o : Obj) : BBy w0 out hp cp K (w.alloc o) := by obtain ⟨X, E, S⟩ := h; exact ⟨X, _ :: E, S.alloc o⟩
theorem BBy.cells {g : Nat} {cs : Array Value} {T : TypeId} {fz : Nat × Nat} (hm : (g, Obj.cells cs T fz) ∈ K) : ∀ W, BBy w0 out hp cp K W → ∀ i, W.cell? ⟨g, i, none⟩ = cs[i]? := by
  rintro W ⟨X, E, S⟩ i; exact cells_of (S.box _ (List.mem_append_right _ hm)) i
theorem BBt.drew (S : BBt w0 w out hp cp X K) : BBt w0 w.drew out hp cp X K := S.pure (Chg.refl NoB w).drew
theorem BBt.name (s : ByteArray) (S : BBt w0 w out hp cp X K) : Calls Try.prog 20 #[.string s] w fun e w' => e = .returned (exeN s).val ∧ BBt w0 w' out hp cp X K :=
  (name22_any s w).mono fun _ _ h => ⟨h.1, S.pure h.2⟩
theorem BBt.put {b : Nat} {cs : Array Value} {T : TypeId} {fz : Nat × Nat} (S : BBt w0 w out hp cp X ((b, .cells cs T fz) :: K)) (i : Nat) (v : Value) : BBt w0 (w.setCell ⟨b, i, none⟩ v) out hp cp X ((b, .cells (cs.setIfInBounds i v) T fz) :: K) :=
  ScpAt.overB S fun _ A => ((A.perm List.perm_middle).put i v).perm List.perm_middle.symm
theorem BBt.putO {b : Nat} {c0 c1 c2 c3 c4 c5 : Value} {T : TypeId} (S : BBt w0 w out hp cp X ((b, .cells #[c0, c1, c2, c3, c4, c5] T) :: K)) (kk : Int) (kx : Bool) (kn kp kl : Int) (ks : ByteArray) :
    BBt w0 ((((((w.setCell ⟨b, 0, none⟩ (.int .i64 kk)).setCell ⟨b, 1, none⟩ (.bool kx)).setCell ⟨b, 2, none⟩ (.int .i64 kn)).setCell ⟨b, 3, none⟩ (.int .i64 kp)).setCell ⟨b, 4, none⟩ (.int .i64 kl)).setCell ⟨b, 5, none⟩ (.string ks)) out hp cp X ((b, .cells #[.int .i64 kk, .bool kx, .int .i64 kn, .int .i64 kp, .int .i64 kl, .string ks] T) :: K) :=
  ScpAt.overB S fun _ A => ((A.perm List.perm_middle).putO kk kx kn kp kl ks).perm List.perm_middle.symm
theorem BBt.allocE {E : List (Nat × Obj)} (S : BBt w0 w out hp cp X (E ++ K)) (o : Obj) : BBt w0 (w.alloc o) out hp cp X (((w.heap.size, o) :: E) ++ K) := S.alloc o
theorem BBt.count (S : BBt w0 w out hp cp X K) : Calls Try.prog 16 #[] w fun e w' => e = .returned (.int .i64 162) ∧ BBt w0 w' out hp cp X K := (count_any w).mono fun _ _ h => ⟨h.1, S.pure h.2⟩
theorem BBt.opname (n : Int) (h1 : 1 ≤ n) (h2 : n ≤ 162) (S : BBt w0 w out hp cp X K) : Calls Try.prog 15 #[.int .i64 n] w fun e w' => e = .returned (.string (opN n)) ∧ BBt w0 w' out hp cp X K := (name_any n h1 h2 w).mono fun _ _ h => ⟨h.1, S.pure h.2⟩
theorem BBy.chg (h : BBy w0 out hp cp K w) : Chg NoB w0 w := by obtain ⟨X, E, S⟩ := h; exact BBt.chg S
/-- A box more, that holds an object. -/
def BW (w0 : World) (out : ByteArray) (hp cp : Nat) (X : List C) (K : List (Nat × Obj)) (o : O) (s : Value) (W : World) : Prop := ∃ b, s = ptr b ∧ BBt w0 W out hp cp X ((b, .cells o.cells.toArray 36) :: K)
theorem BW.mk {b : Nat} {kk : Int} {kx : Bool} {kn kp kl : Int} {ks : ByteArray} (S : BBt w0 w out hp cp X ((b, Obj.cells #[.int .i64 kk, .bool kx, .int .i64 kn, .int .i64 kp, .int .i64 kl, .string ks] 36) :: K)) : BW w0 out hp cp X K ⟨kk, kx, kn, kp, kl, ks⟩ (ptr b) w := ⟨b, rfl, S⟩
end
theorem get_aN {L : List C} {N : Nat} {is : List O} (hc : L[N]? = some (rowC is)) (_hN : N ≤ 40000) (_hs : is.length ≤ 40000) (z : Int) (hz : z = is.length) (i : Nat) (hi : i < is.length) (ex : Bool) (hm : mayH L ⟨9, ex, N, 0, z, ⟨#[]⟩⟩ = true) : getH L ⟨9, ex, N, 0, z, ⟨#[]⟩⟩ i = (is.getD i O.nil, 0) := by
  unfold getH
  have hf : findE L ⟨9, ex, N, 0, z, ⟨#[]⟩⟩ = 0 := by simp [findE, hm, held]
  rw [hf]
  simp only [ne_eq, not_true_eq_false, if_false, Int.toNat_natCast, hc, lenOf, atOf]
  have e9 : (9 : Int) = 10 ↔ False := by decide
  simp only [e9, if_false, if_neg (show ¬ ((i : Int) < 0 ∨ z ≤ i) by omega), Bool.false_eq_true, Int.zero_add, Int.toNat_natCast]
theorem pop_im (out : ByteArray) (ho : out.size ≤ 100) : ∃ yP dP, ImB out (exeN bPop) yP dP ∧ ImB out yP yP 0 ∧ ((out = bPop ∧ yP = exeN bPop ∧ dP = 0) ∨ (out ≠ bPop ∧ dP = 1 ∧ yP ≠ exeN bPop)) := by
  by_cases h : out = bPop
  · refine ⟨exeN bPop, 0, ?_, ?_, .inl ⟨h, rfl, rfl⟩⟩ <;> rw [← h] <;> exact .out ho
  · obtain ⟨i, hi, e⟩ := pop_is
    refine ⟨opO ((i : Int) + 1), 1, ?_, .op rfl (by show (7 : Int) ≠ 9; decide) (by show (7 : Int) ≠ 5; decide), .inr ⟨h, rfl, fun e2 => ?_⟩⟩
    · have := ImB.bind (out := out) i hi (by rw [e]; exact fun h2 => h h2.symm)
      rwa [e] at this
    · have := congrArg O.kind e2
      exact absurd this (by show ¬ (7 : Int) = 5; decide)
theorem set_last_row (q n : Nat) (h : n + 1 = q) (b : O) : (List.replicate q nullO).set n b = List.replicate n nullO ++ [b] := by
  rw [← h, List.replicate_succ', List.set_append_right _ _ (by simp)]
  simp
theorem filled_next (xs : List O) (n k : Nat) (b o : O) (h : xs.length = n) (ho : xs[k]? = some o) : (filled xs n k ++ [b]).set k o = filled xs n (k + 1) ++ [b] := by
  have hk : k < xs.length := (List.getElem?_eq_some_iff.1 ho).1
  rw [List.set_append_left _ _ (by rw [filled_length xs n k h (by omega)]; omega), filled_set xs n k h o ho]
set_option maxRecDepth 100000 in
set_option maxHeartbeats 16000000 in
theorem buildBinds_in (va : Value) (z : List Int) (hide : Int) (w : World) (wa : IntsAt w .u8 va z) (hh : 0 ≤ hide ∧ hide < 256) (hz : z.length ≤ 30) :
    Calls Try.prog 5 #[va, .int .u8 hide] w fun e w' => e = .returned (.bool true) ∧ Chg NoB w w' := by
  obtain ⟨ad, n, cap, rfl, hzl, hlc, hcm, hwz, hcell⟩ := wa
  have hval : ∀ i, i < n → 0 ≤ z.getD i 0 ∧ z.getD i 0 < 256 := fun i hi => by
    have := wf_u8 (hwz _ (List.getElem_mem (show i < z.length by omega)))
    rw [List.getD_eq_getElem?_getD, List.getElem?_eq_getElem (show i < z.length by omega)]
    exact this
  have HZC := hid' (fun (i : Nat) (hi : i < n) => (show ∃ b off, ad = some ⟨b, off, none⟩ ∧ b < w.heap.size ∧ w.cell? ⟨b, off + i, none⟩ = some (.int .u8 (z.getD i 0)) ∧ 0 ≤ z.getD i 0 ∧ z.getD i 0 < 256 by
    obtain ⟨b, off, h1, h2, h3⟩ := hcell (by omega)
    exact ⟨b, off, h1, h2, h3 i hi, hval i hi⟩))
  have HZL := hid' hzl
  have HKN := hid' (known22_any w)
  obtain ⟨h, hhm⟩ : ∃ h : Nat, hide.tmod 162 = h := ⟨(hide % 162).toNat, by rw [Int.tmod_eq_emod_of_nonneg hh.1]; omega⟩
  have hh162 : h < 162 := by rw [Int.tmod_eq_emod_of_nonneg hh.1] at hhm; omega
  obtain ⟨out, hout⟩ : ∃ out, opN ((h : Int) + 1) = out := ⟨_, rfl⟩
  have hos : out.size ≤ 100 := by rw [← hout]; exact opN_size h
  have HNM := hid' (fun W => name_any ((h : Int) + 1) (by omega) (by omega) W)
  rw [hout] at HNM
  have HOS := hid' hos
  have HOUT := hid' (And.intro hh162 hout)
  have hi9 := IntWalk.i64_in hide (by omega)
  have hi8 := IntWalk.i64_in ((h : Int) + 1) (by omega)
  have hc1 : (1 : Int) + h = (h : Int) + 1 := by omega
  have hn30 : ¬ (30 : Int) < n := by omega
  obtain ⟨q, hq⟩ : ∃ q, n + 1 = q := ⟨_, rfl⟩
  have hq1 : (n : Int) + 1 = q := by omega
  have hqw := IntWalk.i64_in (q : Int) (by omega)
  have hz0 : n ≤ 30 := by omega
  have hcn : (n : Int) ≤ cap := by omega
  have HA1 := hid' (array_a (hQ (bQ out) ++ []) q (by rw [List.append_nil, bQ_len]; decide) (by rw [List.append_nil, bQ_used]; omega))
  rw [List.append_nil, bQ_len] at HA1
  have HA2 := hid' (array_a (hQ (bQ out) ++ [rowC (List.replicate q nullO)]) 1 (by rw [List.length_append, bQ_len]; simp) (by rw [used_row, bQ_used, List.length_replicate]; omega))
  rw [List.length_append, bQ_len] at HA2
  clear hzl hwz hcell hval hz hlc hcm hh hout hos hh162
  go_enter Try.func5, Try.ntmps5
  go_wp2_with fail
  refine HKN.out.mono ?_
  rintro e w1 ⟨rfl, X1⟩
  go_wp2_with fail
  refine (at_hnew (Ats.start X1)).mono ?_
  rintro e w2 ⟨hp, rfl, A0⟩
  clear HKN X1
  go_wp2_with fail
  refine (q_new A0).mono ?_
  rintro e w3 ⟨cp, rfl, S1⟩
  clear A0
  go_wp2_with fail
  refine (count_any _).mono ?_
  rintro e w4 ⟨rfl, X4⟩
  go_wp2_with fail
  refine (HNM.out _).mono ?_
  rintro e w5 ⟨rfl, X5⟩
  have S2 := (S1.pure X4).pure X5
  clear S1 X4 X5 HNM
  have HDF := hid' (q_def sysQ sysQ_ok 1 S2 [] 200 rfl (by decide) out HOS.out nullO (by rfl))
  clear S2
  go_wp2_with fail
  refine HDF.out.mono ?_
  rintro e w6 ⟨rfl, S3⟩
  have S3 : BBt w w6 out hp cp [] [] := by
    unfold BBt
    rw [List.append_nil, ← bQ_set]
    exact S3
  clear HDF
  have HAR := hid' (S3.ask (X' := [rowC (List.replicate q nullO)]) (r := .tuple #[(arN 2 q).val, .int .i64 0]) (fun K' A => at_array A (q : Int) (by rw [List.append_nil]; exact HA1.out)))
  clear S3
  go_wp2_with fail
  refine HAR.out.mono ?_
  rintro e w7 ⟨rfl, S4⟩
  clear HAR
  have S5 := S4.alloc (Obj.cells #[.int .i64 9, .bool false, .int .i64 2, .int .i64 0, .int .i64 q, .string ⟨#[]⟩] 36)
  generalize hg : w7.heap.size = b9 at *
  go_upto_region 11 with (fail)
  generalize hW : w7.alloc _ = w8 at *
  clear hW hg S4
  have HAR := hid' (S5.ask (X' := [rowC (List.replicate q nullO), rowC [nullO]]) (r := .tuple #[(arN 3 1).val, .int .i64 0]) (fun K' A => at_array A (1 : Int) (HA2.out.trans (by simp))))
  clear S5
  go_wp2_with fail
  refine HAR.out.mono ?_
  rintro e w9 ⟨rfl, S6⟩
  clear HAR
  have S7 := S6.alloc (Obj.cells #[.int .i64 9, .bool false, .int .i64 3, .int .i64 0, .int .i64 1, .string ⟨#[]⟩] 36)
  generalize hg : w9.heap.size = b11 at *
  go_upto_region 12 with (fail)
  generalize hW : w9.alloc _ = w10 at *
  clear hW hg S6 HA1 HA2
  (try clear Rb); (try clear yb); (try clear Zb)
  have Rb := cells_of (S7.box _ m0)
  have yb := blk_lt (S7.box _ m0)
  have Zb := free_of (S7.box _ m0)
  (try simp only at Rb yb Zb)
  have S8 : BBt w (w10.setCell ⟨b11, 1, none⟩ (.bool true)) out hp cp [rowC (List.replicate q nullO), rowC [nullO]] ((b11, Obj.cells #[.int .i64 9, .bool true, .int .i64 3, .int .i64 0, .int .i64 1, .string ⟨#[]⟩] 36) :: (b9, Obj.cells #[.int .i64 9, .bool false, .int .i64 2, .int .i64 0, .int .i64 q, .string ⟨#[]⟩] 36) :: []) := S7.put 1 (.bool true)
  go_upto_region 13 with (fail)
  generalize w10.setCell _ _ = w11 at *
  clear S7 Rb yb Zb
  obtain ⟨KK, hKK⟩ : ∃ KK, KK = (b11, Obj.cells #[.int .i64 9, .bool true, .int .i64 3, .int .i64 0, .int .i64 1, .string ⟨#[]⟩] 36) :: (b9, Obj.cells #[.int .i64 9, .bool false, .int .i64 2, .int .i64 0, .int .i64 q, .string ⟨#[]⟩] 36) :: [] := ⟨_, rfl⟩
  have mb : (b11, Obj.cells #[.int .i64 9, .bool true, .int .i64 3, .int .i64 0, .int .i64 1, .string ⟨#[]⟩] 36) ∈ KK := by rw [hKK]; exact m0
  have ma : (b9, Obj.cells #[.int .i64 9, .bool false, .int .i64 2, .int .i64 0, .int .i64 q, .string ⟨#[]⟩] 36) ∈ KK := by rw [hKK]; exact m1
  rw [← hKK] at S8
  clear hKK
  obtain ⟨X1, hX1⟩ : ∃ X1, X1 = [rowC ((List.replicate q nullO).set n (arX 3 1)), rowC [nullO]] := ⟨_, rfl⟩
  obtain ⟨X2, hX2⟩ : ∃ X2, X2 = [rowC ((List.replicate q nullO).set n (arX 3 1)), rowC [exeN bPop]] := ⟨_, rfl⟩
  have hs1 : setH (hQ (bQ out) ++ [rowC (List.replicate q nullO), rowC [nullO]]) (arN 2 q) (n : Int) (arX 3 1) = (hQ (bQ out) ++ X1, 0) := by
    refine (set_a (N := 2) (LB_2 out (List.replicate q nullO) [nullO]) (by decide) (by rw [List.length_replicate]; omega) (q : Int) (by rw [List.length_replicate]) n (by rw [List.length_replicate]; omega) (arX 3 1) (may_arX (N := 3) (LB_3 out _ _) (by decide) (by decide) _ rfl)).trans ?_
    rw [LB_s2, hX1]
    rfl
  have hs2 : setH (hQ (bQ out) ++ X1) (arX 3 1) ((0 : Nat) : Int) (exeN bPop) = (hQ (bQ out) ++ X2, 0) := by
    rw [hX1]
    refine (set_aX (N := 3) (LB_3 out ((List.replicate q nullO).set n (arX 3 1)) [nullO]) (by decide) (by decide) 1 rfl 0 (by decide) (exeN bPop) (may_name _ _ true (by decide))).trans ?_
    rw [LB_s3, hX2]
    rfl
  have HS1 := hid' (fun W (S : BBt w W out hp cp [rowC (List.replicate q nullO), rowC [nullO]] KK) => S.ask (X' := X1) (fun K' A => at_set A (arN 2 q) (n : Int) (arX 3 1) hs1))
  have HS2 := hid' (fun W (S : BBt w W out hp cp X1 KK) => S.ask (X' := X2) (fun K' A => at_set A (arX 3 1) ((0 : Nat) : Int) (exeN bPop) hs2))
  obtain ⟨f, hf⟩ : ∃ f : Nat → List C, f = fun k => if k = 0 then [rowC (List.replicate q nullO), rowC [nullO]] else if k = 1 then X1 else X2 := ⟨_, rfl⟩
  have f0 : f 0 = [rowC (List.replicate q nullO), rowC [nullO]] := by rw [hf]; rfl
  have f1 : f 1 = X1 := by rw [hf]; rfl
  have f2 : f 2 = X2 := by rw [hf]; rfl
  rw [← f0, ← f1] at HS1
  rw [← f1, ← f2] at HS2
  rw [← f0] at S8
  rw [← f2] at hX2
  have HX2 := hid' hX2
  have CSE : Hid (∀ (k : Nat) (o x : Value) (i : Int) (W : World), BBt w W out hp cp (f k) KK → ((k = 0 ∧ o = .agg #[.int .i64 9, .bool false, .int .i64 2, .int .i64 0, .int .i64 q, .string ⟨#[]⟩] ∧ i = n ∧ x = .agg #[.int .i64 9, .bool true, .int .i64 3, .int .i64 0, .int .i64 1, .string ⟨#[]⟩]) ∨ (k = 1 ∧ o = .agg #[.int .i64 9, .bool true, .int .i64 3, .int .i64 0, .int .i64 1, .string ⟨#[]⟩] ∧ i = 0 ∧ x = (exeN bPop).val)) →
      Calls Try.prog 19 #[ptr hp, o, .int .i64 i, x] W fun r w' => r = .returned (.int .i64 0) ∧ BBt w w' out hp cp (f (k + 1)) KK) := hid' (fun k o x i W S hc => by
    rcases hc with ⟨rfl, rfl, rfl, rfl⟩ | ⟨rfl, rfl, rfl, rfl⟩
    · exact HS1.out W S
    · exact HS2.out W S)
  clear hs1 hs2 hX1 hX2 f0 f1 f2 hf HS1 HS2
  have QB := BBy.cells (w0 := w) (out := out) (hp := hp) (cp := cp) mb
  have QA := BBy.cells (w0 := w) (out := out) (hp := hp) (cp := cp) ma
  have la := blk_lt (S8.box _ ma)
  have lb := blk_lt (S8.box _ mb)
  simp only at la lb
  have hY := BBy.of0 S8
  have E0 : BBt w w11.drew out hp cp (f 0) KK := S8.drew
  have F0 : BBy w out hp cp KK w11.drew := BBy.of0 E0
  clear S8
  go_region_held3 (fun W' => BBy w out hp cp KK W') (first | (with_reducible assumption) | (with_reducible exact BBy.drew (by with_reducible assumption)))
    (first
      | (go_at_call 19; refine (CSE.out _ _ _ _ _ (by with_reducible assumption) (by first | (with_reducible exact .inl ⟨rfl, rfl, rfl, rfl⟩) | (with_reducible exact .inr ⟨rfl, rfl, rfl, rfl⟩))).mono ?_; rintro r wa ⟨rfl, SA⟩; have hA := BBy.of0 SA)
      | (go_at_call 20; refine (BBt.name _ (by with_reducible assumption)).mono ?_; rintro r wb ⟨rfl, SB⟩; have hB := BBy.of0 SB))
  obtain ⟨its, hits⟩ : ∃ its, its = (List.range n).map (itB z) := ⟨_, rfl⟩
  have hitl : its.length = n := by rw [hits]; simp
  have S9 : BBt w wa out hp cp [rowC (filled its n 0 ++ [arX 3 1]), rowC [exeN bPop]] KK := by
    have hx := SA
    rw [show f (1 + 1) = f 2 from rfl, HX2.out, set_last_row q n hq, ← filled_none its n] at hx
    exact hx
  have HITS := hid' (And.intro hits hitl)
  clear CSE QB QA la lb hY E0 F0 hA hB SA SB HX2 hits hitl
  go_wp2_with fail
  go_loopw [14] (fun iv wr => ∃ i : Nat, i ≤ n ∧ iv = .int .i64 i ∧ BBt w wr out hp cp [rowC (filled its n i ++ [arX 3 1]), rowC [exeN bPop]] KK) (fun iv _ => n - (intOf iv).toNat)
  case atStart => exact ⟨0, Nat.zero_le _, rfl, S9⟩
  case round =>
  obtain ⟨i, hin, rfl, S10⟩ := hrel
  clear S9
  by_cases hlt : i < n
  · have dl : (i : Int) < n := by omega
    have di : (0 : Int) ≤ i := by omega
    have vi := IntWalk.i64_in ((i : Int) + 1) (by omega)
    obtain ⟨b, off, rfl, hbl, hbc, z0, z1⟩ := HZC.out i hlt
    have hoi : its[i]? = some (itB z i) := by rw [HITS.out.1]; simp [hlt]
    obtain ⟨zi, hzi⟩ : ∃ zi, z.getD i 0 = zi := ⟨_, rfl⟩
    rw [hzi] at hbc z0 z1
    obtain ⟨kb, hkb⟩ : ∃ kb, kB z i = kb := ⟨_, rfl⟩
    have hkl := kB_lt z i
    rw [hkb] at hkl
    have hkz : zi.tmod 162 = kb := by
      rw [Int.tmod_eq_emod_of_nonneg z0, ← hkb]
      unfold kB
      rw [hzi]
      omega
    have zw := IntWalk.i64_in zi (by omega)
    have hk1 : (1 : Int) + kb = (kb : Int) + 1 := by omega
    have hkw := IntWalk.i64_in ((kb : Int) + 1) (by omega)
    have hit : itB z i = ⟨5, decide (zi < 200), 0, 0, 0, opN ((kb : Int) + 1)⟩ := by unfold itB; rw [hzi, hkb]
    rw [hit] at hoi
    have hst : setH (hQ (bQ out) ++ [rowC (filled its n i ++ [arX 3 1]), rowC [exeN bPop]]) (arN 2 q) (i : Int) ⟨5, decide (zi < 200), 0, 0, 0, opN ((kb : Int) + 1)⟩ = (hQ (bQ out) ++ [rowC (filled its n (i + 1) ++ [arX 3 1]), rowC [exeN bPop]], 0) := by
      have hfl := filled_length its n i HITS.out.2 (by omega)
      refine (set_a (N := 2) (LB_2 out (filled its n i ++ [arX 3 1]) [exeN bPop]) (by decide) (by simp; omega) (q : Int) (by simp; omega) i (by simp; omega) _ (may_name _ _ _ (opN_size kb))).trans ?_
      rw [LB_s2, filled_next its n i _ _ HITS.out.2 hoi]
      rfl
    have HST := hid' (fun W K' (S : BBt w W out hp cp [rowC (filled its n i ++ [arX 3 1]), rowC [exeN bPop]] K') => S.ask (X' := [rowC (filled its n (i + 1) ++ [arX 3 1]), rowC [exeN bPop]]) (fun K' A => at_set A (arN 2 q) (i : Int) ⟨5, decide (zi < 200), 0, 0, 0, opN ((kb : Int) + 1)⟩ hst))
    obtain ⟨Xi, hXi⟩ : ∃ Xi, Xi = [rowC (filled its n i ++ [arX 3 1]), rowC [exeN bPop]] := ⟨_, rfl⟩
    rw [← hXi] at HST S10
    obtain ⟨onm, hon⟩ : ∃ onm, opN ((kb : Int) + 1) = onm := ⟨_, rfl⟩
    rw [hon] at HST
    clear hst hoi hit hXi
    go_upto_region 19 with (fail)
    go_cut [15] (fun s1 wx => BW w out hp cp Xi KK ⟨5, true, 0, 0, 0, onm⟩ s1 wx)
    case first =>
      have QZ : ∀ W, BBy w out hp cp KK W → W.cell? ⟨b, off + i, none⟩ = some (.int .u8 zi) := fun W h => h.chg.old hbc
      have hY := BBy.of0 S10
      have E0 : BBt w wr.drew out hp cp Xi ([] ++ KK) := S10.drew
      have E1 : BBt w (wr.alloc (Obj.cells #[.int .i64 0, .bool false, .int .i64 0, .int .i64 0, .int .i64 0, .string ⟨#[]⟩] 36)).drew out hp cp Xi ([(wr.heap.size, Obj.cells #[.int .i64 0, .bool false, .int .i64 0, .int .i64 0, .int .i64 0, .string ⟨#[]⟩] 36)] ++ KK) := (S10.alloc _).drew
      have F0 : BBy w out hp cp KK wr.drew := BBy.of E0
      have F1 : BBy w out hp cp KK (wr.alloc (Obj.cells #[.int .i64 0, .bool false, .int .i64 0, .int .i64 0, .int .i64 0, .string ⟨#[]⟩] 36)).drew := BBy.of E1
      have HCN := hid' (fun E W (S : BBt w W out hp cp Xi (E ++ KK)) => S.count)
      have HON := hid' (fun E W (S : BBt w W out hp cp Xi (E ++ KK)) => S.opname ((kb : Int) + 1) (by omega) (by omega))
      rw [hon] at HON
      have HNA := hid' (fun E W (S : BBt w W out hp cp Xi (E ++ KK)) => S.name onm)
      clear S10 HST hon
      go_region_held3 (fun W' => BBy w out hp cp KK W') (first | (with_reducible assumption) | (with_reducible exact BBy.alloc (by with_reducible assumption) _) | (with_reducible exact BBy.drew (by with_reducible assumption)) | (with_reducible exact BBy.drew (BBy.alloc (by with_reducible assumption) _)))
        (first
          | (go_at_call 16; refine (HCN.out _ _ (by with_reducible assumption)).mono ?_; rintro r wb ⟨rfl, SB⟩; have hB0 := BBy.of SB; (try have yB := blk_lt (SB.box _ m0)); (try simp only at yB); have E3 := SB.allocE (Obj.cells #[.int .i64 0, .bool false, .int .i64 0, .int .i64 0, .int .i64 0, .string ⟨#[]⟩] 36); clear E0 E1)
          | (go_at_call 15; refine (HON.out _ _ (by with_reducible assumption)).mono ?_; rintro r wc ⟨rfl, SC⟩; have hC0 := BBy.of SC; (try have yC := blk_lt (SC.box _ m0)); (try simp only at yC); have E4 := SC.allocE (Obj.cells #[.int .i64 0, .bool false, .int .i64 0, .int .i64 0, .int .i64 0, .string ⟨#[]⟩] 36))
          | (go_at_call 20; refine (HNA.out _ _ (by with_reducible assumption)).mono ?_; rintro r wd ⟨rfl, SD⟩; have hD0 := BBy.of SD; (try simp only [List.cons_append, List.nil_append] at SD); (try have yz := blk_lt (SD.box _ m0)); (try simp only at yz); (try have Rz := cells_of (SD.box _ m0)); (try simp only at Rz); (try have Zz := free_of (SD.box _ m0)); (try simp only at Zz); (try (with_reducible have t1 := BBy.of (E := [_]) (K := KK) (SD.putO 5 true 0 0 0 onm)))))
      all_goals
        go_wp2_with fail
        go_meet
      · have S9 := SD.alloc (Obj.cells #[.int .i64 5, .bool true, .int .i64 0, .int .i64 0, .int .i64 0, .string onm] 36)
        with_reducible exact BW.mk S9
      · with_reducible exact BW.mk (SD.putO 5 true 0 0 0 onm)
      · with_reducible exact BW.mk (SD.putO 5 true 0 0 0 onm)
      · with_reducible exact BW.mk (SD.putO 5 true 0 0 0 onm)
    case rest =>
    obtain ⟨b15, rfl, S11⟩ := hcut
    clear S10
    have hb1 := (S11.chg).old hbc
    have R5 := cells_of (S11.box _ m0)
    have y5 := blk_lt (S11.box _ m0)
    have Z5 := free_of (S11.box _ m0)
    simp only at R5 y5 Z5
    have S12 : BBt w (wc.setCell ⟨b15, 1, none⟩ (.bool (decide (zi < 200)))) out hp cp Xi ((b15, Obj.cells #[.int .i64 5, .bool (decide (zi < 200)), .int .i64 0, .int .i64 0, .int .i64 0, .string onm] 36) :: KK) := S11.put 1 (.bool (decide (zi < 200)))
    go_upto_region 21 with (fail)
    generalize wc.setCell _ _ = w12 at *
    clear S11 hb1 R5 y5 Z5
    have HST2 := hid' (HST.out _ _ S12)
    (try clear Ra); (try clear ya); (try clear Za)
    have Ra := cells_of (S12.box _ (List.mem_cons_of_mem _ ma))
    have ya := blk_lt (S12.box _ (List.mem_cons_of_mem _ ma))
    (try clear Rx); (try clear yx); (try clear Zx)
    have Rx := cells_of (S12.box _ m0)
    have yx := blk_lt (S12.box _ m0)
    (try simp only at Ra ya Rx yx)
    clear S12 HST
    go_wp2_with fail
    refine HST2.out.mono ?_
    rintro r w13 ⟨rfl, S13⟩
    clear HST2 Ra ya Rx yx
    have S14 := S13.keep (List.sublist_cons_self _ _)
    clear S13
    go_wp2_with fail
    go_roundw
    case rel => exact ⟨i + 1, by omega, by go_num, S14⟩
    case measure => simp [intOf]; omega
  · obtain rfl : i = n := by omega
    rw [filled_all its i HITS.out.2] at S10
    obtain ⟨yP, dP, hP1, hP2, hP3⟩ := pop_im out HOS.out
    obtain ⟨ys, hys⟩ : ∃ ys, ys = (List.range i).map (yB out z) := ⟨_, rfl⟩
    have hi1 := its_im out HOS.out z i
    have hi2 := ys_im out HOS.out z i
    rw [← HITS.out.1, ← hys] at hi1
    rw [← hys] at hi2
    have hyl : ys.length = i := by rw [hys]; simp
    have hcnt := cntB_is out z i
    have hB1 := outer_two hi1 hP1 (by rw [HITS.out.2]; exact hz0) (by omega)
    have hB2 := outer_two hi2 hP2 (by rw [hyl]; exact hz0) (by omega)
    rw [HITS.out.2] at hB1
    rw [hyl] at hB2
    have hm1 : ∀ us bs, us.length = q → mayH (LB out us bs) (arN 2 q) = true := fun us bs hu => may_a (N := 2) (LB_2 out us bs) (by decide) (by omega) (q : Int) (by rw [hu])
    have HB1 := hid' (fun W K' (S : BBt w W out hp cp [rowC (its ++ [arX 3 1]), rowC [exeN bPop]] K') => S.bind (X' := [rowC (ys ++ [arX 3 1]), rowC [yP]]) (z := q) (n' := cntB out z i + dP) (hm1 _ _ (by rw [List.length_append, HITS.out.2]; exact hq)) (by rw [hq1] at hB1; exact hB1))
    have HB2 := hid' (fun W K' (S : BBt w W out hp cp [rowC (ys ++ [arX 3 1]), rowC [yP]] K') => S.bind (X' := [rowC (ys ++ [arX 3 1]), rowC [yP]]) (z := q) (n' := 0 + 0) (hm1 _ _ (by rw [List.length_append, hyl]; exact hq)) (by rw [hq1] at hB2; exact hB2))
    rw [Int.add_zero] at HB2
    have HG1 := hid' (fun W K' (j : Nat) (hj : j < i) (S : BBt w W out hp cp [rowC (ys ++ [arX 3 1]), rowC [yP]] K') => S.ask (X' := [rowC (ys ++ [arX 3 1]), rowC [yP]]) (r := .tuple #[(yB out z j).val, .int .i64 0]) (fun K2 A => at_get A (arN 2 q) (j : Int) ((get_aN (N := 2) (LB_2 out (ys ++ [arX 3 1]) [yP]) (by decide) (by simp; omega) (q : Int) (by simp; omega) j (by simp; omega) false (hm1 _ _ (by rw [List.length_append, hyl]; exact hq))).trans (by
      rw [List.getD_eq_getElem?_getD, List.getElem?_append_left (by omega), hys]
      simp [hj]))))
    have HG2 := hid' (fun W K' (S : BBt w W out hp cp [rowC (ys ++ [arX 3 1]), rowC [yP]] K') => S.ask (X' := [rowC (ys ++ [arX 3 1]), rowC [yP]]) (r := .tuple #[yP.val, .int .i64 0]) (fun K2 A => at_get A (arX 3 1) ((0 : Nat) : Int) (get_aN (N := 3) (LB_3 out (ys ++ [arX 3 1]) [yP]) (by decide) (by simp) (1 : Int) rfl 0 (by simp) true (may_arX (N := 3) (LB_3 out _ _) (by decide) (by simp) _ rfl))))
    have HP3 := hid' hP3
    have HCN := hid' hcnt
    clear hi1 hi2 hB1 hB2 hm1 hP1 hP2 hP3 hcnt
    obtain ⟨XA, hXA⟩ : ∃ XA, XA = [rowC (its ++ [arX 3 1]), rowC [exeN bPop]] := ⟨_, rfl⟩
    obtain ⟨XB, hXB⟩ : ∃ XB, XB = [rowC (ys ++ [arX 3 1]), rowC [yP]] := ⟨_, rfl⟩
    rw [← hXA, ← hXB] at HB1
    rw [← hXB] at HB2 HG1 HG2
    rw [← hXA] at S10
    clear hXA hXB hyl hys
    (try clear Ra); (try clear ya); (try clear Za)
    have Ra := cells_of (S10.box _ ma)
    have ya := blk_lt (S10.box _ ma)
    (try simp only at Ra ya)
    go_wp2_with fail
    refine (HB1.out _ _ S10).mono ?_
    rintro r w14 ⟨rfl, S11⟩
    clear S10 Ra ya HB1
    have C0 : cntB out z 0 = 0 := rfl
    go_wp2_with fail
    go_loopw [18, 13] (fun iv nv wr => ∃ j : Nat, j ≤ i ∧ iv = .int .i64 j ∧ nv = .int .i64 (cntB out z j) ∧ BBt w wr out hp cp XB KK) (fun iv _ _ => i - (intOf iv).toNat)
    case atStart => exact ⟨0, Nat.zero_le _, rfl, rfl, S11⟩
    case round =>
    obtain ⟨j, hji, rfl, rfl, S12⟩ := hrel
    clear S11 C0
    by_cases hlt : j < i
    · have dl : (j : Int) < i := by omega
      have di : (0 : Int) ≤ j := by omega
      have vi := IntWalk.i64_in ((j : Int) + 1) (by omega)
      obtain ⟨b, off, rfl, hbl, hbc, z0, z1⟩ := HZC.out j hlt
      obtain ⟨zi, hzi⟩ : ∃ zi, z.getD j 0 = zi := ⟨_, rfl⟩
      rw [hzi] at hbc z0 z1
      obtain ⟨kb, hkb⟩ : ∃ kb, kB z j = kb := ⟨_, rfl⟩
      have hkl := kB_lt z j
      rw [hkb] at hkl
      have hkz : zi.tmod 162 = kb := by
        rw [Int.tmod_eq_emod_of_nonneg z0, ← hkb]
        unfold kB
        rw [hzi]
        omega
      have zw := IntWalk.i64_in zi (by omega)
      have hk1 : (1 : Int) + kb = (kb : Int) + 1 := by omega
      have hkw := IntWalk.i64_in ((kb : Int) + 1) (by omega)
      have hit : itB z j = ⟨5, decide (zi < 200), 0, 0, 0, opN ((kb : Int) + 1)⟩ := by unfold itB; rw [hzi, hkb]
      obtain ⟨onm, hon⟩ : ∃ onm, opN ((kb : Int) + 1) = onm := ⟨_, rfl⟩
      rw [hon] at hit
      have HON := hid' (fun W (S : BBt w W out hp cp XB KK) => S.opname ((kb : Int) + 1) (by omega) (by omega))
      rw [hon] at HON
      have HCT := hid' (fun W (S : BBt w W out hp cp XB KK) => S.count)
      have HGJ := hid' (fun W K' (S : BBt w W out hp cp XB K') => HG1.out W K' j hlt S)
      have hond : onB out z j ↔ (zi < 200 ∧ onm ≠ out) := by unfold onB; rw [hzi, hkb, hon]
      go_upto_region 27 with (fail)
      go_cut [19] (fun s1 wx => s1 = .int .i64 ((kb : Int) + 1) ∧ BBt w wx out hp cp XB KK)
      case first =>
        have QZ : ∀ W, BBy w out hp cp KK W → W.cell? ⟨b, off + j, none⟩ = some (.int .u8 zi) := fun W h => h.chg.old hbc
        have hY := BBy.of0 S12
        have E0 : BBt w wr.drew out hp cp XB KK := S12.drew
        have F0 : BBy w out hp cp KK wr.drew := BBy.of0 E0
        clear S12 HGJ HON HG1 HG2 HB2
        go_region_held3 (fun W' => BBy w out hp cp KK W') (first | (with_reducible assumption) | (with_reducible exact BBy.drew (by with_reducible assumption)))
          ((go_at_call 16; refine (HCT.out _ (by with_reducible assumption)).mono ?_; rintro r wb ⟨rfl, SB⟩; have hB0 := BBy.of0 SB))
        go_wp2_with fail
        go_meet
        exact ⟨rfl, SB⟩
      case rest =>
      obtain ⟨rfl, S13⟩ := hcut
      clear S12
      go_wp2_with fail
      refine (HON.out _ S13).mono ?_
      rintro r w14b ⟨rfl, S14⟩
      clear S13 HON
      go_wp2_with fail
      refine (BBt.name onm S14).mono ?_
      rintro r w15 ⟨rfl, S15⟩
      clear S14
      have S16 := S15.alloc (Obj.cells #[.int .i64 5, .bool true, .int .i64 0, .int .i64 0, .int .i64 0, .string onm] 36)
      generalize hg : w15.heap.size = b20 at *
      go_upto_region 29 with (fail)
      generalize hW : w15.alloc _ = w16 at *
      clear hW hg S15
      have hb1 := (S16.chg).old hbc
      have Rx := cells_of (S16.box _ m0)
      have yx := blk_lt (S16.box _ m0)
      have Zx := free_of (S16.box _ m0)
      simp only at Rx yx Zx
      have S16 : BBt w (w16.setCell ⟨b20, 1, none⟩ (.bool (decide (zi < 200)))) out hp cp XB ((b20, Obj.cells #[.int .i64 5, .bool (decide (zi < 200)), .int .i64 0, .int .i64 0, .int .i64 0, .string onm] 36) :: KK) := S16.put 1 (.bool (decide (zi < 200)))
      go_upto_region 30 with (fail)
      generalize w16.setCell _ _ = w17 at *
      clear hb1 Rx yx Zx
      have Rx := cells_of (S16.box _ m0)
      have yx := blk_lt (S16.box _ m0)
      have Zx := free_of (S16.box _ m0)
      have Ra := cells_of (S16.box _ (List.mem_cons_of_mem _ ma))
      have ya := blk_lt (S16.box _ (List.mem_cons_of_mem _ ma))
      simp only at Rx yx Zx Ra ya
      by_cases h200 : zi < 200
      · rw [decide_eq_true h200] at S16 hit Rx
        by_cases hne : onm = out
        · have hon2 : ¬ onB out z j := fun h => (hond.1 h).2 hne
          subst hne
          have hbe : (onm == onm) = true := (MapKept.bytes_beq _ _).2 rfl
          clear hond
          have hyv : yB onm z j = ⟨5, true, 0, 0, 0, onm⟩ := by
            unfold yB
            rw [if_neg hon2]
            exact hit
          have hcv : cntB onm z (j + 1) = cntB onm z j := by rw [cntB_succ]; unfold cB; rw [if_neg hon2]; exact Int.add_zero _
          rw [hyv] at HGJ
          have qv := eqO_self (⟨5, true, 0, 0, 0, onm⟩ : O)
          have S17 := S16
          clear S16
          have HGK := hid' (HGJ.out _ _ S17)
          go_upto_region 33 with (fail)
          go_wp2_with fail
          refine HGK.out.mono ?_
          rintro r w19 ⟨rfl, S18⟩
          clear HGK Rx yx Ra ya S17
          have S19 := S18.alloc (Obj.cells #[.int .i64 5, .bool true, .int .i64 0, .int .i64 0, .int .i64 0, .string onm] 36)
          generalize hg : w19.heap.size = b21 at *
          go_upto_region 34 with (fail)
          generalize hW : w19.alloc _ = w20 at *
          clear hW hg S18
          have Rx := cells_of (S19.box (b20, _) m1)
          have yx := blk_lt (S19.box (b20, _) m1)
          have Ry := cells_of (S19.box _ m0)
          have yy := blk_lt (S19.box _ m0)
          simp only at Rx yx Ry yy
          have S20 := S19.keep (K' := KK) ((List.sublist_cons_self _ _).trans (List.sublist_cons_self _ _))
          clear S19
          go_wp2_with fail
          go_roundw
          case rel => exact ⟨j + 1, by omega, by go_num, by rw [hcv], S20⟩
          case measure => simp [intOf]; omega
        · have hon2 : onB out z j := hond.2 ⟨h200, hne⟩
          have hbe : (onm == out) = false := by
            cases hb : onm == out with
            | false => rfl
            | true => exact absurd ((MapKept.bytes_beq _ _).1 hb) hne
          have hbl : (onm.toList == out.toList) = false := by
            rw [beq_eq_false_iff_ne]
            intro e
            rw [ByteArray.toList_eq, ByteArray.toList_eq] at e
            exact hne (ByteArray.ext (Array.toList_inj.1 e))
          clear hne hond
          have hyv : yB out z j = ⟨7, true, (kb : Int) + 1, 0, 0, ⟨#[]⟩⟩ := by
            unfold yB
            rw [if_pos hon2]
            rw [hkb]
          have hcv : cntB out z (j + 1) = cntB out z j + 1 := by rw [cntB_succ]; unfold cB; rw [if_pos hon2]
          rw [hyv] at HGJ
          have qv := eqO_self (⟨7, true, (kb : Int) + 1, 0, 0, ⟨#[]⟩⟩ : O)
          go_upto_region 32 with (fail)
          have S17 := S16.putO 7 true ((kb : Int) + 1) 0 0 ⟨#[]⟩
          generalize (((((w17.setCell _ _).setCell _ _).setCell _ _).setCell _ _).setCell _ _).setCell _ _ = w18 at *
          clear S16 Rx yx Zx Ra ya
          have hnw := IntWalk.i64_in (cntB out z j + 1) (by have := cntB_is out z j; omega)
          have HGK := hid' (HGJ.out _ _ S17)
          have Rx := cells_of (S17.box _ m0)
          have yx := blk_lt (S17.box _ m0)
          have Ra := cells_of (S17.box _ (List.mem_cons_of_mem _ ma))
          have ya := blk_lt (S17.box _ (List.mem_cons_of_mem _ ma))
          simp only at Rx yx Ra ya
          go_upto_region 33 with (fail)
          go_wp2_with fail
          refine HGK.out.mono ?_
          rintro r w19 ⟨rfl, S18⟩
          clear HGK Rx yx Ra ya S17
          have S19 := S18.alloc (Obj.cells #[.int .i64 7, .bool true, .int .i64 ((kb : Int) + 1), .int .i64 0, .int .i64 0, .string ⟨#[]⟩] 36)
          generalize hg : w19.heap.size = b21 at *
          go_upto_region 34 with (fail)
          generalize hW : w19.alloc _ = w20 at *
          clear hW hg S18
          have Rx := cells_of (S19.box (b20, _) m1)
          have yx := blk_lt (S19.box (b20, _) m1)
          have Ry := cells_of (S19.box _ m0)
          have yy := blk_lt (S19.box _ m0)
          simp only at Rx yx Ry yy
          have S20 := S19.keep (K' := KK) ((List.sublist_cons_self _ _).trans (List.sublist_cons_self _ _))
          clear S19
          go_wp2_with fail
          go_roundw
          case rel => exact ⟨j + 1, by omega, by go_num, by rw [hcv], S20⟩
          case measure => simp [intOf]; omega
      · rw [decide_eq_false h200] at S16 hit Rx
        have hon2 : ¬ onB out z j := fun h => h200 (hond.1 h).1
        have hyv : yB out z j = ⟨5, false, 0, 0, 0, onm⟩ := by
          unfold yB
          rw [if_neg hon2]
          exact hit
        have hcv : cntB out z (j + 1) = cntB out z j := by rw [cntB_succ]; unfold cB; rw [if_neg hon2]; exact Int.add_zero _
        rw [hyv] at HGJ
        have qv := eqO_self (⟨5, false, 0, 0, 0, onm⟩ : O)
        have S17 := S16
        clear S16
        have HGK := hid' (HGJ.out _ _ S17)
        go_upto_region 33 with (fail)
        go_wp2_with fail
        refine HGK.out.mono ?_
        rintro r w19 ⟨rfl, S18⟩
        clear HGK Rx yx Ra ya S17
        have S19 := S18.alloc (Obj.cells #[.int .i64 5, .bool false, .int .i64 0, .int .i64 0, .int .i64 0, .string onm] 36)
        generalize hg : w19.heap.size = b21 at *
        go_upto_region 34 with (fail)
        generalize hW : w19.alloc _ = w20 at *
        clear hW hg S18
        have Rx := cells_of (S19.box (b20, _) m1)
        have yx := blk_lt (S19.box (b20, _) m1)
        have Ry := cells_of (S19.box _ m0)
        have yy := blk_lt (S19.box _ m0)
        simp only at Rx yx Ry yy
        have S20 := S19.keep (K' := KK) ((List.sublist_cons_self _ _).trans (List.sublist_cons_self _ _))
        clear S19
        go_wp2_with fail
        go_roundw
        case rel => exact ⟨j + 1, by omega, by go_num, by rw [hcv], S20⟩
        case measure => simp [intOf]; omega
    · obtain rfl : j = i := by omega
      have HCI := hid' (cntB_is out z j)
      obtain ⟨cj, hcj⟩ : ∃ cj, cntB out z j = cj := ⟨_, rfl⟩
      rw [hcj] at HCI ⊢
      have hcw := IntWalk.i64_in (cj + 1) (by have := HCI.out; omega)
      (try clear Rb); (try clear yb); (try clear Zb)
      have Rb := cells_of (S12.box _ mb)
      have yb := blk_lt (S12.box _ mb)
      (try simp only at Rb yb)
      have HP4 := HP3.out
      clear HP3
      rcases HP4 with ⟨rfl, rfl, rfl⟩ | ⟨hne, rfl, hyp⟩
      · rw [Int.add_zero]
        have HGB := hid' (HG2.out _ _ S12)
        have qv := eqO_self (exeN bPop)
        clear S12 HG1 HG2 HCN HOUT HITS HZC HZL hcj
        go_wp2_with fail
        refine HGB.out.mono ?_
        rintro r w15 ⟨rfl, S13⟩
        clear HGB Rb yb
        have S14 := S13.alloc (Obj.cells #[.int .i64 5, .bool true, .int .i64 0, .int .i64 0, .int .i64 0, .string ⟨#[112, 111, 112]⟩] 36)
        generalize hg : w15.heap.size = b23 at *
        go_upto_region 37 with (fail)
        generalize hW : w15.alloc _ = w16 at *
        clear hW hg S13
        have m23 : (b23, Obj.cells #[.int .i64 5, .bool true, .int .i64 0, .int .i64 0, .int .i64 0, .string ⟨#[112, 111, 112]⟩] 36) ∈ (b23, Obj.cells #[.int .i64 5, .bool true, .int .i64 0, .int .i64 0, .int .i64 0, .string ⟨#[112, 111, 112]⟩] 36) :: KK := List.mem_cons_self ..
        have ma3 := List.mem_cons_of_mem (b23, Obj.cells #[.int .i64 5, .bool true, .int .i64 0, .int .i64 0, .int .i64 0, .string ⟨#[112, 111, 112]⟩] 36) ma
        obtain ⟨KX, hKX⟩ : ∃ KX, KX = (b23, Obj.cells #[.int .i64 5, .bool true, .int .i64 0, .int .i64 0, .int .i64 0, .string ⟨#[112, 111, 112]⟩] 36) :: KK := ⟨_, rfl⟩
        rw [← hKX] at m23 ma3 S14
        clear hKX
        have HBB := hid' (HB2.out _ _ S14)
        have Ra := cells_of (S14.box _ ma3)
        have ya := blk_lt (S14.box _ ma3)
        simp only at Ra ya
        go_upto_region 39 with (fail)
        go_wp2_with fail
        refine HBB.out.mono ?_
        rintro r w17 ⟨rfl, S15⟩
        clear HBB Ra ya S14
        have Q23 := BBy.cells (w0 := w) (out := bPop) (hp := hp) (cp := cp) m23
        have y23 := blk_lt (S15.box _ m23)
        simp only at y23
        have hY := BBy.of0 S15
        have E0 : BBt w w17.drew bPop hp cp XB KX := S15.drew
        have F0 : BBy w bPop hp cp KX w17.drew := BBy.of0 E0
        clear S15
        go_upto_region 40 with (fail)
        go_region_held3 (fun W' => BBy w bPop hp cp KX W') (first | (with_reducible assumption) | (with_reducible exact BBy.drew (by with_reducible assumption)))
          ((go_at_call 20; refine (BBt.name _ (by with_reducible assumption)).mono ?_; rintro r wb ⟨rfl, SB⟩; have hB0 := BBy.of0 SB))
        go_wp2_with fail
        go_ret
        exact ⟨rfl, BBt.chg SB⟩
      · have hbl : (out.toList == bPop.toList) = false := by
          rw [beq_eq_false_iff_ne]
          intro e
          rw [ByteArray.toList_eq, ByteArray.toList_eq] at e
          exact hne (ByteArray.ext (Array.toList_inj.1 e))
        have hbp : ByteArray.toList ⟨#[112, 111, 112]⟩ = [112, 111, 112] := by rw [ByteArray.toList_eq]
        have hbm : (out.toList == [112, 111, 112]) = false := by rw [← hbp]; exact hbl
        have qv := eqO_ne hyp
        obtain ⟨pk, px, pn, pp, pl, ps⟩ := yP
        have HGB := hid' (HG2.out _ _ S12)
        clear S12 HG1 HG2 HCN HOUT HITS HZC HZL hcj hne hyp hbp
        go_wp2_with fail
        refine HGB.out.mono ?_
        rintro r w15 ⟨rfl, S13⟩
        clear HGB Rb yb
        have S14 := S13.alloc (Obj.cells #[.int .i64 pk, .bool px, .int .i64 pn, .int .i64 pp, .int .i64 pl, .string ps] 36)
        generalize hg : w15.heap.size = b23 at *
        go_upto_region 37 with (fail)
        generalize hW : w15.alloc _ = w16 at *
        clear hW hg S13
        have m23 : (b23, Obj.cells #[.int .i64 pk, .bool px, .int .i64 pn, .int .i64 pp, .int .i64 pl, .string ps] 36) ∈ (b23, Obj.cells #[.int .i64 pk, .bool px, .int .i64 pn, .int .i64 pp, .int .i64 pl, .string ps] 36) :: KK := List.mem_cons_self ..
        have ma3 := List.mem_cons_of_mem (b23, Obj.cells #[.int .i64 pk, .bool px, .int .i64 pn, .int .i64 pp, .int .i64 pl, .string ps] 36) ma
        obtain ⟨KX, hKX⟩ : ∃ KX, KX = (b23, Obj.cells #[.int .i64 pk, .bool px, .int .i64 pn, .int .i64 pp, .int .i64 pl, .string ps] 36) :: KK := ⟨_, rfl⟩
        rw [← hKX] at m23 ma3 S14
        clear hKX
        have HBB := hid' (HB2.out _ _ S14)
        have Ra := cells_of (S14.box _ ma3)
        have ya := blk_lt (S14.box _ ma3)
        simp only at Ra ya
        go_upto_region 39 with (fail)
        go_wp2_with fail
        refine HBB.out.mono ?_
        rintro r w17 ⟨rfl, S15⟩
        clear HBB Ra ya S14
        have Q23 := BBy.cells (w0 := w) (out := out) (hp := hp) (cp := cp) m23
        have y23 := blk_lt (S15.box _ m23)
        simp only at y23
        have hY := BBy.of0 S15
        have E0 : BBt w w17.drew out hp cp XB KX := S15.drew
        have F0 : BBy w out hp cp KX w17.drew := BBy.of0 E0
        clear S15
        go_upto_region 40 with (fail)
        go_region_held3 (fun W' => BBy w out hp cp KX W') (first | (with_reducible assumption) | (with_reducible exact BBy.drew (by with_reducible assumption)))
          ((go_at_call 20; refine (BBt.name _ (by with_reducible assumption)).mono ?_; rintro r wb ⟨rfl, SB⟩; have hB0 := BBy.of0 SB))
        go_wp2_with fail
        go_ret
        exact ⟨rfl, BBt.chg SB⟩
end Go.Proofs.Ytpgkjgceldleaaa
/- BuildBinds, whatever comes. -/
namespace Go.Proofs.Ytpgkjgceldleaaa
open Go.RowKit

set_option maxRecDepth 100000 in
theorem buildBinds_any (va : Value) (z : List Int) (hide : Int) (w : World) (wa : IntsAt w .u8 va z) (h0 : 0 ≤ hide) (h1 : hide < 256) :
    Calls Try.prog 5 #[va, .int .u8 hide] w fun e w' => e = .returned (.bool true) ∧ Chg NoB w w' := by
  by_cases hz : z.length ≤ 30
  · exact buildBinds_in va z hide w wa ⟨h0, h1⟩ hz
  · have HKN := hid' (known22_any w)
    obtain ⟨ad, n, cap, rfl, hzl, -⟩ := wa
    have d1 : decide ((30 : Int) < n) = true := by simp; omega
    clear hz hzl
    go_enter Try.func5, Try.ntmps5
    go_wp2_with fail
    refine HKN.out.mono ?_
    rintro r w1 ⟨rfl, X1⟩
    go_wp2_with fail
    go_ret
    exact ⟨rfl, X1⟩
end Go.Proofs.Ytpgkjgceldleaaa
