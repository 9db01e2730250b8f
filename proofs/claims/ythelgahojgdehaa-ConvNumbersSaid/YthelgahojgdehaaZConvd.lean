/- Cwh, Cbp, Cb8, Cb9, Cb0, Fxp -/
import Derived.Test.YthelgahojgdehaaZConvc
import Derived.Test.YthelgahojgdehaaZTrd
/- Walk: tympanlaw21.ConvWhole. -/
namespace Go.Proofs.Ythelgahojgdehaa
open Go.RowKit

theorem num_plain {w0 : World} {M : List (Nat × List C)} (o : O) (hp : Nat) (hk : o.kind ≠ 8) : ∀ w' K', Ats w0 w' M K' → Calls Try.prog 61 #[ptr hp, o.val] w' fun e w2 => e = .returned (.tuple #[o.val, .int .i64 0]) ∧ Ats w0 w2 M K' :=
  fun _ _ A => (at_numP o hp hk _).mono fun _ _ ⟨h1, h2⟩ => ⟨h1, A.pure h2⟩
theorem isN3 : isK 1792 3 = false := by decide +kernel
theorem isN4 : isK 1792 4 = false := by decide +kernel
theorem mul_tdiv (k : Int) : (k * 65536).tdiv 65536 = k := Int.mul_tdiv_cancel _ (by decide)
set_option maxRecDepth 100000 in
set_option maxHeartbeats 2000000 in
theorem convWhole_any (v n : Int) (l1 : -32768 ≤ n) (u1 : n < 32768) (w : World) :
    Calls Try.prog 5 #[.int .i64 v, .int .i16 n] w fun e w' => e = .returned (.bool true) ∧ Chg NoB w w' := by
  have hP := place_any v 2147483647 (by decide) (by decide)
  have f0 := Int.emod_nonneg v (show (2147483647 : Int) ≠ 0 by decide)
  have f1 := Int.emod_lt_of_pos v (show (0 : Int) < 2147483647 by decide)
  obtain ⟨p, hp⟩ : ∃ p, v % 2147483647 = p := ⟨_, rfl⟩
  rw [hp] at hP f0 f1
  have HP := hid' hP
  obtain ⟨f, hf⟩ : ∃ f, p - 1073741823 = f := ⟨_, rfl⟩
  have g0 : -1073741823 ≤ f := by omega
  have g1 : f ≤ 1073741823 := by omega
  obtain ⟨k, hk⟩ : ∃ k, n.tmod 16000 = k := ⟨_, rfl⟩
  have k01 : -16000 < k ∧ k < 16000 := by
    rw [← hk]
    by_cases c : 0 ≤ n
    · rw [Int.tmod_eq_emod_of_nonneg c]; omega
    · obtain ⟨u, rfl⟩ : ∃ u, n = -u := ⟨-n, by omega⟩
      rw [Int.neg_tmod, Int.tmod_eq_emod_of_nonneg (by omega)]; omega
  obtain ⟨k0, k1⟩ := k01
  have kw := IntWalk.i64_in k (by omega)
  have HW1 := hid' (fun (hp : Nat) (w' : World) (K' : List (Nat × Obj)) (A : Ats w w' [(hp, [])] K') => at_whole A (fO f) (fO f) (num_plain _ hp (by simp)) (fun _ => ⟨g0, g1⟩))
  have HW2 := hid' (fun (hp : Nat) (w' : World) (K' : List (Nat × Obj)) (A : Ats w w' [(hp, [])] K') => at_fixed A (iO k) (iO k) (num_plain _ hp (by simp)) (fun _ => ⟨rfl, by simp only; omega, by simp only; omega⟩))
  have HW3 := hid' (fun (hp : Nat) (w' : World) (K' : List (Nat × Obj)) (A : Ats w w' [(hp, [])] K') => at_whole A (fO (k * 65536)) (fO (k * 65536)) (num_plain _ hp (by simp)) (fun _ => ⟨by simp only; omega, by simp only; omega⟩))
  have e1 : wholeO (fO f) = iO (f.tdiv 65536) := rfl
  have e2 : fixedO (iO k) = fO (k * 65536) := rfl
  have e3 : wholeO (fO (k * 65536)) = iO k := by rw [show wholeO (fO (k * 65536)) = iO ((k * 65536).tdiv 65536) from rfl, mul_tdiv]
  have tq := tdiv_rng f g0 g1
  have tw := IntWalk.i64_in (f.tdiv 65536) (by omega)
  have M1 := mayI (f.tdiv 65536) (by omega) (by omega)
  have M2 := mayF (k * 65536) (by omega) (by omega)
  have M3 := mayI k (by omega) (by omega)
  have M0 := mayF f g0 g1
  rw [e1] at HW1
  rw [e2] at HW2
  rw [e3] at HW3
  have HD1 := hid' (fun (hp sp : Nat) (w' : World) (K' : List (Nat × Obj)) (S' : StkAt w w' [(hp, [])] K' sp ([] ++ [fO f])) => conv_cvi S' m0 (isK_280 4 (by decide)) (held_not isN4) M1 (HW1.out hp) (M' := []))
  have HD2 := hid' (fun (hp sp : Nat) (w' : World) (K' : List (Nat × Obj)) (S' : StkAt w w' [(hp, [])] K' sp ([] ++ [iO k])) => conv_cvr S' m0 (isK_280 3 (by decide)) (held_not isN3) M2 (HW2.out hp) (M' := []))
  have HD3 := hid' (fun (hp sp : Nat) (w' : World) (K' : List (Nat × Obj)) (S' : StkAt w w' [(hp, [])] K' sp ([] ++ [fO (k * 65536)])) => conv_cvi S' m0 (isK_280 4 (by decide)) (held_not isN4) M3 (HW3.out hp) (M' := []))
  have q1 : eqO ⟨3, false, f.tdiv 65536, 0, 0, ⟨#[]⟩⟩ ⟨3, false, f.tdiv 65536, 0, 0, ⟨#[]⟩⟩ = true := eqO_self _
  have q2 : eqO ⟨3, false, k, 0, 0, ⟨#[]⟩⟩ ⟨3, false, k, 0, 0, ⟨#[]⟩⟩ = true := eqO_self _
  have HM0 := hid' M0
  have HM3 := hid' M3
  clear M0 M1 M2 M3 e1 e2 e3 hP hp HW1 HW2 HW3
  have HF := hid' hf
  go_enter Try.func5, Try.ntmps5
  go_wp2_with fail
  refine (known21_any w).mono ?_
  rintro r w1 ⟨rfl, X1⟩
  go_wp2_with fail
  refine (fresh21_any (Ats.start X1)).mono ?_
  rintro r w2 ⟨hp, sp, rfl, S2⟩
  have S3 := S2.alloc (wBox hp sp)
  (try clear Ra); (try clear ya); (try clear Za)
  have Ra := cells_of (S3.box _ m0)
  have ya := blk_lt (S3.box _ m0)
  (try simp only at Ra ya)
  go_wp2_with fail
  refine (HP.out _).mono ?_
  rintro r w4 ⟨rfl, rfl⟩
  have S4 := S3.alloc (obox (fO f))
  simp only [World.size_alloc] at S4
  clear S3
  (try clear Ra); (try clear ya); (try clear Za)
  have Ra := cells_of (S4.box _ m1)
  have ya := blk_lt (S4.box _ m1)
  (try simp only at Ra ya)
  go_wp2_with fail
  refine (do21_any S4 1 (gv := [fO f]) rfl (by decide) (fun o ho => by rw [List.mem_singleton.1 ho]; exact HM0.out) _ 1 (by decide) (read_one (fO f) m0) ⟨#[99, 118, 105]⟩ 76 0 true op_cvi (fun w' K' S' => HD1.out hp sp w' K' S')).mono ?_
  rintro r w5 ⟨rfl, S5⟩
  (try clear Ra); (try clear ya); (try clear Za)
  have Ra := cells_of (S5.box _ m1)
  have ya := blk_lt (S5.box _ m1)
  (try simp only at Ra ya)
  clear S4
  go_wp2_with fail
  refine (top21_any (l := []) (o := iO (f.tdiv 65536)) S5 m0 ⟨#[]⟩ 6 (bytes_not _ _ rfl)).mono ?_
  rintro r w6 ⟨rfl, S6⟩
  have S7 := S6.alloc (obox (iO (f.tdiv 65536)))
  (try clear Ra); (try clear ya); (try clear Za)
  have Ra := cells_of (S7.box _ m2)
  have ya := blk_lt (S7.box _ m2)
  (try simp only at Ra ya)
  clear S5 S6
  go_upto_region 8 with (fail)
  generalize hW : w6.alloc _ = w7 at *
  clear hW
  obtain ⟨KB, hKB⟩ : ∃ KB : List (Nat × Obj), KB = [(w6.heap.size, obox (iO (f.tdiv 65536))), (w2.heap.size + 1, obox (fO f)), (w2.heap.size, wBox hp sp)] := ⟨_, rfl⟩
  rw [← hKB] at S7
  have RW := WS.cells (w0 := w) (hp := hp) (sp := sp) (KB := KB) (g := w2.heap.size) (cs := #[ptr hp, ptr sp]) (T := 26) (fz := (0, 0)) (by rw [hKB]; exact m2)
  have HS := hid' S7
  have hS := WS.of0 S7
  have HKB := hid' hKB
  clear Ra ya S7 hKB
  go_region_held3 (fun W' => WS w hp sp KB W') (first | (with_reducible assumption) | (with_reducible exact WS.of1 S9) | (with_reducible exact WS.of0 S8) | (with_reducible exact WS.of0 (HS.out.drew)) | (with_reducible exact WS.drew (by with_reducible assumption)) | (with_reducible exact WS.alloc (by with_reducible assumption) _))
    (first | (go_at_call 9; refine (num21_any _ _).mono ?_; rintro r w8 ⟨rfl, X8⟩; have S8 := StkAt.pure (by first | exact HS.out | exact HS.out.drew) X8) | (go_at_call 13; refine (do21_any (S8.alloc (obox (iO k))) 1 (gv := [iO k]) rfl (by decide) (fun o ho => by rw [List.mem_singleton.1 ho]; exact HM3.out) _ 1 (by decide) (read_one (iO k) m0) ⟨#[99, 118, 114]⟩ 77 0 true op_cvr (fun w' K' S' => HD2.out hp sp w' K' S')).mono ?_; rintro r w9 ⟨rfl, S9⟩))
  have S10 := S9.keep (List.sublist_cons_self _ _)
  have mW : (w2.heap.size, wBox hp sp) ∈ KB := by rw [HKB.out]; exact m2
  have m8 : (w6.heap.size, obox (iO (f.tdiv 65536))) ∈ KB := by rw [HKB.out]; exact m0
  (try clear Ra); (try clear ya); (try clear Za)
  have Ra := cells_of (S10.box _ mW)
  have ya := blk_lt (S10.box _ mW)
  (try simp only at Ra ya)
  clear hS S8 S9 X8 RW HS
  go_wp2_with fail
  refine (do21_any S10 0 (gv := []) rfl (by simp [didL]) (by simp) none 0 (by decide) (fun m o h => by simp at h) ⟨#[99, 118, 105]⟩ 76 0 true op_cvi (fun w' K' S' => HD3.out hp sp w' K' S')).mono ?_
  rintro r w11 ⟨rfl, S11⟩
  (try clear Ra); (try clear ya); (try clear Za)
  have Ra := cells_of (S11.box _ mW)
  have ya := blk_lt (S11.box _ mW)
  (try simp only at Ra ya)
  clear S10
  go_wp2_with fail
  refine (top21_any (l := []) (o := iO k) S11 m0 ⟨#[]⟩ 6 (bytes_not _ _ rfl)).mono ?_
  rintro r w12 ⟨rfl, S12⟩
  have S13 := S12.alloc (obox (iO k))
  have mW' := List.mem_cons_of_mem (w12.heap.size, obox (iO k)) mW
  have m8' := List.mem_cons_of_mem (w12.heap.size, obox (iO k)) m8
  clear S11 S12 Ra ya
  go_upto_region 11 with (fail)
  generalize w12.alloc _ = w13 at *
  have HX := hid' S13.chg
  have HLEN := hid' (fun (W' : World) (X : Chg NoB w13 W') => stk_len (S13.pure X))
  have RW := Chg.cells (S := NoB) (S13.box _ mW') id
  have R8 := Chg.cells (S := NoB) (S13.box _ m8') id
  have R13 := Chg.cells (S := NoB) (S13.box _ m0) id
  clear S13 mW mW' m8 m8'
  simp only at RW R8 R13
  go_region_held3 (fun W' => Chg NoB w13 W') (first | (with_reducible assumption) | (with_reducible exact (Chg.refl _ _).drew) | (with_reducible exact Chg.drew (by with_reducible assumption)) | (with_reducible exact Chg.pure (by with_reducible assumption) (by with_reducible assumption)))
    (first | (go_at_call 9; refine (num21_any _ _).mono ?_; rintro r w14 ⟨rfl, X14⟩) | (go_at_call 15; refine (HLEN.out _ (by with_reducible assumption)).mono ?_; rintro r w15 ⟨rfl, rfl⟩))
  go_wp2_with fail
  go_ret
  exact ⟨rfl, HX.out.pure (by with_reducible assumption)⟩
end Go.Proofs.Ythelgahojgdehaa
/- Plain: digits to a base are read as the number. -/
namespace Go.Proofs.Ythelgahojgdehaa
open Go.RowKit

def dig2 (b : Nat) : List UInt8 := if b < 10 then [dgB b] else [dgB (b / 10), dgB (b % 10)]
theorem dig2_ok : ∀ b : Fin 37, 2 ≤ b.val → ((dig2 b).all isDig = true ∧ 1 ≤ (dig2 b).length ∧ (dig2 b).length ≤ 2 ∧ (dig2 b).head? ≠ some 48 ∧ accD 1000 0 (dig2 b) = (b.val : Int)) := by decide +kernel
theorem head_app {α : Type} {a : List α} (r : List α) (h : a ≠ []) : (a ++ r).head? = a.head? := by cases a with
  | nil => exact absurd rfl h
  | cons x a => rfl
theorem takeW (p : UInt8 → Bool) (c : UInt8) (r : List UInt8) (hc : p c = false) : ∀ a : List UInt8, a.all p = true → (a ++ c :: r).takeWhile p = a
  | [], _ => by simp [hc]
  | x :: a, h => by
    simp only [List.all_cons, Bool.and_eq_true] at h
    rw [List.cons_append, List.takeWhile_cons, if_pos h.1, takeW p c r hc a h.2]
theorem dgA_val (d : Nat) (h : d < 36) : valueI (dgA d).toNat = d := by
  have : ∀ d : Fin 36, valueI (dgA d).toNat = (d.val : Int) := by decide +kernel
  exact this ⟨d, h⟩
theorem dgA_lo (d : Nat) (h : d < 36) : (dgA d).toNat < 97 := by
  have : ∀ d : Fin 36, (dgA d).toNat < 97 := by decide +kernel
  exact this ⟨d, h⟩
theorem dgA_zero (d : Nat) (h : d < 36) (h0 : 0 < d) : dgA d ≠ 48 := by
  have : ∀ d : Fin 36, 0 < d.val → dgA d ≠ 48 := by decide +kernel
  exact this ⟨d, h⟩ h0
theorem accB_snoc (base : Int) (c : UInt8) : ∀ (l : List UInt8) (v u : Int), accB base v l = some u → accB base v (l ++ [c]) = accB base u [c]
  | [], v, u, h => by simp only [accB, Option.some.injEq] at h; subst h; rfl
  | x :: l, v, u, h => by
    rw [accB] at h
    rw [List.cons_append, accB]
    split at h
    · simp at h
    · rename_i hc
      rw [if_neg hc]
      exact accB_snoc base c l _ u h
theorem accB_digB (b : Nat) (hb : 2 ≤ b) (hb2 : b ≤ 36) (n : Nat) (hn : n < 2147483648) : accB b 0 (digB b n) = some (n : Int) := by
  induction n using Nat.strongRecOn with
  | _ n ih =>
    by_cases c : n < b
    · rw [digB_lo b n c, accB, dgA_val n (by omega), if_neg (by omega), accB, if_neg (by omega)]
      simp
    · have hq : n / b < n := Nat.div_lt_self (by omega) (by omega)
      have hm : n % b < b := Nat.mod_lt _ (by omega)
      have hd := Nat.div_add_mod n b
      rw [digB_hi b n c hb, accB_snoc _ _ _ _ _ (ih (n / b) hq (by omega)), accB, dgA_val _ (by omega), if_neg (by omega), accB]
      have e : ((n / b : Nat) : Int) * b + ((n % b : Nat) : Int) = n := by
        rw [Nat.mul_comm] at hd
        exact_mod_cast hd
      rw [e, if_neg (by omega)]
theorem digB_all (b : Nat) (hb : 2 ≤ b) (hb2 : b ≤ 36) (n : Nat) : ∀ c ∈ digB b n, c.toNat < 97 := by
  induction n using Nat.strongRecOn with
  | _ n ih =>
    intro x hx
    by_cases c : n < b
    · rw [digB_lo b n c, List.mem_singleton] at hx
      subst hx; exact dgA_lo n (by omega)
    · rw [digB_hi b n c hb, List.mem_append, List.mem_singleton] at hx
      rcases hx with hx | rfl
      · exact ih (n / b) (Nat.div_lt_self (by omega) (by omega)) x hx
      · exact dgA_lo _ (by have := Nat.mod_lt n (show b > 0 by omega); omega)
theorem digB_head (b : Nat) (hb : 2 ≤ b) (hb2 : b ≤ 36) (n : Nat) (h0 : 0 < n) : (digB b n).head? ≠ some 48 ∧ digB b n ≠ [] := by
  induction n using Nat.strongRecOn with
  | _ n ih =>
    by_cases c : n < b
    · rw [digB_lo b n c]
      exact ⟨by simpa using dgA_zero n (by omega) h0, by simp⟩
    · have hi := ih (n / b) (Nat.div_lt_self (by omega) (by omega)) (Nat.div_pos (by omega) (by omega))
      rw [digB_hi b n c hb]
      refine ⟨?_, by simp⟩
      rw [head_app _ hi.2]
      exact hi.1
theorem digB_ne (b n : Nat) (hb : 2 ≤ b) : 1 ≤ (digB b n).length := by
  by_cases c : n < b
  · rw [digB_lo b n c]; simp
  · rw [digB_hi b n c hb]; simp
theorem based_ok (b : Nat) (hb : 2 ≤ b) (hb2 : b ≤ 36) (n : Nat) (hn : n < 2147483648) : readF (dig2 b ++ 35 :: digB b n) = (1, (n : Int), 0) := by
  obtain ⟨h1, h2, h3, h4, h5⟩ := dig2_ok ⟨b, by omega⟩ hb
  simp only at h1 h2 h3 h4 h5
  have hd : digL (dig2 b ++ 35 :: digB b n) = dig2 b := takeW isDig 35 _ (by decide) _ h1
  have hne : dig2 b ≠ [] := by intro e; rw [e] at h2; simp at h2
  have hl := digB_ne b n hb
  have hbf : basedF (dig2 b ++ 35 :: digB b n) = some (n : Int) := by
    unfold basedF
    rw [hd, h5, head_app _ hne, if_neg ?_]
    · rw [show (dig2 b).length + 1 = (dig2 b ++ [35]).length by simp, show dig2 b ++ 35 :: digB b n = (dig2 b ++ [35]) ++ digB b n by simp, List.drop_left]
      exact accB_digB b hb hb2 n hn
    · rw [List.getElem?_append_right (Nat.le_refl _), Nat.sub_self]
      rw [List.length_append, List.length_cons]
      simp only [List.getElem?_cons_zero, ne_eq, not_true_eq_false, or_false, h4, false_or]
      omega
  unfold readF
  rw [hbf]
  simp only
  rw [if_neg (by omega)]
theorem decL_digB (n : Nat) : decL n = digB 10 n := by
  induction n using Nat.strongRecOn with
  | _ n ih =>
    have hg : ∀ d, d < 10 → dgB d = dgA d := fun d h => by unfold dgB dgA; rw [if_pos h]
    by_cases c : n < 10
    · rw [decL_lo n c, digB_lo 10 n c, hg n c]
    · rw [decL_hi n c, digB_hi 10 n c (by decide), ih (n / 10) (Nat.div_lt_self (by omega) (by decide)), hg _ (Nat.mod_lt _ (by decide))]
theorem intL_digB (n : Nat) : intL (n : Int) = digB 10 n := by
  unfold intL
  rw [if_neg (by omega), Int.natAbs_natCast, decL_digB]
end Go.Proofs.Ythelgahojgdehaa
/- Walks: tympanhelp.Digits of a small number; what conv.Do hands to conv.do for cvrs. -/
namespace Go.Proofs.Ythelgahojgdehaa
open Go.RowKit

abbrev tenD : ByteArray := ⟨#[48, 49, 50, 51, 52, 53, 54, 55, 56, 57]⟩
theorem ten_dig (d : Nat) (h : d < 10) : tenD.extract d (d + 1) = ⟨#[dgB d]⟩ := by
  have : ∀ d : Fin 10, tenD.extract d (d + 1) = ⟨#[dgB d.val]⟩ := by decide +kernel
  exact this ⟨d, h⟩
set_option maxRecDepth 100000 in
theorem digits_lo (b : Nat) (h : b < 10) (w : World) :
    Calls Try.prog 17 #[.int .i64 b] w fun e w' => e = .returned (.string ⟨#[dgB b]⟩) ∧ Chg NoB w w' := by
  have h1 := ten_dig b h
  have h2 : (b : Int) < 10 := by omega
  have h3 : (0 : Int) ≤ b := by omega
  clear h
  go_enter Try.func17, Try.ntmps17
  go_wp2_with fail
  go_ret
  exact ⟨rfl, Chg.refl _ _⟩
set_option maxRecDepth 100000 in
theorem digits_hi (b : Nat) (h1 : 10 ≤ b) (h2 : b < 100) (w : World) :
    Calls Try.prog 17 #[.int .i64 b] w fun e w' => e = .returned (.string (⟨#[dgB (b / 10)]⟩ ++ ⟨#[dgB (b % 10)]⟩)) ∧ Chg NoB w w' := by
  obtain ⟨q, hq⟩ : ∃ q, b / 10 = q := ⟨_, rfl⟩
  obtain ⟨d, hd⟩ : ∃ d, b % 10 = d := ⟨_, rfl⟩
  have hL := hid' (digits_lo q (by omega))
  have hone := ten_dig d (by omega)
  have e1 : (b : Int) / 10 = q := by omega
  have e2 : (b : Int) % 10 = d := by omega
  have tm : (b : Int).tmod 10 = d := by rw [Int.tmod_eq_emod_of_nonneg (by omega), e2]
  have td : (b : Int).tdiv 10 = q := by rw [Int.tdiv_eq_ediv_of_nonneg (by omega), e1]
  have g1 : (10 : Int) ≤ b := by omega
  have g2 : (b : Int) < 100 := by omega
  have g3 : (0 : Int) ≤ d := by omega
  have g4 : (d : Int) < 10 := by omega
  have x1 := IntWalk.i64_in (q : Int) (by omega)
  have x2 := IntWalk.i64_in (d : Int) (by omega)
  have x3 := IntWalk.i64_in ((d : Int) + 1) (by omega)
  have x4 : (0 : Int) ≤ (d : Int) + 1 := by omega
  have x5 : ((d : Int) + 1).toNat = d + 1 := by omega
  have x6 : (d : Int) + 1 ≤ 10 := by omega
  have x7 : (d : Int) ≤ (d : Int) + 1 := by omega
  rw [hq, hd]
  clear h1 h2 hq hd
  go_enter Try.func17, Try.ntmps17
  go_wp2_with fail
  go_region_held3 (fun W' => Chg NoB w W') (first | (with_reducible assumption) | (with_reducible exact (Chg.refl _ _).drew) | (with_reducible exact Chg.drew (by with_reducible assumption)) | (with_reducible exact Chg.pure (by with_reducible assumption) (by with_reducible assumption)))
    ((go_at_call 17; refine (hL.out _).mono ?_; rintro r w7 ⟨rfl, X7⟩))
  go_wp2_with fail
  go_ret
  exact ⟨rfl, by with_reducible assumption⟩
def dig2B (b : Nat) : ByteArray := ⟨(dig2 b).toArray⟩
theorem digits2_any (b : Nat) (h : b < 100) (w : World) :
    Calls Try.prog 17 #[.int .i64 b] w fun e w' => e = .returned (.string (dig2B b)) ∧ Chg NoB w w' := by
  by_cases c : b < 10
  · rw [show dig2B b = ⟨#[dgB b]⟩ by unfold dig2B dig2; rw [if_pos c]]
    exact digits_lo b c w
  · rw [show dig2B b = ⟨#[dgB (b / 10)]⟩ ++ ⟨#[dgB (b % 10)]⟩ by unfold dig2B dig2; rw [if_neg c]; apply lst_inj; rw [app_lst, arr_lst, one_lst, one_lst]; rfl]
    exact digits_hi b (by omega) h w
end Go.Proofs.Ythelgahojgdehaa
/- Walk: what conv.Do hands to conv.do for cvrs. -/
namespace Go.Proofs.Ythelgahojgdehaa
open Go.RowKit

set_option maxRecDepth 100000 in
set_option maxHeartbeats 4000000 in
theorem cv8_ten {w0 w : World} {M M' : List (Nat × List C)} {K : List (Nat × Obj)} {sp hp hb g : Nat} {l ops : List O} {cur : Array Value} (S : StkAt w0 w M ((g, .cells cur 29) :: K) sp l) (hh : (hb, hBox hp) ∈ K) (o o2 x : O) (e : Int) (ho : ops = [o, iO 10, o2]) (hc : cur.toList = ops.flatMap O.cells) (t : ByteArray)
    (HP' : ∀ w' K', Ats w0 w' M K' → Calls Try.prog 14 #[ptr hp, o.val] w' fun e w2 => e = .returned (.string t) ∧ Ats w0 w2 M K')
    (HW' : ∀ w' K', Ats w0 w' M K' → Calls Try.prog 48 #[ptr hp, .string t, o2.val] w' fun r w2 => r = .returned (.tuple #[x.val, .int .i64 e]) ∧ Ats w0 w2 M' K') :
    Calls Try.prog 49 #[.slice (some ⟨g, 0, none⟩) 3 3, ptr hb] w fun r w2 => r = .returned (.tuple #[x.val, .int .i64 e]) ∧ StkAt w0 w2 M' K sp l := by
  have HP := hid' (fun (w' : World) (K' : List (Nat × Obj)) (S' : StkAt w0 w' M K' sp l) => S'.ask (r := .string t) (fun K2 A => HP' w' K2 A))
  have HW := hid' (fun (w' : World) (K' : List (Nat × Obj)) (S' : StkAt w0 w' M K' sp l) => S'.ask (r := .tuple #[x.val, .int .i64 e]) (fun K2 A => HW' w' K2 A))
  clear HP' HW'
  subst ho
  obtain ⟨q0, q1, q2, q3, q4, q5⟩ := at6 hc (m := 0) (o := o) rfl
  obtain ⟨-, -, s2, -, -, -⟩ := at6 hc (m := 1) (o := iO 10) rfl
  obtain ⟨p0, p1, p2, p3, p4, p5⟩ := at6 hc (m := 2) (o := o2) rfl
  simp only [Nat.zero_mul, Nat.zero_add, Nat.one_mul, Nat.reduceAdd, Nat.reduceMul] at q0 q1 q2 q3 q4 q5 p0 p1 p2 p3 p4 p5 s2
  clear hc
  obtain ⟨kk, kx, kn, kp, kl, ks⟩ := o
  obtain ⟨jk, jx, jn, jp, jl, js⟩ := o2
  obtain ⟨xk, xx, xn, xp, xl, xs⟩ := x
  have S1 := S.alloc (Obj.cells #[.int .i64 0, .bool false, .int .i64 0, .int .i64 0, .int .i64 0, .string ⟨#[]⟩] 29)
  simp only at q0 q1 q2 q3 q4 q5 p0 p1 p2 p3 p4 p5 s2 ⊢
  (try clear Ra); (try clear ya); (try clear Za)
  have Ra := cells_of (S1.box _ m0)
  have ya := blk_lt (S1.box _ m0)
  (try clear Rg); (try clear yg); (try clear Zg)
  have Rg := cells_of (S1.box _ m1)
  have yg := blk_lt (S1.box _ m1)
  (try clear Rh); (try clear yh); (try clear Zh)
  have Rh := cells_of (S1.box _ (List.mem_cons_of_mem _ (List.mem_cons_of_mem _ hh)))
  have yh := blk_lt (S1.box _ (List.mem_cons_of_mem _ (List.mem_cons_of_mem _ hh)))
  (try simp only at Ra ya Rg yg Rh yh)
  have HS := hid' S1
  clear S S1
  go_enter Try.func49, Try.ntmps49
  go_wp2_with fail
  generalize hW : w.alloc _ = w1 at *
  clear hW
  go_region
  have S2 := (HS.out.alloc (Obj.cells #[.int .i64 kk, .bool kx, .int .i64 kn, .int .i64 kp, .int .i64 kl, .string ks] 29)).drew.perm (List.Perm.swap _ _ _)
  generalize hW : (w1.alloc _).drew = w2 at *
  clear hW
  generalize hB5 : w1.heap.size = b5 at *
  clear hB5 Ra ya Rg yg Rh yh HS
  obtain ⟨KL, hKL⟩ : ∃ KL : List (Nat × Obj), KL = (b5, Obj.cells #[.int .i64 kk, .bool kx, .int .i64 kn, .int .i64 kp, .int .i64 kl, .string ks] 29) :: (g, Obj.cells cur 29) :: K := ⟨_, rfl⟩
  rw [← hKL] at S2
  go_upto_region 5 with (fail)
  have mG : (g, Obj.cells cur 29) ∈ KL := by rw [hKL]; exact m1
  have mH : (hb, hBox hp) ∈ KL := by rw [hKL]; exact (List.mem_cons_of_mem _ (List.mem_cons_of_mem _ hh))
  have mA : (b5, Obj.cells #[.int .i64 kk, .bool kx, .int .i64 kn, .int .i64 kp, .int .i64 kl, .string ks] 29) ∈ KL := by rw [hKL]; exact m0
  have RG := AnyS.cells (w0 := w0) (B := w.heap.size) (sp := sp) (l := l) mG
  have RH := AnyS.cells (w0 := w0) (B := w.heap.size) (sp := sp) (l := l) mH
  have RA := AnyS.cells (w0 := w0) (B := w.heap.size) (sp := sp) (l := l) mA
  have hS1 := AnyS.of S2
  have HS := hid' S2
  have HKL := hid' hKL
  clear mG mH mA S2 hKL
  go_region_held3 (fun W' => AnyS w0 w.heap.size KL sp l W') (first | (with_reducible assumption) | (with_reducible exact AnyS.o1 S5 _ _ _ _ _ _) | (with_reducible exact AnyS.of S5) | (with_reducible exact AnyS.of S4) | (with_reducible exact AnyS.drew (by with_reducible assumption)))
    (first | (go_at_call 14; refine (HP.out _ _ (by first | exact HS.out | exact HS.out.drew)).mono ?_; rintro r w4 ⟨rfl, S4⟩) | (go_at_call 48; refine (HW.out _ _ (by first | exact S4 | exact S4.drew)).mono ?_; rintro r w5 ⟨rfl, S5⟩; have R5 := cells_of (S5.box _ m0); have Z5 := free_of (S5.box _ m0); have y5 := blk_lt (S5.box _ m0)))
  have S6 := (HKL.out ▸ S5.putO xk xx xn xp xl xs)
  clear hS1 RG RH RA S4 S5
  generalize (((((w5.setCell _ _).setCell _ _).setCell _ _).setCell _ _).setCell _ _).setCell _ _ = w6 at *
  go_wp2_with fail
  have R5 := cells_of (S6.box _ m0)
  refine bodyPost_ret (v := .tuple #[O.val ⟨xk, xx, xn, xp, xl, xs⟩, .int .i64 e]) ?_ rfl ⟨rfl, S6.keep ((List.sublist_cons_self _ _).trans ((List.sublist_cons_self _ _).trans (List.sublist_cons_self _ _)))⟩
  simp [results, Try.results49, go_sem, R5]
set_option maxRecDepth 100000 in
set_option maxHeartbeats 4000000 in
theorem cv8_any {w0 w : World} {M M' : List (Nat × List C)} {K : List (Nat × Obj)} {sp hp hb g : Nat} {l ops : List O} {cur : Array Value} (S : StkAt w0 w M ((g, .cells cur 29) :: K) sp l) (hh : (hb, hBox hp) ∈ K) (o o2 x : O) (e b n : Int) (hb2 : 2 ≤ b) (hb36 : b ≤ 36) (hb10 : b ≠ 10) (hn : 0 ≤ n) (ho : ops = [o, iO b, o2]) (hc : cur.toList = ops.flatMap O.cells) (t : ByteArray)
    (HQ' : ∀ w' K', Ats w0 w' M K' → Calls Try.prog 43 #[ptr hp, o.val] w' fun e w2 => e = .returned (.tuple #[(iO n).val, .int .i64 0]) ∧ Ats w0 w2 M K') (HP' : ∀ w', Calls Try.prog 50 #[.int .i64 n, .int .i64 b] w' fun e w2 => e = .returned (.string t) ∧ Chg NoB w' w2)
    (HW' : ∀ w' K', Ats w0 w' M K' → Calls Try.prog 48 #[ptr hp, .string t, o2.val] w' fun r w2 => r = .returned (.tuple #[x.val, .int .i64 e]) ∧ Ats w0 w2 M' K') :
    Calls Try.prog 49 #[.slice (some ⟨g, 0, none⟩) 3 3, ptr hb] w fun r w2 => r = .returned (.tuple #[x.val, .int .i64 e]) ∧ StkAt w0 w2 M' K sp l := by
  have HP := hid' HP'
  have HQ := hid' (fun (w' : World) (K' : List (Nat × Obj)) (S' : StkAt w0 w' M K' sp l) => S'.ask (r := .tuple #[(iO n).val, .int .i64 0]) (fun K2 A => HQ' w' K2 A))
  have hb10' : (b == 10) = false := by simpa using hb10
  have HW := hid' (fun (w' : World) (K' : List (Nat × Obj)) (S' : StkAt w0 w' M K' sp l) => S'.ask (r := .tuple #[x.val, .int .i64 e]) (fun K2 A => HW' w' K2 A))
  clear HP' HW' HQ' hb10
  subst ho
  obtain ⟨q0, q1, q2, q3, q4, q5⟩ := at6 hc (m := 0) (o := o) rfl
  obtain ⟨-, -, s2, -, -, -⟩ := at6 hc (m := 1) (o := iO b) rfl
  obtain ⟨p0, p1, p2, p3, p4, p5⟩ := at6 hc (m := 2) (o := o2) rfl
  simp only [Nat.zero_mul, Nat.zero_add, Nat.one_mul, Nat.reduceAdd, Nat.reduceMul] at q0 q1 q2 q3 q4 q5 p0 p1 p2 p3 p4 p5 s2
  clear hc
  obtain ⟨kk, kx, kn, kp, kl, ks⟩ := o
  obtain ⟨jk, jx, jn, jp, jl, js⟩ := o2
  obtain ⟨xk, xx, xn, xp, xl, xs⟩ := x
  have S1 := S.alloc (Obj.cells #[.int .i64 0, .bool false, .int .i64 0, .int .i64 0, .int .i64 0, .string ⟨#[]⟩] 29)
  simp only at q0 q1 q2 q3 q4 q5 p0 p1 p2 p3 p4 p5 s2 ⊢
  (try clear Ra); (try clear ya); (try clear Za)
  have Ra := cells_of (S1.box _ m0)
  have ya := blk_lt (S1.box _ m0)
  (try clear Rg); (try clear yg); (try clear Zg)
  have Rg := cells_of (S1.box _ m1)
  have yg := blk_lt (S1.box _ m1)
  (try clear Rh); (try clear yh); (try clear Zh)
  have Rh := cells_of (S1.box _ (List.mem_cons_of_mem _ (List.mem_cons_of_mem _ hh)))
  have yh := blk_lt (S1.box _ (List.mem_cons_of_mem _ (List.mem_cons_of_mem _ hh)))
  (try simp only at Ra ya Rg yg Rh yh)
  have HS := hid' S1
  clear S S1
  go_enter Try.func49, Try.ntmps49
  go_wp2_with fail
  generalize hW : w.alloc _ = w1 at *
  clear hW
  go_region
  have S2 := (HS.out.alloc (Obj.cells #[.int .i64 kk, .bool kx, .int .i64 kn, .int .i64 kp, .int .i64 kl, .string ks] 29)).drew.perm (List.Perm.swap _ _ _)
  generalize hW : (w1.alloc _).drew = w2 at *
  clear hW
  generalize hB5 : w1.heap.size = b5 at *
  clear hB5 Ra ya Rg yg Rh yh HS
  (try clear Ra); (try clear ya); (try clear Za)
  have Ra := cells_of (S2.box _ m1)
  have ya := blk_lt (S2.box _ m1)
  (try clear Rh); (try clear yh); (try clear Zh)
  have Rh := cells_of (S2.box _ (List.mem_cons_of_mem _ (List.mem_cons_of_mem _ (List.mem_cons_of_mem _ hh))))
  have yh := blk_lt (S2.box _ (List.mem_cons_of_mem _ (List.mem_cons_of_mem _ (List.mem_cons_of_mem _ hh))))
  (try simp only at Ra ya Rh yh)
  go_upto_region 6 with (fail)
  go_wp2_with fail
  refine (HQ.out _ _ S2).mono ?_
  rintro r w3 ⟨rfl, S3⟩
  have S7 := ((S3.alloc (obox (iO n))).perm (List.Perm.swap _ _ _))
  clear Ra ya Rh yh S2 S3
  have e0 : ¬ n < 0 := by omega
  obtain ⟨KL, hKL⟩ : ∃ KL : List (Nat × Obj), KL = (w3.heap.size, obox (iO n)) :: (b5, Obj.cells #[.int .i64 kk, .bool kx, .int .i64 kn, .int .i64 kp, .int .i64 kl, .string ks] 29) :: (g, Obj.cells cur 29) :: K := ⟨_, rfl⟩
  rw [← hKL] at S7
  have m7 : (w3.heap.size, obox (iO n)) ∈ KL := by rw [hKL]; exact m0
  (try clear Rc); (try clear yc); (try clear Zc)
  have Rc := cells_of (S7.box _ (List.mem_cons_of_mem _ m7))
  have yc := blk_lt (S7.box _ (List.mem_cons_of_mem _ m7))
  (try simp only at Rc yc)
  go_upto_region 11 with (fail)
  generalize hW : w3.alloc _ = w7 at *
  clear hW Rc yc m7
  have mG : (g, Obj.cells cur 29) ∈ KL := by rw [hKL]; exact m2
  have mH : (hb, hBox hp) ∈ KL := by rw [hKL]; exact (List.mem_cons_of_mem _ (List.mem_cons_of_mem _ (List.mem_cons_of_mem _ hh)))
  have mA : (w3.heap.size, obox (iO n)) ∈ KL := by rw [hKL]; exact m0
  have RG := AnyS.cells (w0 := w0) (B := w.heap.size) (sp := sp) (l := l) mG
  have RH := AnyS.cells (w0 := w0) (B := w.heap.size) (sp := sp) (l := l) mH
  have RA := AnyS.cells (w0 := w0) (B := w.heap.size) (sp := sp) (l := l) mA
  have hS1 := AnyS.of S7
  have HS := hid' S7
  have HKL := hid' hKL
  clear mG mH mA S7 hKL
  go_region_held3 (fun W' => AnyS w0 w.heap.size KL sp l W') (first | (with_reducible assumption) | (with_reducible exact AnyS.o1 S5 _ _ _ _ _ _) | (with_reducible exact AnyS.of S5) | (with_reducible exact AnyS.of S4) | (with_reducible exact AnyS.drew (by with_reducible assumption)))
    (first | (go_at_call 50; refine (HP.out _).mono ?_; rintro r w4 ⟨rfl, X4⟩; have S4 := StkAt.pure (by first | exact HS.out | exact HS.out.drew) X4) | (go_at_call 48; refine (HW.out _ _ (by first | exact S4 | exact S4.drew)).mono ?_; rintro r w5 ⟨rfl, S5⟩; have R5 := cells_of (S5.box _ m0); have Z5 := free_of (S5.box _ m0); have y5 := blk_lt (S5.box _ m0)))
  have S6 := (HKL.out ▸ S5.putO xk xx xn xp xl xs)
  clear hS1 RG RH RA S4 S5
  generalize (((((w5.setCell _ _).setCell _ _).setCell _ _).setCell _ _).setCell _ _).setCell _ _ = w6 at *
  go_wp2_with fail
  have R5 := cells_of (S6.box _ m0)
  refine bodyPost_ret (v := .tuple #[O.val ⟨xk, xx, xn, xp, xl, xs⟩, .int .i64 e]) ?_ rfl ⟨rfl, S6.keep ((List.sublist_cons_self _ _).trans ((List.sublist_cons_self _ _).trans ((List.sublist_cons_self _ _).trans (List.sublist_cons_self _ _))))⟩
  simp [results, Try.results49, go_sem, R5]
end Go.Proofs.Ythelgahojgdehaa
/- Walk: conv.Do at cvrs, both arms as one contract. -/
namespace Go.Proofs.Ythelgahojgdehaa
open Go.RowKit

set_option maxRecDepth 100000 in
set_option maxHeartbeats 2000000 in
theorem conv_cvrs {w0 w : World} {M M' : List (Nat × List C)} {K : List (Nat × Obj)} {sp hp : Nat} {l : List O} {L : List C} {o o2 x : O} {b e : Int} (S : StkAt w0 w M K sp (l ++ [o, iO b, o2])) (hm : (hp, L) ∈ M) (hk0 : isK 24 o.kind = true) (hk1 : isK 8 (iO b).kind = true) (hk2 : isK 256 o2.kind = true) (hH : HeldAll L [o, iO b, o2]) (hx : e = 0 → mayO x = true) (HC : ∀ w2 g hb K' (cur : Array Value), cur.toList = [o, iO b, o2].flatMap O.cells → StkAt w0 w2 M ((g, .cells cur 29) :: K') sp (l ++ [o, iO b, o2]) → (hb, hBox hp) ∈ K' → Calls Try.prog 49 #[.slice (some ⟨g, 0, none⟩) 3 3, ptr hb] w2 fun r w3 => r = .returned (.tuple #[x.val, .int .i64 e]) ∧ StkAt w0 w3 M' K' sp (l ++ [o, iO b, o2])) :
    Calls Try.prog 24 #[ptr hp, ptr sp, .int .i64 80] w fun r w' => r = .returned (.int .i64 e) ∧ StkAt w0 w' M' K sp (didL l [o, iO b, o2] x e) := by
  obtain ⟨bs, hbs⟩ := fam_of (i := 79) (f := 4) (by decide +kernel)
  have HF := hid' (fun w' => family_at 79 4 bs hbs w')
  have S1 := (S.alloc (hBox hp)).alloc (.cells #[.int .i64 80] 3)
  simp only [World.size_alloc] at S1
  have HD := hid' (fun (w' : World) (kb b1 : Nat) (S' : StkAt w0 w' M ((kb, .cells #[.int .i64 24, .int .i64 8, .int .i64 256] 3) :: (b1, .cells #[.int .i64 80] 3) :: (w.heap.size, hBox hp) :: K) sp (l ++ [o, iO b, o2])) =>
    conv_do S' hm [24, 8, 256] kb m0 rfl (fun i k o' h1 h2 => by
    rcases i with _ | _ | _ | i
    · simp at h1 h2; subst h1 h2; exact hk0
    · simp at h1 h2; subst h1 h2; exact hk1
    · simp at h1 h2; subst h1 h2; exact hk2
    · simp at h1) hH 3 rfl (by decide) 49 #[ptr w.heap.size] (fun _ _ => by kernel_rfl) x e hx (M' := M') (fun w2 g cur hc S2 => HC _ _ _ _ _ hc S2 (List.mem_cons_of_mem _ (List.mem_cons_of_mem _ m0))))
  clear hbs S
  go_enter Try.func24, Try.ntmps24
  go_wp2_with fail
  refine (HF.out _).mono ?_
  rintro r w2 ⟨rfl, X2⟩
  have S2 := S1.pure X2
  (try clear Rn); (try clear yn); (try clear Zn)
  have Rn := cells_of (S2.box _ m0)
  have yn := blk_lt (S2.box _ m0)
  (try clear Rh); (try clear yh); (try clear Zh)
  have Rh := cells_of (S2.box _ m1)
  have yh := blk_lt (S2.box _ m1)
  (try simp only at Rn yn Rh yh)
  clear S1 X2
  go_wp2_with fail
  refine (HD.out _ _ _ (S2.alloc (.cells #[.int .i64 24, .int .i64 8, .int .i64 256] 3))).mono ?_
  rintro r w3 ⟨rfl, S3⟩
  go_wp2_with fail
  go_ret
  exact ⟨rfl, S3.keep ((List.sublist_cons_self _ _).trans ((List.sublist_cons_self _ _).trans (List.sublist_cons_self _ _)))⟩
theorem op_cvrs (w : World) : Calls Try.prog 23 #[.string ⟨#[99, 118, 114, 115]⟩] w fun r w2 => r = .returned (.tuple #[.int .i64 80, .bool true]) ∧ Chg NoB w w2 := number_hit 79 4 [99, 118, 114, 115] (by decide +kernel) w
/-- cvrs of a whole number, in a string with room enough. -/
theorem cvrs_any {w0 w : World} {M : List (Nat × List C)} {K : List (Nat × Obj)} {sp hp : Nat} {l : List O} {L : List C} {n b N : Nat} {bs : List UInt8} (S : StkAt w0 w ((hp, L) :: M) K sp (l ++ [iO n, iO b, strN N false 0 bs.length])) (hb : 2 ≤ b) (hb2 : b ≤ 36) (hn : n < 2147483648) (hc : L[N]? = some (txt bs)) (hN : N ≤ 2000) (hs : bs.length ≤ 40000) (hr : 31 ≤ bs.length) :
    Calls Try.prog 24 #[ptr hp, ptr sp, .int .i64 80] w fun r w' => r = .returned (.int .i64 0) ∧ StkAt w0 w' ((hp, L.set N (txt (digB b n ++ bs.drop (digB b n).length))) :: M) K sp (l ++ [strN N false 0 (digB b n).length]) := by
  have hlen : (digB b n).length ≤ 31 := digB_len b n hb 30 (by omega)
  have hsz : (⟨(digB b n).toArray⟩ : ByteArray).size = (digB b n).length := by simp [ByteArray.size]
  have HW : ∀ w' K', Ats w0 w' ((hp, L) :: M) K' → Calls Try.prog 48 #[ptr hp, .string ⟨(digB b n).toArray⟩, (strN N false 0 bs.length).val] w' fun r w2 => r = .returned (.tuple #[(strN N false 0 (digB b n).length).val, .int .i64 0]) ∧ Ats w0 w2 ((hp, L.set N (txt (digB b n ++ bs.drop (digB b n).length))) :: M) K' := fun w' K' A => by
    have := at_write A ⟨(digB b n).toArray⟩ N bs hc hN hs false (by rw [hsz]; omega)
    rw [hsz, arr_lst] at this
    exact this
  have hmx : mayO (strN N false 0 (digB b n).length) = true := mayO_str _ _ _ _ (by omega) (by omega) (by omega) (by omega) (by omega) (by omega)
  have hmn : mayO (iO n) = true := mayI _ (by omega) (by omega)
  refine conv_cvrs (o := iO n) (o2 := strN N false 0 bs.length) (x := strN N false 0 (digB b n).length) (b := b) (e := 0) S m0 (isK_num 3 (by decide)) (isK_int 3 rfl) (isK_str 8 rfl) ?_ (fun _ => hmx) (fun w2 g hb' K' cur hcu S2 hh => ?_)
  · intro x hx hk
    simp only [List.mem_cons, List.not_mem_nil, or_false] at hx
    rcases hx with rfl | rfl | rfl
    · exact absurd hk (by rw [isN3]; decide)
    · exact absurd hk (by rw [isN3]; decide)
    · exact may_s hc (by omega) hs false 0 bs.length (by omega) (by omega) (by omega)
  · by_cases h10 : b = 10
    · subst h10
      refine cv8_ten S2 hh (iO n) (strN N false 0 bs.length) (strN N false 0 (digB 10 n).length) 0 rfl hcu ⟨(digB 10 n).toArray⟩ ?_ HW
      have := plain_at (w0 := w0) (M := (hp, L) :: M) (iO n) hp hmn (.inr (.inl rfl))
      rw [show plainB (iO n) = ⟨(digB 10 n).toArray⟩ by rw [← intL_digB]; rfl] at this
      exact this
    · refine cv8_any S2 hh (iO n) (strN N false 0 bs.length) (strN N false 0 (digB b n).length) 0 b n (by omega) (by omega) (by omega) (by omega) rfl hcu ⟨(digB b n).toArray⟩ ?_ (fun w' => cdigits_any n b (by omega) hb hb2 w') HW
      intro w' K' A
      exact at_whole A (iO n) (iO n) (num_plain (iO n) hp (by simp)) (fun h => by simp at h)
end Go.Proofs.Ythelgahojgdehaa
/- Plain: a whole number and a fix as texts are read as themselves. -/
namespace Go.Proofs.Ythelgahojgdehaa
open Go.RowKit

theorem isDig_dgB (d : Nat) (h : d < 10) : isDig (dgB d) = true ∧ ((dgB d).toNat : Int) - 48 = d := by
  have : ∀ d : Fin 10, isDig (dgB d.val) = true ∧ ((dgB d.val).toNat : Int) - 48 = (d.val : Int) := by decide +kernel
  exact this ⟨d, h⟩
theorem decL_dig (n : Nat) : (decL n).all isDig = true := by
  induction n using Nat.strongRecOn with
  | _ n ih =>
    by_cases c : n < 10
    · rw [decL_lo n c]; simp [(isDig_dgB n c).1]
    · rw [decL_hi n c, List.all_append, ih (n / 10) (Nat.div_lt_self (by omega) (by decide))]
      simp [(isDig_dgB (n % 10) (Nat.mod_lt _ (by decide))).1]
theorem accD_snoc (most v : Int) (l : List UInt8) (c : UInt8) : accD most v (l ++ [c]) = if most < accD most v l * 10 + ((c.toNat : Int) - 48) then most else accD most v l * 10 + ((c.toNat : Int) - 48) := by
  unfold accD; rw [List.foldl_append]; rfl
theorem accD_decL (most : Int) (n : Nat) (h : (n : Int) ≤ most) : accD most 0 (decL n) = n := by
  induction n using Nat.strongRecOn with
  | _ n ih =>
    by_cases c : n < 10
    · rw [decL_lo n c, show [dgB n] = [] ++ [dgB n] from rfl, accD_snoc, (isDig_dgB n c).2, show accD most 0 [] = 0 from rfl, if_neg (by omega)]; omega
    · rw [decL_hi n c, accD_snoc, ih (n / 10) (Nat.div_lt_self (by omega) (by decide)) (by omega), (isDig_dgB (n % 10) (Nat.mod_lt _ (by decide))).2, if_neg (by omega)]; omega
def padL (k : Nat) (l : List UInt8) : List UInt8 := List.replicate (k - l.length) 48 ++ l
theorem padL_len (k : Nat) (l : List UInt8) (h : l.length ≤ k) : (padL k l).length = k := by simp [padL]; omega
theorem padL_dig (k : Nat) (l : List UInt8) (h : l.all isDig = true) : (padL k l).all isDig = true := by
  unfold padL
  rw [List.all_append, h, Bool.and_true, List.all_eq_true]
  intro c hc
  rw [(List.mem_replicate.1 hc).2]; decide
theorem accD_pad (most : Int) (hm : 0 ≤ most) (k : Nat) (l : List UInt8) : accD most 0 (padL k l) = accD most 0 l := by
  unfold padL
  generalize k - l.length = j
  induction j with
  | zero => rfl
  | succ j ih =>
    rw [List.replicate_succ, List.cons_append, accD_cons]
    rw [show (0 : Int) * 10 + (((48 : UInt8).toNat : Int) - 48) = 0 by decide, if_neg (by omega)]
    exact ih
theorem takeW_all (p : UInt8 → Bool) : ∀ a : List UInt8, a.all p = true → a.takeWhile p = a
  | [], _ => rfl
  | x :: a, h => by
    simp only [List.all_cons, Bool.and_eq_true] at h
    rw [List.takeWhile_cons, if_pos h.1, takeW_all p a h.2]

/-! ### Whole numbers -/
theorem decL_ne (n : Nat) : decL n ≠ [] := by
  by_cases c : n < 10
  · rw [decL_lo n c]; simp
  · rw [decL_hi n c]; simp
theorem based_dec (n : Nat) : basedF (decL n) = none := by
  have hd : digL (decL n) = decL n := takeW_all _ _ (decL_dig n)
  unfold basedF
  rw [hd, if_pos (by omega)]
theorem head_dec (n : Nat) (r : List UInt8) : (decL n ++ r).head? ≠ some 43 ∧ (decL n ++ r).head? ≠ some 45 := by
  rw [head_app r (decL_ne n)]
  cases h : decL n with
  | nil => exact absurd h (decL_ne n)
  | cons c l =>
    have := decL_dig n
    rw [h, List.all_cons, Bool.and_eq_true] at this
    have := this.1
    simp only [isDig, Bool.and_eq_true, decide_eq_true_eq] at this
    refine ⟨fun e => ?_, fun e => ?_⟩
    · simp only [List.head?_cons, Option.some.injEq] at e; subst e; revert this; decide
    · simp only [List.head?_cons, Option.some.injEq] at e; subst e; revert this; decide
theorem readS_int (pre : List UInt8) (n : Nat) (b : Bool) (h : n ≤ 2147483647) : readS (pre ++ decL n) pre.length b = (1, sgnI b n, 0) := by
  have hd : digL (decL n) = decL n := takeW_all _ _ (decL_dig n)
  have hl : 0 < (decL n).length := List.length_pos_iff.2 (decL_ne n)
  unfold readS
  rw [List.drop_left, hd, if_pos ⟨by simp, hl⟩, accD_decL _ _ (by omega), if_neg (by omega)]
theorem int_read (v : Int) (h0 : -2147483647 ≤ v) (h1 : v ≤ 2147483647) : readF (intL v) = (1, v, 0) := by
  unfold intL
  by_cases c : v < 0
  · rw [if_pos c]
    have hb : basedF (45 :: decL v.natAbs) = none := by
      have hd : digL (45 :: decL v.natAbs) = [] := by unfold digL; rw [List.takeWhile_cons, if_neg (by decide)]
      unfold basedF
      rw [hd, if_pos (.inl (by simp))]
    unfold readF
    rw [hb]
    simp only [List.head?_cons]
    rw [if_neg (by decide), if_pos trivial]
    have := readS_int [45] v.natAbs true (by omega)
    rw [show [45] ++ decL v.natAbs = 45 :: decL v.natAbs from rfl, show ([45] : List UInt8).length = 1 from rfl] at this
    rw [this, show sgnI true (v.natAbs : Int) = v by unfold sgnI; rw [if_pos rfl]; omega]
  · rw [if_neg c]
    unfold readF
    rw [based_dec]
    have hh := head_dec v.natAbs []
    rw [List.append_nil] at hh
    simp only
    rw [if_neg hh.1, if_neg hh.2]
    have := readS_int [] v.natAbs false (by omega)
    rw [List.nil_append, List.length_nil] at this
    rw [this, show sgnI false (v.natAbs : Int) = v by unfold sgnI; rw [if_neg (by decide)]; omega]

/-! ### Fixes -/
def nearF (k : Nat) (s : Int) : Int := nearI (s * 10 ^ k) 65536
def okF (k : Nat) (s : Int) : Bool := nearI (nearF k s * 65536) (10 ^ k) == s
theorem ok5 (s : Int) (_h0 : 0 ≤ s) (_h1 : s ≤ 1073741823) : okF 5 s = true := by
  unfold okF nearF
  rw [show (10 : Int) ^ 5 = 100000 by decide]
  generalize hn : nearI (s * 100000) 65536 = n
  have h2 : -32768 ≤ n * 65536 - s * 100000 ∧ n * 65536 - s * 100000 ≤ 32768 := by
    unfold nearI at hn
    split at hn <;> omega
  simp only [beq_iff_eq]
  unfold nearI
  split <;> omega
def kF (s : Int) : Nat := if okF 1 s = true then 1 else if okF 2 s = true then 2 else if okF 3 s = true then 3 else if okF 4 s = true then 4 else 5
theorem kF_rng (s : Int) : 1 ≤ kF s ∧ kF s ≤ 5 := by
  unfold kF; repeat' split
  all_goals omega
theorem kF_ok (s : Int) (h0 : 0 ≤ s) (h1 : s ≤ 1073741823) : okF (kF s) s = true := by
  unfold kF
  split
  · assumption
  split
  · assumption
  split
  · assumption
  split
  · assumption
  · exact ok5 s h0 h1
theorem kF_no (s : Int) (j : Nat) (h1 : 1 ≤ j) (h2 : j < kF s) : okF j s = false := by
  unfold kF at h2
  split at h2
  · omega
  rename_i c1
  split at h2
  · obtain rfl : j = 1 := by omega
    simpa using c1
  rename_i c2
  split at h2
  · have : j = 1 ∨ j = 2 := by omega
    rcases this with rfl | rfl
    · simpa using c1
    · simpa using c2
  rename_i c3
  split at h2
  · have : j = 1 ∨ j = 2 ∨ j = 3 := by omega
    rcases this with rfl | rfl | rfl
    · simpa using c1
    · simpa using c2
    · simpa using c3
  rename_i c4
  have : j = 1 ∨ j = 2 ∨ j = 3 ∨ j = 4 := by omega
  rcases this with rfl | rfl | rfl | rfl
  · simpa using c1
  · simpa using c2
  · simpa using c3
  · simpa using c4
/-- A size and places as a text. -/
def sizeL (k : Nat) (n : Int) : List UInt8 := decL (n / 10 ^ k).toNat ++ 46 :: padL k (decL (n % 10 ^ k).toNat)
def fixL (v : Int) : List UInt8 := (if v < 0 then [45] else []) ++ sizeL (kF v.natAbs) (nearF (kF v.natAbs) v.natAbs)
theorem near_split (A r p : Int) (hp : 0 < p) (hA : A % 2 = 0) : nearI (A * p + r) p = A + nearI r p := by
  have e1 : (A * p + r) / p = A + r / p := by rw [Int.add_comm, Int.add_mul_ediv_right _ _ (by omega)]; omega
  have e2 : (A * p + r) % p = r % p := by rw [Int.add_comm, Int.add_mul_emod_self_right]
  have e3 : (A + r / p) % 2 = (r / p) % 2 := by omega
  unfold nearI
  rw [e1, e2, e3]
  split <;> omega
theorem near_ge (a b : Int) : a / b ≤ nearI a b := by unfold nearI; split <;> omega
theorem size_read (k : Nat) (hk : 1 ≤ k) (hk5 : k ≤ 5) (s n : Int) (h0 : 0 ≤ s) (h1 : s ≤ 1073741823) (hn0 : 0 ≤ n) (hok : nearI (n * 65536) (10 ^ k) = s) (pre : List UInt8) (b : Bool) :
    readS (pre ++ sizeL k n) pre.length b = (2, sgnI b s, 0) := by
  have hp : (0 : Int) < 10 ^ k := Int.pow_pos (by decide)
  obtain ⟨p, hpp⟩ : ∃ p : Int, (10 : Int) ^ k = p := ⟨_, rfl⟩
  have hpk : (10 : Nat) ^ k = p.toNat := by
    have : ((10 ^ k : Nat) : Int) = p := by rw [← hpp]; push_cast; rfl
    omega
  unfold sizeL
  rw [hpp] at hp hok ⊢
  obtain ⟨a, ha⟩ : ∃ a : Nat, n / p = (a : Int) := ⟨(n / p).toNat, by have := Int.ediv_nonneg hn0 (show 0 ≤ p by omega); omega⟩
  obtain ⟨r, hr⟩ : ∃ r : Nat, n % p = (r : Int) := ⟨(n % p).toNat, by have := Int.emod_nonneg n (show p ≠ 0 by omega); omega⟩
  have hrp : (r : Int) < p := by rw [← hr]; exact Int.emod_lt_of_pos n hp
  have hnp : n = a * p + r := by have := Int.mul_ediv_add_emod n p; rw [ha, hr, Int.mul_comm] at this; omega
  have hsp : (a : Int) * 65536 + nearI ((r : Int) * 65536) p = s := by
    rw [← hok, hnp, Int.add_mul, show (a : Int) * p * 65536 = (a * 65536) * p by rw [Int.mul_assoc, Int.mul_comm p, ← Int.mul_assoc], near_split _ _ _ hp (by omega)]
  have hr0 : 0 ≤ nearI ((r : Int) * 65536) p := by
    have := near_ge ((r : Int) * 65536) p
    have := Int.ediv_nonneg (show 0 ≤ (r : Int) * 65536 by omega) (show 0 ≤ p by omega)
    omega
  have ha2 : a ≤ 16383 := by omega
  rw [ha, hr, Int.toNat_natCast, Int.toNat_natCast]
  have hlen : (decL r).length ≤ k := by
    obtain ⟨j, rfl⟩ : ∃ j, k = j + 1 := ⟨k - 1, by omega⟩
    exact decL_len r j (by rw [hpk]; omega)
  have hB := padL_len k (decL r) hlen
  have hBd := padL_dig k (decL r) (decL_dig r)
  have hBv : accD 1000000000000 0 (padL k (decL r)) = r := by
    rw [accD_pad _ (by decide), accD_decL]
    have : p ≤ 100000 := by rw [← hpp]; have : k = 1 ∨ k = 2 ∨ k = 3 ∨ k = 4 ∨ k = 5 := by omega
                            rcases this with rfl | rfl | rfl | rfl | rfl <;> decide
    omega
  generalize hBB : padL k (decL r) = B at *
  have hd : digL (decL a ++ 46 :: B) = decL a := takeW isDig 46 _ (by decide) _ (decL_dig a)
  have hdB : digL B = B := takeW_all _ _ hBd
  have hdr : (pre ++ (decL a ++ 46 :: B)).drop (pre.length + (decL a).length + 1) = B := by
    rw [show pre ++ (decL a ++ 46 :: B) = (pre ++ decL a ++ [46]) ++ B by simp, show pre.length + (decL a).length + 1 = (pre ++ decL a ++ [46]).length by simp; omega, List.drop_left]
  have hat : (pre ++ (decL a ++ 46 :: B))[pre.length + (decL a).length]? = some 46 := by
    rw [← List.append_assoc, List.getElem?_append_right (by simp), List.length_append, Nat.sub_self]; rfl
  have hll : (pre ++ (decL a ++ 46 :: B)).length = pre.length + (decL a).length + 1 + k := by simp [hB]; omega
  unfold readS
  rw [List.drop_left, hd, hdr, hdB, hat, hll, hB, hBv, accD_decL _ a (by omega)]
  rw [if_neg (by omega), if_neg (by simp; omega), if_neg (by omega), if_neg (by omega), hpp, hsp, if_neg (by omega)]
theorem fix_read (v : Int) (h0 : -1073741823 ≤ v) (h1 : v ≤ 1073741823) : readF (fixL v) = (2, v, 0) := by
  obtain ⟨s, hs⟩ : ∃ s : Int, (v.natAbs : Int) = s := ⟨_, rfl⟩
  have hs0 : 0 ≤ s := by omega
  have hs1 : s ≤ 1073741823 := by omega
  unfold fixL
  rw [hs]
  have hk := kF_rng s
  have hok := kF_ok s hs0 hs1
  unfold okF at hok
  simp only [beq_iff_eq] at hok
  have hn0 : 0 ≤ nearF (kF s) s := by
    unfold nearF
    have := near_ge (s * 10 ^ kF s) 65536
    have h2 : (0 : Int) ≤ s * 10 ^ kF s := Int.mul_nonneg hs0 (Int.le_of_lt (Int.pow_pos (by decide)))
    have := Int.ediv_nonneg h2 (show (0 : Int) ≤ 65536 by decide)
    omega
  generalize nearF (kF s) s = n at *
  generalize kF s = k at *
  by_cases c : v < 0
  · rw [if_pos c]
    have hb : basedF ([45] ++ sizeL k n) = none := by
      have hd : digL ([45] ++ sizeL k n) = [] := by unfold digL; rw [List.singleton_append, List.takeWhile_cons, if_neg (by decide)]
      unfold basedF
      rw [hd, if_pos (.inl (by simp))]
    unfold readF
    rw [hb]
    simp only [List.singleton_append, List.head?_cons]
    rw [if_neg (by decide), if_pos trivial]
    have := size_read k hk.1 hk.2 s n hs0 hs1 hn0 hok [45] true
    rw [show ([45] : List UInt8).length = 1 from rfl, List.singleton_append] at this
    rw [this, show sgnI true s = v by unfold sgnI; rw [if_pos rfl]; omega]
  · rw [if_neg c, List.nil_append]
    have hb : basedF (sizeL k n) = none := by
      unfold sizeL
      have hd : ∀ a : Nat, ∀ B, digL (decL a ++ 46 :: B) = decL a := fun a B => takeW isDig 46 _ (by decide) _ (decL_dig a)
      unfold basedF
      rw [hd, if_pos ?_]
      right; right; right; right; right; right
      rw [List.getElem?_append_right (Nat.le_refl _), Nat.sub_self]
      simp
    unfold readF
    rw [hb]
    simp only
    have hh := head_dec (n / 10 ^ k).toNat (46 :: padL k (decL (n % 10 ^ k).toNat))
    unfold sizeL
    rw [if_neg hh.1, if_neg hh.2]
    have := size_read k hk.1 hk.2 s n hs0 hs1 hn0 hok [] false
    rw [List.nil_append, List.length_nil] at this
    unfold sizeL at this
    rw [this, show sgnI false s = v by unfold sgnI; rw [if_neg (by decide)]; omega]
end Go.Proofs.Ythelgahojgdehaa
