/- Parts of the proof: Tnt, Pln, Vnv. -/
import Derived.Test.YtpiomapnmempoaaGreatY09
namespace Go.Proofs.YtpiomapnmempoaaGreat
open Go.RowKit
def dgB (n : Nat) : UInt8 := UInt8.ofNat (48 + n)
def decL (n : Nat) : List UInt8 := if n < 10 then [dgB n] else decL (n / 10) ++ [dgB (n % 10)]
termination_by n
decreasing_by omega
theorem decL_lo (n : Nat) (h : n < 10) : decL n = [dgB n] := by rw [decL, if_pos h]
theorem decL_hi (n : Nat) (h : ¬ n < 10) : decL n = decL (n / 10) ++ [dgB (n % 10)] := by rw [decL, if_neg h]
theorem decL_len (n k : Nat) (h : n < 10 ^ (k + 1)) : (decL n).length ≤ k + 1 := by
 induction k generalizing n with
 | zero => rw [decL_lo n (by simpa using h)]; simp
 | succ k ih =>
  by_cases c : n < 10
  · rw [decL_lo n c]; simp
  · rw [decL_hi n c, List.length_append, List.length_singleton]; have := ih (n / 10) (by rw [Nat.pow_succ] at h; omega); omega
def intL (v : Int) : List UInt8 := if v < 0 then 45 :: decL v.natAbs else decL v.natAbs
theorem nt_under : Tryz.prog.underlying 59 = some (.slice 5) := by kernel_rfl
theorem nt_underStr : Tryz.prog.underlying 9 = some .string := by kernel_rfl
theorem nt_underByte : Tryz.prog.underlying 5 = some (.int .u8) := by kernel_rfl
theorem str_oneN (a : Nat) (x : Int) (hx : x = 48 + (a : Int)) (h1 : a < 10) (W : World) (g : Nat) (h : W.cell? ⟨g, 0, none⟩ = some (.int .u8 x)) :
 (convert 59 9 (.slice (some ⟨g, 0, none⟩) 1 1)).run Tryz.prog W = .ok (.string ⟨#[dgB a]⟩) W := by
 simp only [convert, Sem.run_bind, run_underlying nt_underStr, run_underlying nt_under, run_underlying nt_underByte, Result.andThen_ok]
 have e : u8V (dgB a) = .int .u8 x := by
  rw [hx]; simp only [u8V, dgB, UInt8.toNat_ofNat']; rw [show (48 + a) % 2 ^ 8 = 48 + a by omega]; rfl
 exact bytesToString_T Tryz.prog W ⟨g, 0, none⟩ [dgB a] 1 (fun i hi => by
  obtain rfl : i = 0 := by simpa using hi
  rw [add_z, h]; simp only [List.getElem_cons_zero, e])
theorem app_lst (s t : ByteArray) : (s ++ t).toList = s.toList ++ t.toList := by
 rw [ByteArray.toList_eq, ByteArray.toList_eq, ByteArray.toList_eq, ByteArray.data_append]; simp
theorem one_lst (x : UInt8) : (⟨#[x]⟩ : ByteArray).toList = [x] := by rw [ByteArray.toList_eq]
theorem arr_lst (l : List UInt8) : (⟨l.toArray⟩ : ByteArray).toList = l := by rw [ByteArray.toList_eq]
theorem lst_inj {s t : ByteArray} (h : s.toList = t.toList) : s = t := by
 rw [ByteArray.toList_eq, ByteArray.toList_eq] at h; exact ByteArray.ext (Array.toList_inj.1 h)
set_option maxRecDepth 100000 in
set_option maxHeartbeats 400000 in
theorem decimal_any (n : Nat) (hn : n ≤ 100000000000000) (w : World) :
 Calls Tryz.prog 116 #[.int .u64 n] w fun r w' => r = .returned (.string ⟨(decL n).toArray⟩) ∧ Chg NoB w w' := by
 go_enter Tryz.func116, Tryz.ntmps116
 go_wp2_with fail
 go_loopw [0, 3] (fun nv sv wr => ∃ (m : Nat) (S : ByteArray), m ≤ n ∧ nv = .int .u64 m ∧ sv = .string S ∧ decL n = decL m ++ S.toList ∧ Chg NoB w wr) (fun nv _ _ => (intOf nv).toNat)
 case atStart => exact ⟨n, ⟨#[]⟩, Nat.le_refl _, rfl, rfl, by rw [ByteArray.toList_eq]; simp, Chg.refl _ _⟩
 case round =>
  obtain ⟨m, S, hm, rfl, rfl, hD, X⟩ := hrel
  have hS : S.size ≤ 15 := by
   have h1 := decL_len n 14 (by omega); rw [hD, List.length_append, size_lst] at h1; omega
  have hone := str_oneN (m % 10) (48 + (m : Int) % 10) (by omega) (by omega)
  have hm0 : (0 : Int) ≤ m := by omega
  have hml : (m : Int) ≤ 100000000000000 := by omega
  have q0 : 0 ≤ (m : Int) % 10 := by omega
  have q1 : (m : Int) % 10 < 10 := by omega
  have HD := hid' hD; have HX := hid' X; clear hD
  by_cases c : m < 10
  · have c' : ((m : Int) / 10 == 0) = true := by simp only [beq_iff_eq]; omega
    have HE := hid' (decL_lo m c); have HM := hid' (show m % 10 = m by omega); go_wp2_with fail
    go_ret; refine ⟨congrArg (fun s => Ending.returned (.string s)) (lst_inj ?_), X.alloc _⟩; refine Eq.trans ?_ (arr_lst _).symm; rw [app_lst, one_lst, HD.out, HE.out, HM.out]
  · have c' : ((m : Int) / 10 == 0) = false := by simp only [beq_eq_false_iff_ne, ne_eq]; omega
    have HE := hid' (decL_hi m c); go_wp2_with fail
    go_roundw
    case rel => exact ⟨m / 10, _, by omega, by first | rfl | go_num, rfl, by rw [HD.out, HE.out, app_lst, one_lst, List.append_assoc], X.alloc _⟩
    case measure => simp [intOf]; omega
set_option maxRecDepth 100000 in
set_option maxHeartbeats 400000 in
theorem nint_any (v : Int) (h0 : -10000000000000 ≤ v) (h1 : v ≤ 10000000000000) (w : World) :
 Calls Tryz.prog 87 #[.int .i64 v] w fun r w' => r = .returned (.string ⟨(intL v).toArray⟩) ∧ Chg NoB w w' := by
 by_cases c : v < 0
 · have hd := fun w => decimal_any v.natAbs (by omega) w; have hl := decL_len v.natAbs 14 (by omega)
   have e : -(v + 1) + 1 = (v.natAbs : Int) := by omega
   have HI := hid' (show intL v = 45 :: decL v.natAbs from if_pos c); have hz : (⟨(decL v.natAbs).toArray⟩ : ByteArray).size ≤ 15 := hl; rw [← e] at hd; have HL := hid' (arr_lst (decL v.natAbs)); generalize (⟨(decL v.natAbs).toArray⟩ : ByteArray) = S at *; have HD := hid' hd; clear hd e; go_enter Tryz.func87, Tryz.ntmps87
   go_wp2_with fail
   refine (HD.out _).mono ?_; rintro r w1 ⟨rfl, X⟩; go_wp2_with fail
   go_ret; refine ⟨congrArg (fun s => Ending.returned (.string s)) (lst_inj ?_), X⟩; refine Eq.trans ?_ (arr_lst _).symm; rw [app_lst, one_lst, HI.out, HL.out]; rfl
 · have hd := fun w => decimal_any v.natAbs (by omega) w
   have e : v = (v.natAbs : Int) := by omega
   have HI := hid' (show intL v = decL v.natAbs from if_neg c); rw [← e] at hd; have HD := hid' hd
   have c' : 0 ≤ v := by omega
   clear hd e; go_enter Tryz.func87, Tryz.ntmps87
   go_wp2_with fail
   refine (HD.out _).mono ?_; rintro r w1 ⟨rfl, X⟩; go_wp2_with fail
   go_ret; exact ⟨by rw [HI.out]; rfl, X⟩
def plainB (o : O) : ByteArray :=
 if o.kind = 1 then ⟨#[110, 117, 108, 108]⟩ else if o.kind = 3 then ⟨(intL o.n).toArray⟩ else if o.kind = 5 then o.s else if o.kind = 6 then ⟨#[45, 109, 97, 114, 107, 45]⟩ else ⟨#[45, 97, 114, 114, 97, 121, 45]⟩
def plainK (o : O) : Prop := o.kind = 1 ∨ o.kind = 3 ∨ o.kind = 5 ∨ o.kind = 6 ∨ o.kind = 9
theorem mayP_int {ex : Bool} {n a l : Int} {s : ByteArray} (h : mayO ⟨3, ex, n, a, l, s⟩ = true) : -2147483647 ≤ n ∧ n ≤ 2147483647 := by
 unfold mayO at h; rw [Bool.and_eq_true] at h; have := h.2; rw [if_neg (by simp), if_neg (by simp), if_pos rfl] at this
 simpa using this
set_option maxRecDepth 100000 in
set_option maxHeartbeats 1000000 in
theorem plain_any (o : O) (hp : Nat) (hm : mayO o = true) (hk : plainK o) (w : World) :
 Calls Tryz.prog 55 #[ptr hp, o.val] w fun r w' => r = .returned (.string (plainB o)) ∧ Chg NoB w w' := by
 have HM := may_any o; rw [hm] at HM; have HM2 := hid' HM; obtain ⟨k, ex, n, a, l, s⟩ := o
 rcases hk with hk | hk | hk | hk | hk
 all_goals
  simp only at hk; subst hk
 · clear HM; go_enter Tryz.func55, Tryz.ntmps55
   go_wp2_with fail
   go_ret; exact ⟨rfl, (Chg.refl NoB w).alloc _⟩
 · have HN := hid' (nint_any n (by have := mayP_int hm; omega) (by have := mayP_int hm; omega)); clear HM; go_enter Tryz.func55, Tryz.ntmps55
   go_wp2_with fail
   have hb := blk_new w (.cells #[.int .i64 3, .bool ex, .int .i64 n, .int .i64 a, .int .i64 l, .string s] 49); have X := (Chg.refl NoB w).alloc (.cells #[.int .i64 3, .bool ex, .int .i64 n, .int .i64 a, .int .i64 l, .string s] 49); generalize w.alloc (.cells #[.int .i64 3, .bool ex, .int .i64 n, .int .i64 a, .int .i64 l, .string s] 49) = w1 at *; refine (HM2.out _).mono ?_; rintro r w2 ⟨rfl, X2⟩; have R2 := cells_of (X2.blk hb id); have l2 := blk_lt (X2.blk hb id); clear hb; go_wp2_with fail
   refine (HN.out _).mono ?_; rintro r w3 ⟨rfl, X3⟩; go_wp2_with fail
   go_ret; exact ⟨rfl, (X.trans X2).trans X3⟩
 all_goals
  clear HM; go_enter Tryz.func55, Tryz.ntmps55
  go_wp2_with fail
  go_ret; exact ⟨rfl, (Chg.refl NoB w).alloc _⟩
abbrev tenV : ByteArray := ⟨#[48, 49, 50, 51, 52, 53, 54, 55, 56, 57]⟩
theorem tenV_dig (d : Nat) (h : d < 10) : tenV.extract d (d + 1) = ⟨#[dgB d]⟩ := by
 have : ∀ d : Fin 10, tenV.extract d (d + 1) = ⟨#[dgB d.val]⟩ := by decide +kernel
 exact this ⟨d, h⟩
abbrev decB (n : Nat) : ByteArray := ⟨(decL n).toArray⟩
abbrev intB (v : Int) : ByteArray := ⟨(intL v).toArray⟩
theorem decB_hi (n : Nat) (h : ¬ n < 10) : decB n = decB (n / 10) ++ ⟨#[dgB (n % 10)]⟩ := by
 apply ByteArray.ext
 rw [ByteArray.data_append, decB, decL_hi n h]; simp
set_option maxRecDepth 100000 in
theorem dg_lo (b : Nat) (h : b < 10) (w : World) :
 Calls Tryz.prog 6 #[.int .i64 b] w fun e w' => e = .returned (.string (decB b)) ∧ Chg NoB w w' := by
 rw [show decB b = ⟨#[dgB b]⟩ by rw [decB, decL_lo b h]]; have h1 := tenV_dig b h
 have h2 : (b : Int) < 10 := by omega
 have h3 : (0 : Int) ≤ b := by omega
 clear h; go_enter Tryz.func6, Tryz.ntmps6
 go_wp2_with fail
 go_ret; exact ⟨rfl, Chg.refl _ _⟩
set_option maxRecDepth 100000 in
theorem dg_hi (b : Nat) (h1 : 10 ≤ b) (h2 : b < 100000) (hL : ∀ w, Calls Tryz.prog 6 #[.int .i64 ((b / 10 : Nat) : Int)] w fun e w' => e = .returned (.string (decB (b / 10))) ∧ Chg NoB w w') (w : World) :
 Calls Tryz.prog 6 #[.int .i64 b] w fun e w' => e = .returned (.string (decB b)) ∧ Chg NoB w w' := by
 rw [decB_hi b (by omega)]; have hsz : (decB (b / 10)).size ≤ 14 + 1 := decL_len (b / 10) 14 (by omega)
 obtain ⟨q, hq⟩ : ∃ q, b / 10 = q := ⟨_, rfl⟩
 obtain ⟨d, hd⟩ : ∃ d, b % 10 = d := ⟨_, rfl⟩
 have hone := tenV_dig d (by omega)
 have e1 : (b : Int) / 10 = q := by omega
 have e2 : (b : Int) % 10 = d := by omega
 have tm : (b : Int).tmod 10 = d := by rw [Int.tmod_eq_emod_of_nonneg (by omega), e2]
 have td : (b : Int).tdiv 10 = q := by rw [Int.tdiv_eq_ediv_of_nonneg (by omega), e1]
 have g1 : (10 : Int) ≤ b := by omega
 have g3 : (0 : Int) ≤ d := by omega
 have g4 : (d : Int) < 10 := by omega
 have x1 := IntWalk.i64_in (q : Int) (by omega); have x2 := IntWalk.i64_in (d : Int) (by omega); have x3 := IntWalk.i64_in ((d : Int) + 1) (by omega)
 have x4 : (0 : Int) ≤ (d : Int) + 1 := by omega
 have x5 : ((d : Int) + 1).toNat = d + 1 := by omega
 have x6 : (d : Int) + 1 ≤ 10 := by omega
 have x7 : (d : Int) ≤ (d : Int) + 1 := by omega
 rw [hq] at hL hsz; rw [hq, hd]; have hL := hid' hL; generalize decB q = c at *; have KS : ∀ W : World, (Op.stringOp .add c ⟨#[dgB d]⟩).run Tryz.prog W = .ok (.string (c ++ ⟨#[dgB d]⟩)) W := fun W => run_string_add_sum W _ _ (by show c.size + 1 ≤ _; omega); clear h1 h2 hq hd hsz; go_enter Tryz.func6, Tryz.ntmps6
 go_wp2_with fail
 go_region_held3 (fun W' => Chg NoB w W') (first | (with_reducible assumption) | (with_reducible exact (Chg.refl _ _).drew) | (with_reducible exact Chg.drew (by with_reducible assumption)) | (with_reducible exact Chg.pure (by with_reducible assumption) (by with_reducible assumption)))
  ((go_at_call 6; refine (hL.out _).mono ?_; rintro r w7 ⟨rfl, X7⟩))
 go_wp2_with fail
 go_ret; exact ⟨rfl, by with_reducible assumption⟩
theorem dg_pos : ∀ (n : Nat) (b : Nat), b ≤ n → b < 100000 → ∀ w, Calls Tryz.prog 6 #[.int .i64 b] w fun e w' => e = .returned (.string (decB b)) ∧ Chg NoB w w'
 | 0, b, h, _, w => dg_lo b (by omega) w
 | n + 1, b, h, h2, w => by
  by_cases c : b < 10
  · exact dg_lo b c w
  · exact dg_hi b (by omega) h2 (fun w => dg_pos n (b / 10) (by omega) (by omega) w) w
set_option maxRecDepth 100000 in
theorem dg_nlo (b : Nat) (h0 : 0 < b) (h : b < 10) (w : World) :
 Calls Tryz.prog 6 #[.int .i64 (-(b : Int))] w fun e w' => e = .returned (.string ⟨#[45, dgB b]⟩) ∧ Chg NoB w w' := by
 rw [show (⟨#[45, dgB b]⟩ : ByteArray) = ⟨#[45]⟩ ++ ⟨#[dgB b]⟩ from rfl]; have h1 := tenV_dig b h
 have h2 : (b : Int) < 10 := by omega
 have h3 : (0 : Int) < b := by omega
 have h5 : ¬ (-(b : Int) ≤ -10) := by omega
 have h6 : -(b : Int) < 0 := by omega
 have h4 : (0 : Int) ≤ b := by omega
 have x2 := IntWalk.i64_in (b : Int) (by omega); have x3 := IntWalk.i64_in ((b : Int) + 1) (by omega)
 have x6 : (b : Int) + 1 ≤ 10 := by omega
 have x5 : ((b : Int) + 1).toNat = b + 1 := by omega
 have KS : ∀ W : World, (Op.stringOp .add ⟨#[45]⟩ ⟨#[dgB b]⟩).run Tryz.prog W = .ok (.string (⟨#[45]⟩ ++ ⟨#[dgB b]⟩)) W := fun W => run_string_add_sum W _ _ (by show 1 + 1 ≤ _; omega); clear h h0; go_enter Tryz.func6, Tryz.ntmps6
 go_wp2_with fail
 go_ret; exact ⟨rfl, Chg.refl _ _⟩
set_option maxRecDepth 100000 in
theorem dg_nhi (b : Nat) (h1 : 10 ≤ b) (h2 : b < 100000) {c : ByteArray} (hc : c.size ≤ 100) (hL : ∀ w, Calls Tryz.prog 6 #[.int .i64 (-((b / 10 : Nat) : Int))] w fun e w' => e = .returned (.string c) ∧ Chg NoB w w') (w : World) :
 Calls Tryz.prog 6 #[.int .i64 (-(b : Int))] w fun e w' => e = .returned (.string (c ++ ⟨#[dgB (b % 10)]⟩)) ∧ Chg NoB w w' := by
 obtain ⟨q, hq⟩ : ∃ q, b / 10 = q := ⟨_, rfl⟩
 obtain ⟨d, hd⟩ : ∃ d, b % 10 = d := ⟨_, rfl⟩
 have hone := tenV_dig d (by omega)
 have e1 : (b : Int) / 10 = q := by omega
 have e2 : (b : Int) % 10 = d := by omega
 have tm : (-(b : Int)).tmod 10 = -(d : Int) := by rw [Int.neg_tmod, Int.tmod_eq_emod_of_nonneg (by omega), e2]
 have td : (-(b : Int)).tdiv 10 = -(q : Int) := by rw [Int.neg_tdiv, Int.tdiv_eq_ediv_of_nonneg (by omega), e1]
 have g1 : -(b : Int) ≤ -10 := by omega
 have g3 : (0 : Int) ≤ d := by omega
 have g4 : (d : Int) < 10 := by omega
 have x0 := IntWalk.i64_in (-(d : Int)) (by omega); have x1 := IntWalk.i64_in (-(q : Int)) (by omega); have x2 := IntWalk.i64_in (d : Int) (by omega); have x3 := IntWalk.i64_in ((d : Int) + 1) (by omega)
 have x4 : (0 : Int) ≤ (d : Int) + 1 := by omega
 have x5 : ((d : Int) + 1).toNat = d + 1 := by omega
 have x6 : (d : Int) + 1 ≤ 10 := by omega
 have x7 : (d : Int) ≤ (d : Int) + 1 := by omega
 rw [hq] at hL; rw [hd]; have hL := hid' hL; have KS : ∀ W : World, (Op.stringOp .add c ⟨#[dgB d]⟩).run Tryz.prog W = .ok (.string (c ++ ⟨#[dgB d]⟩)) W := fun W => run_string_add_sum W _ _ (by show c.size + 1 ≤ _; omega); clear h1 h2 hq hd hc e1 e2; go_enter Tryz.func6, Tryz.ntmps6
 go_wp2_with fail
 go_region_held3 (fun W' => Chg NoB w W') (first | (with_reducible assumption) | (with_reducible exact (Chg.refl _ _).drew) | (with_reducible exact Chg.drew (by with_reducible assumption)) | (with_reducible exact Chg.pure (by with_reducible assumption) (by with_reducible assumption)))
  ((go_at_call 6; refine (hL.out _).mono ?_; rintro r w7 ⟨rfl, X7⟩))
 go_wp2_with fail
 go_ret; exact ⟨rfl, by with_reducible assumption⟩
abbrev negB (n : Nat) : ByteArray := ⟨(45 :: decL n).toArray⟩
theorem dg_neg : ∀ (n : Nat) (b : Nat), b ≤ n → 0 < b → b < 100000 → ∀ w, Calls Tryz.prog 6 #[.int .i64 (-(b : Int))] w fun e w' => e = .returned (.string (negB b)) ∧ Chg NoB w w'
 | 0, b, h, h0, _, w => absurd h0 (by omega)
 | n + 1, b, h, h0, h2, w => by
  by_cases c : b < 10
  · have := dg_nlo b h0 c w; rwa [show (⟨#[45, dgB b]⟩ : ByteArray) = negB b by rw [negB, decL_lo b c]] at this
  · have := dg_nhi b (by omega) h2 (c := negB (b / 10)) (by
     have := decL_len (b / 10) 14 (by omega); show (45 :: decL (b / 10)).length ≤ 100
     rw [List.length_cons]; omega) (fun w => dg_neg n (b / 10) (by omega) (by omega) (by omega) w) w
    rwa [show negB (b / 10) ++ ⟨#[dgB (b % 10)]⟩ = negB b by
     apply ByteArray.ext
     rw [ByteArray.data_append, negB, negB, decL_hi b c]
     simp] at this
theorem digitsV_any (v : Int) (h0 : -100000 < v) (h1 : v < 100000) (w : World) :
 Calls Tryz.prog 6 #[.int .i64 v] w fun e w' => e = .returned (.string (intB v)) ∧ Chg NoB w w' := by
 by_cases c : v < 0
 · obtain ⟨b, rfl⟩ : ∃ b : Nat, v = -(b : Int) := ⟨v.natAbs, by omega⟩
   have := dg_neg b b (Nat.le_refl _) (by omega) (by omega) w; rwa [show negB b = intB (-(b : Int)) by rw [intB, intL, if_pos c, Int.natAbs_neg, Int.natAbs_natCast]] at this
 · obtain ⟨b, rfl⟩ : ∃ b : Nat, v = (b : Int) := ⟨v.toNat, by omega⟩
   have := dg_pos b b (Nat.le_refl _) (by omega) w; rwa [show decB b = intB (b : Int) by rw [intB, intL, if_neg c, Int.natAbs_natCast]] at this
end Go.Proofs.YtpiomapnmempoaaGreat
