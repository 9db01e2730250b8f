/- Parts of the proof: Re6, Qpr, Tma, Tmz. -/
import Derived.Test.YtoogmimbmgdflaaGreatY07
import Derived.Test.YtoogmimbmgdflaaGreatY10
namespace Go.Proofs.YtoogmimbmgdflaaGreat
open Go.RowKit
abbrev tenR : ByteArray := ⟨#[48, 49, 50, 51, 52, 53, 54, 55, 56, 57]⟩
theorem ten_digR (d : Nat) (h : d < 10) : tenR.extract d (d + 1) = ⟨#[dgB d]⟩ := by
 have : ∀ d : Fin 10, tenR.extract d (d + 1) = ⟨#[dgB d.val]⟩ := by decide +kernel
 exact this ⟨d, h⟩
theorem decL_size (n : Nat) (h : n ≤ 100000000000000000) : (decL n).length ≤ 18 := decL_len n 17 (by omega)
set_option maxRecDepth 100000 in
theorem positive_any (n : Nat) : n ≤ 100000000000000000 → ∀ w : World,
 Calls Tryz.prog 152 #[.int .u64 n] w fun e w' => e = .returned (.string (bytesB (decL n))) ∧ Chg NoB w w' := by
 induction n using Nat.strongRecOn with
 | _ n ih =>
  intro hn w
  by_cases c : n < 10
  · have h1 := ten_digR n c
    have h2 : (n : Int) < 10 := by omega
    have h3 : (0 : Int) ≤ n := by omega
    have h4 : IntKind.u64.wrap ((n : Int) + 1) = (n : Int) + 1 := by rw [IntKind.wrap_u64]; omega
    have h5 : ((n : Int) + 1).toNat = n + 1 := by omega
    have h6 : (n : Int) + 1 ≤ 10 := by omega
    have h7 : (n : Int) ≤ (n : Int) + 1 := by omega
    rw [decL_lo n c]; clear ih c; go_enter Tryz.func152, Tryz.ntmps152
    go_wp2_with fail
    go_ret; exact ⟨rfl, Chg.refl _ _⟩
  · rw [decL_hi n c]
    obtain ⟨q, hq⟩ : ∃ q, n / 10 = q := ⟨_, rfl⟩
    obtain ⟨d, hd⟩ : ∃ d, n % 10 = d := ⟨_, rfl⟩
    have hL := hid' (ih q (by omega) (by omega)); have hone := ten_digR d (by omega); have hsz := decL_size q (by omega)
    have e1 : (n : Int) / 10 = q := by omega
    have e2 : (n : Int) % 10 = d := by omega
    have tm : (n : Int).tmod 10 = d := by rw [Int.tmod_eq_emod_of_nonneg (by omega), e2]
    have td : (n : Int).tdiv 10 = q := by rw [Int.tdiv_eq_ediv_of_nonneg (by omega), e1]
    have g1 : (10 : Int) ≤ n := by omega
    have g3 : (0 : Int) ≤ d := by omega
    have g4 : (d : Int) < 10 := by omega
    have x1 : IntKind.u64.wrap (q : Int) = q := by rw [IntKind.wrap_u64]; omega
    have x2 : IntKind.u64.wrap (d : Int) = d := by rw [IntKind.wrap_u64]; omega
    have x3 : IntKind.u64.wrap ((d : Int) + 1) = (d : Int) + 1 := by rw [IntKind.wrap_u64]; omega
    have x4 : (0 : Int) ≤ (d : Int) + 1 := by omega
    have x5 : ((d : Int) + 1).toNat = d + 1 := by omega
    have x6 : (d : Int) + 1 ≤ 10 := by omega
    have x7 : (d : Int) ≤ (d : Int) + 1 := by omega
    have hP : bytesB (decL q ++ [dgB d]) = bytesB (decL q) ++ ⟨#[dgB d]⟩ := by apply lst_inj; rw [app_lst, arr_lst, arr_lst, one_lst]
    rw [hq, hd, hP]
    have hS : (bytesB (decL q)).size ≤ 18 := by show (decL q).toArray.size ≤ 18; simpa using hsz
    have hS2 : ¬ (9223372036854775807 < (bytesB (decL q)).size + (⟨#[dgB d]⟩ : ByteArray).size) := by
     have : (⟨#[dgB d]⟩ : ByteArray).size = 1 := rfl; omega
    generalize bytesB (decL q) = Y at *; generalize (⟨#[dgB d]⟩ : ByteArray) = Z at *; clear hq hd hP hsz ih c; go_enter Tryz.func152, Tryz.ntmps152
    go_wp2_with fail
    go_region_held3 (fun W' => Chg NoB w W') (first | (with_reducible assumption) | (with_reducible exact (Chg.refl _ _).drew) | (with_reducible exact Chg.drew (by with_reducible assumption)) | (with_reducible exact Chg.pure (by with_reducible assumption) (by with_reducible assumption)))
     ((go_at_call 152; refine (hL.out _).mono ?_; rintro r w7 ⟨rfl, X7⟩))
    go_wp2_with fail
    go_ret; exact ⟨rfl, by with_reducible assumption⟩
set_option maxRecDepth 100000 in
set_option maxHeartbeats 400000 in
theorem magN_any (v : Int) (h0 : -100000000000000000 ≤ v) (h1 : v < 0) (w : World) : Calls Tryz.prog 153 #[.int .i64 v] w fun e w' => e = .returned (.int .u64 (v.natAbs : Nat)) ∧ w = w' := by
 have e1 : IntKind.u64.wrap (-(v + 1)) = -(v + 1) := by rw [IntKind.wrap_u64]; omega
 have e2 : IntKind.u64.wrap (-(v + 1) + 1) = ((v.natAbs : Nat) : Int) := by rw [IntKind.wrap_u64]; omega
 have e3 : IntKind.i64.wrap (-(v + 1)) = -(v + 1) := IntWalk.i64_in _ (by omega); go_enter Tryz.func153, Tryz.ntmps153
 go_wp2_with fail
 go_ret; exact ⟨rfl, rfl⟩
set_option maxRecDepth 100000 in
set_option maxHeartbeats 400000 in
theorem rint_any (v : Int) (h0 : -100000000000000000 ≤ v) (h1 : v ≤ 100000000000000000) (w : World) :
 Calls Tryz.prog 134 #[.int .i64 v] w fun e w' => e = .returned (.string (bytesB (intL v))) ∧ Chg NoB w w' := by
 have HP := hid' (fun w => positive_any v.natAbs (by omega) w); have hsz := decL_size v.natAbs (by omega)
 by_cases c : v < 0
 · have HM := hid' (fun w => magN_any v h0 c w)
   have hP : bytesB (intL v) = ⟨#[45]⟩ ++ bytesB (decL v.natAbs) := by
    apply lst_inj; rw [app_lst, one_lst, arr_lst, arr_lst]; unfold intL; rw [if_pos c]; rfl
   have hS : (bytesB (decL v.natAbs)).size ≤ 18 := by show (decL v.natAbs).toArray.size ≤ 18; simpa using hsz
   have hS2 : ¬ (9223372036854775807 < (⟨#[45]⟩ : ByteArray).size + (bytesB (decL v.natAbs)).size) := by
    have : (⟨#[45]⟩ : ByteArray).size = 1 := rfl; omega
   rw [hP]; generalize bytesB (decL v.natAbs) = Y at *; clear hsz hP; go_enter Tryz.func134, Tryz.ntmps134
   go_wp2_with fail
   refine (HM.out _).mono ?_; rintro e w1 ⟨rfl, rfl⟩; go_wp2_with fail
   refine (HP.out _).mono ?_; rintro e w1 ⟨rfl, X⟩; go_wp2_with fail
   go_ret; exact ⟨rfl, X⟩
 · have hP : intL v = decL v.natAbs := by unfold intL; rw [if_neg c]
   have hn : ((v.natAbs : Nat) : Int) = v := by omega
   have c' : 0 ≤ v := by omega
   have e2 : IntKind.u64.wrap v = v := by rw [IntKind.wrap_u64]; omega
   rw [hP]; rw [hn] at HP; clear hP hsz; go_enter Tryz.func134, Tryz.ntmps134
   go_wp2_with fail
   refine (HP.out _).mono ?_; rintro e w1 ⟨rfl, X⟩; go_wp2_with fail
   go_ret; exact ⟨rfl, X⟩
theorem padL_snoc (k : Nat) (X : List UInt8) (d : UInt8) : padL (k + 1) (X ++ [d]) = padL k X ++ [d] := by
 unfold padL; rw [List.length_append, List.length_singleton, show k + 1 - (X.length + 1) = k - X.length by omega, List.append_assoc]
theorem dec_split : ∀ (k : Nat) (n : Nat), padL (k + 2) (decL n) = decL (n / 10 ^ (k + 1)) ++ padL (k + 1) (decL (n % 10 ^ (k + 1)))
 | 0, n => by
  by_cases c : n < 10
  · rw [Nat.zero_add, Nat.pow_one, Nat.div_eq_of_lt c, Nat.mod_eq_of_lt c, decL_lo n c, decL_lo 0 (by decide)]; rfl
  · rw [Nat.zero_add, Nat.pow_one, decL_hi n c, decL_lo (n % 10) (by omega), show (2 : Nat) = 1 + 1 from rfl, padL_snoc]; have hl : 1 ≤ (decL (n / 10)).length := List.length_pos_iff.2 (decL_ne _); unfold padL; rw [Nat.sub_eq_zero_of_le hl]; rfl
 | k + 1, n => by
  have e1 : n / 10 ^ (k + 1 + 1) = n / 10 / 10 ^ (k + 1) := by rw [Nat.div_div_eq_div_mul, Nat.pow_succ, Nat.mul_comm]
  have e2 : (n % 10 ^ (k + 1 + 1)) / 10 = n / 10 % 10 ^ (k + 1) := by
   rw [Nat.pow_succ, Nat.mul_comm (10 ^ (k + 1)) 10, Nat.mod_mul]; omega
  have e3 : (n % 10 ^ (k + 1 + 1)) % 10 = n % 10 := by
   rw [Nat.pow_succ, Nat.mul_comm (10 ^ (k + 1)) 10]; exact Nat.mod_mul_right_mod n 10 (10 ^ (k + 1))
  have hm : padL (k + 1 + 1) (decL (n % 10 ^ (k + 1 + 1))) = padL (k + 1) (decL (n / 10 % 10 ^ (k + 1))) ++ [dgB (n % 10)] := by
   by_cases c : n % 10 ^ (k + 1 + 1) < 10
   · rw [← e2, Nat.div_eq_of_lt c, decL_lo _ c, decL_lo 0 (by decide), show n % 10 ^ (k + 1 + 1) = n % 10 by omega, show [dgB (n % 10)] = [] ++ [dgB (n % 10)] from rfl, padL_snoc]
     have : padL (k + 1) [] = padL (k + 1) [dgB 0] := by
      unfold padL; rw [List.length_nil, Nat.sub_zero, List.length_singleton, Nat.add_sub_cancel, List.replicate_succ', List.append_nil]; rfl
     rw [this]; rfl
   · rw [decL_hi _ c, padL_snoc, e2, e3]
  rw [hm, e1]
  by_cases c : n < 10
  · have h0 : n / 10 = 0 := by omega
    have := dec_split k 0; rw [h0]; rw [show n % 10 = n by omega, decL_lo n c, show [dgB n] = [] ++ [dgB n] from rfl, padL_snoc, ← List.append_assoc, ← this]; refine congrArg (· ++ [dgB n]) ?_; rw [decL_lo 0 (by decide)]; unfold padL; rw [List.length_nil, Nat.sub_zero, List.length_singleton, show k + 1 + 1 = k + 1 + 1 from rfl, show k + 2 - 1 = k + 1 by omega, List.replicate_succ', List.append_nil]; rfl
  · have := dec_split k (n / 10); rw [decL_hi n c, show k + 1 + 2 = (k + 2) + 1 from rfl, padL_snoc, this, List.append_assoc]
set_option maxRecDepth 100000 in
set_option maxHeartbeats 1000000 in
theorem rplaces_any (x : Nat) (k : Nat) (hx : x ≤ 100000000000000000) (k1 : 1 ≤ k) (k5 : k ≤ 10) (w : World) :
 Calls Tryz.prog 154 #[.int .i64 x, .int .i64 k] w fun e w' => e = .returned (.string (bytesB (sizeL k x))) ∧ Chg NoB w w' := by
 have HP := hid' (fun w => positive_any x hx w); have hsz := decL_size x hx
 have e2 : IntKind.u64.wrap (x : Int) = x := by rw [IntKind.wrap_u64]; omega
 have hk : (k : Int) ≤ 10 := by omega
 have hk1 : 1 ≤ (k : Int) := by omega
 have HSZ := hid' hsz; clear hsz; go_enter Tryz.func154, Tryz.ntmps154
 go_wp2_with fail
 refine (HP.out _).mono ?_; rintro e w1 ⟨rfl, X⟩; go_wp2_with fail
 go_loopw [5] (fun dv wr => ∃ (j : Nat) (D : ByteArray), dv = .string D ∧ D.toList = List.replicate j 48 ++ decL x ∧ (0 < j → D.size ≤ k + 1) ∧ Chg NoB w wr) (fun dv _ => 30 - (match dv with | .string D => D.size | _ => 0))
 case atStart => exact ⟨0, _, rfl, by rw [arr_lst]; rfl, fun h => by omega, X⟩
 case round =>
  obtain ⟨j, D, rfl, hD, hj, X2⟩ := hrel; clear X
  have hDs : D.size = j + (decL x).length := by rw [← size_lst, hD]; simp
  by_cases c : D.size ≤ k
  · have c' : (D.size : Int) ≤ k := by omega
    have hS2 : ¬ (9223372036854775807 < (⟨#[48]⟩ : ByteArray).size + D.size) := by
     have : (⟨#[48]⟩ : ByteArray).size = 1 := rfl; omega
    have hT := hid' (show ((⟨#[48]⟩ : ByteArray) ++ D).toList = List.replicate (j + 1) 48 ++ decL x by
     rw [app_lst, one_lst, hD, List.replicate_succ]; rfl)
    have hU : ((⟨#[48]⟩ : ByteArray) ++ D).size = D.size + 1 := by rw [ByteArray.size_append]; show 1 + D.size = _; omega
    generalize hY : (⟨#[48]⟩ : ByteArray) ++ D = Y at *; clear hD hDs; go_wp2_with fail
    go_roundw
    case rel => exact ⟨j + 1, Y, rfl, hT.out, fun _ => by omega, X2⟩
    case measure => simp; omega
  · have c' : (k : Int) < D.size := by omega
    have hpad : D.toList = padL (k + 1) (decL x) := by
     have hl := HSZ.out; rw [hD]; unfold padL; refine congrArg (fun n => List.replicate n 48 ++ decL x) ?_
     by_cases hj0 : 0 < j
     · have := hj hj0; omega
     · omega
    obtain ⟨m, rfl⟩ : ∃ m, k = m + 1 := ⟨k - 1, by omega⟩
    have hsp := dec_split m x; rw [← hpad] at hsp; have hlen : (padL (m + 1) (decL (x % 10 ^ (m + 1)))).length = m + 1 := padL_len _ _ (decL_len _ m (Nat.mod_lt _ (Nat.pow_pos (by decide))))
    have hDl : D.size = (decL (x / 10 ^ (m + 1))).length + (m + 1) := by rw [← size_lst, hsp, List.length_append, hlen]
    obtain ⟨y1, hy1⟩ : ∃ y, D.extract 0 (D.size - (m + 1)) = y := ⟨_, rfl⟩
    obtain ⟨y2, hy2⟩ : ∃ y, D.extract (D.size - (m + 1)) D.size = y := ⟨_, rfl⟩
    have t1 : ((D.size : Int) - ((m + 1 : Nat) : Int)).toNat = D.size - (m + 1) := by omega
    have t1' : ((D.size : Int) - ((m : Int) + 1)).toNat = D.size - (m + 1) := by omega
    have l1 : y1.toList = decL (x / 10 ^ (m + 1)) := by
     rw [← hy1, ext0_lst, hsp, show D.size - (m + 1) = (decL (x / 10 ^ (m + 1))).length by omega, List.take_left]
    have l2 : y2.toList = padL (m + 1) (decL (x % 10 ^ (m + 1))) := by
     rw [← hy2, extE_lst, hsp, show D.size - (m + 1) = (decL (x / 10 ^ (m + 1))).length by omega, List.drop_left]
    have hQ := hid' (show bytesB (sizeL (m + 1) x) = (y1 ++ ⟨#[46]⟩) ++ y2 by
     apply lst_inj
     rw [app_lst, app_lst, arr_lst, one_lst, l1, l2]; unfold sizeL
     have e1 : ((x : Int) / 10 ^ (m + 1)).toNat = x / 10 ^ (m + 1) := by
      rw [show (x : Int) / 10 ^ (m + 1) = ((x / 10 ^ (m + 1) : Nat) : Int) by push_cast; rfl, Int.toNat_natCast]
     have e2 : ((x : Int) % 10 ^ (m + 1)).toNat = x % 10 ^ (m + 1) := by
      rw [show (x : Int) % 10 ^ (m + 1) = ((x % 10 ^ (m + 1) : Nat) : Int) by push_cast; rfl, Int.toNat_natCast]
     rw [e1, e2]
     simp)
    have z1 : y1.size ≤ 30 := by rw [← hy1, ByteArray.size_extract]; have := HSZ.out; by_cases hj0 : 0 < j; have := hj hj0; omega; omega
    have z2 : y2.size ≤ 30 := by rw [← hy2, ByteArray.size_extract]; have := HSZ.out; by_cases hj0 : 0 < j; have := hj hj0; omega; omega
    have s1 : ¬ (9223372036854775807 < y1.size + (⟨#[46]⟩ : ByteArray).size) := by
     have : (⟨#[46]⟩ : ByteArray).size = 1 := rfl; omega
    have s2 : ¬ (9223372036854775807 < (y1 ++ ⟨#[46]⟩).size + y2.size) := by
     rw [ByteArray.size_append]; have : (⟨#[46]⟩ : ByteArray).size = 1 := rfl; omega
    have d0 : (0 : Int) ≤ (D.size : Int) - ((m : Int) + 1) := by omega
    have d1 : (D.size : Int) - ((m : Int) + 1) ≤ D.size := by omega
    have hD30 : D.size ≤ 30 := by have := HSZ.out; by_cases hj0 : 0 < j; have := hj hj0; omega; omega
    have d2 : IntKind.i64.wrap ((D.size : Int) - ((m : Int) + 1)) = (D.size : Int) - ((m : Int) + 1) := IntWalk.i64_in _ (by omega); clear hD hDs hpad hsp hlen hDl l1 l2 hj c; go_wp2_with fail
    go_quiet (fail)
    have X3 := X2.drewN nq; generalize wr.drewN nq = w3 at *; go_wp2_with fail
    go_ret; exact ⟨by rw [hQ.out]; rfl, X3⟩
theorem at8_of (w : World) (cs : Array Value) (l : List UInt8) (h : ∀ j, j < l.length → cs[j]? = some (u8V (l.getD j 0))) : At8 (w.alloc (.cells cs 5)) w.heap.size l := fun j hj => by
 rw [cells_of (blk_new w _) j]; exact h j hj
def QOwn (w0 w : World) (v : Value) (b : List UInt8) : Prop := Chg NoB w0 w ∧ w.ownsRow w0.heap.size 5 1 v b.length (u8L b)
theorem QOwn.put {w0 w : World} {v : Value} {b : List UInt8} (A : QOwn w0 w v b) (cs : Array Value) (m : List UInt8) (h : ∀ j, j < m.length → cs[j]? = some (u8V (m.getD j 0))) (hl : b.length + m.length ≤ 1000000) (n : Nat) (hn : m.length = n) :
 Calls Tryz.prog 129 #[v, .slice (some ⟨w.heap.size, 0, none⟩) n n] (w.alloc (.cells cs 5)) fun e w' => ∃ v', e = .returned v' ∧ QOwn w0 w' v' (b ++ m) := by
 subst hn; have X := (Chg.refl NoB w).alloc (.cells cs 5); have h1 := ownB A.2 X (fun _ _ e => e); refine (qput_any h1 (by have := A.1.size; simp; omega) w.heap.size m m.length (at8_of w cs m h) hl).mono ?_; rintro e w' ⟨v', rfl, h2, h3, h4⟩; exact ⟨v', rfl, Chg.grown (A.1.pure X) h3 (fun k hk => .inr (own_ge h1 k (by rw [hk]; simp)).1), h2⟩
theorem quote_snoc (l : List UInt8) (c : UInt8) : quoteQ (l ++ [c]) = quoteQ l ++ oneQ c := by simp [quoteQ]
theorem oneQ_len (c : UInt8) : (oneQ c).length ≤ 4 := by
 unfold oneQ
 repeat' split
 all_goals simp
theorem quote_len : ∀ l : List UInt8, (quoteQ l).length ≤ 4 * l.length
 | [] => by simp [quoteQ]
 | c :: l => by
  have := quote_len l; have := oneQ_len c; rw [show quoteQ (c :: l) = oneQ c ++ quoteQ l from rfl, List.length_append, List.length_cons]; omega
theorem oct_val (c : UInt8) : ((48 + c / 64).toNat : Int) = 48 + (c.toNat : Int) / 64 ∧ ((48 + c / 8 % 8).toNat : Int) = 48 + (c.toNat : Int) / 8 % 8 ∧ ((48 + c % 8).toNat : Int) = 48 + (c.toNat : Int) % 8 := by
 have key : ∀ n : Fin 256, (fun c : UInt8 => ((48 + c / 64).toNat : Int) = 48 + (c.toNat : Int) / 64 ∧ ((48 + c / 8 % 8).toNat : Int) = 48 + (c.toNat : Int) / 8 % 8 ∧ ((48 + c % 8).toNat : Int) = 48 + (c.toNat : Int) % 8) (UInt8.ofNat n.val) := by decide +kernel
 have kc := key ⟨c.toNat, c.toNat_lt⟩; simp only [UInt8.ofNat_toNat] at kc; exact kc
set_option maxRecDepth 100000 in
set_option maxHeartbeats 1000000 in
theorem parenP_any (s : ByteArray) (hs : s.size ≤ 100000) (w : World) :
 Calls Tryz.prog 95 #[.string s] w fun r w' => r = .returned (.string (bytesB (parenL s.toList))) ∧ Chg NoB w w' := by
 have H0 := hid' (QOwn.put (w0 := w) (w := w) (v := .slice none 0 0) (b := []) ⟨Chg.refl _ _, World.ownsRow_nil _ _ _ _⟩ #[.int .u8 40] [40] (by intro j hj; simp at hj; subst hj; rfl) (by simp) 1 rfl)
 have hsi : (s.size : Int) ≤ 100000 := by omega
 go_enter Tryz.func95, Tryz.ntmps95
 go_wp2_with fail
 refine H0.out.mono ?_; rintro e w1 ⟨v1, rfl, A1⟩; clear H0; go_wp2_with fail
 go_loopw [3, 4] (fun ov iv wr => ∃ i : Nat, i ≤ s.size ∧ iv = .int .i64 i ∧ QOwn w wr ov (40 :: quoteQ (s.toList.take i))) (fun _ iv _ => s.size - (intOf iv).toNat)
 case atStart => exact ⟨0, Nat.zero_le _, rfl, A1⟩
 case round =>
  obtain ⟨i, hi, rfl, A2⟩ := hrel; clear A1
  by_cases hlt : i < s.size
  · have hc : s.toList[i]? = some s[i] := lst_get s i hlt; have hlen := quote_len (s.toList.take i); rw [List.length_take, size_lst] at hlen; have HP := hid' (fun (cs : Array Value) (m : List UInt8) (h : ∀ j, j < m.length → cs[j]? = some (u8V (m.getD j 0))) (n : Nat) (hn : m.length = n) (hn4 : n ≤ 4) => QOwn.put A2 cs m h (by simp; omega) n hn)
    have HT := hid' (show ∀ m, m = oneQ s[i] → 40 :: quoteQ (s.toList.take i) ++ m = 40 :: quoteQ (s.toList.take (i + 1)) from fun m hm => by
     rw [List.take_add_one, hc, Option.toList_some, quote_snoc, hm]; rfl)
    have hil : (i : Int) < s.size := by omega
    have hbd : (s[i].toNat : Int) < 256 := by have := s[i].toNat_lt; omega
    have hb0 : (0 : Int) ≤ s[i].toNat := by omega
    generalize hcc : s[i] = c at *; clear hc hlen A2; have HN := hid' (qname_any c.toNat)
    by_cases h1 : c = 40 ∨ c = 41 ∨ c = 92
    · rcases h1 with rfl | rfl | rfl
      · have e : qnameI 40 = (0, false) := by decide
        have HN := hid' (qname_any 40); rw [e] at HN; go_wp2_with fail
        refine (HN.out _).mono ?_; rintro e w2 ⟨rfl, rfl⟩; go_wp2_with fail
        refine (HP.out _ [92, 40] ?_ 2 rfl (by decide)).mono ?_
        · intro j hj; rcases j with _ | _ | j
          · rfl
          · rfl
          · simp at hj; omega
        rintro e w3 ⟨v3, rfl, A3⟩; rw [HT.out [92, 40] (by decide)] at A3; go_wp2_with fail
        go_roundw
        case rel => exact ⟨i + 1, by omega, by go_num, A3⟩
        case measure => simp [intOf]; omega
      · have e : qnameI 41 = (0, false) := by decide
        have HN := hid' (qname_any 41); rw [e] at HN; go_wp2_with fail
        refine (HN.out _).mono ?_; rintro e w2 ⟨rfl, rfl⟩; go_wp2_with fail
        refine (HP.out _ [92, 41] ?_ 2 rfl (by decide)).mono ?_
        · intro j hj; rcases j with _ | _ | j
          · rfl
          · rfl
          · simp at hj; omega
        rintro e w3 ⟨v3, rfl, A3⟩; rw [HT.out [92, 41] (by decide)] at A3; go_wp2_with fail
        go_roundw
        case rel => exact ⟨i + 1, by omega, by go_num, A3⟩
        case measure => simp [intOf]; omega
      · have e : qnameI 92 = (0, false) := by decide
        have HN := hid' (qname_any 92); rw [e] at HN; go_wp2_with fail
        refine (HN.out _).mono ?_; rintro e w2 ⟨rfl, rfl⟩; go_wp2_with fail
        refine (HP.out _ [92, 92] ?_ 2 rfl (by decide)).mono ?_
        · intro j hj; rcases j with _ | _ | j
          · rfl
          · rfl
          · simp at hj; omega
        rintro e w3 ⟨v3, rfl, A3⟩; rw [HT.out [92, 92] (by decide)] at A3; go_wp2_with fail
        go_roundw
        case rel => exact ⟨i + 1, by omega, by go_num, A3⟩
        case measure => simp [intOf]; omega
    by_cases h2 : c = 8 ∨ c = 9 ∨ c = 10 ∨ c = 12 ∨ c = 13
    · rcases h2 with rfl | rfl | rfl | rfl | rfl
      · have e : qnameI 8 = (98, true) := by decide
        have HN := hid' (qname_any 8); rw [e] at HN; go_wp2_with fail
        refine (HN.out _).mono ?_; rintro e w2 ⟨rfl, rfl⟩; go_wp2_with fail
        refine (HP.out _ [92, 98] ?_ 2 rfl (by decide)).mono ?_
        · intro j hj; rcases j with _ | _ | j
          · rfl
          · rfl
          · simp at hj; omega
        rintro e w3 ⟨v3, rfl, A3⟩; rw [HT.out [92, 98] (by decide)] at A3; go_wp2_with fail
        go_roundw
        case rel => exact ⟨i + 1, by omega, by go_num, A3⟩
        case measure => simp [intOf]; omega
      · have e : qnameI 9 = (116, true) := by decide
        have HN := hid' (qname_any 9); rw [e] at HN; go_wp2_with fail
        refine (HN.out _).mono ?_; rintro e w2 ⟨rfl, rfl⟩; go_wp2_with fail
        refine (HP.out _ [92, 116] ?_ 2 rfl (by decide)).mono ?_
        · intro j hj; rcases j with _ | _ | j
          · rfl
          · rfl
          · simp at hj; omega
        rintro e w3 ⟨v3, rfl, A3⟩; rw [HT.out [92, 116] (by decide)] at A3; go_wp2_with fail
        go_roundw
        case rel => exact ⟨i + 1, by omega, by go_num, A3⟩
        case measure => simp [intOf]; omega
      · have e : qnameI 10 = (110, true) := by decide
        have HN := hid' (qname_any 10); rw [e] at HN; go_wp2_with fail
        refine (HN.out _).mono ?_; rintro e w2 ⟨rfl, rfl⟩; go_wp2_with fail
        refine (HP.out _ [92, 110] ?_ 2 rfl (by decide)).mono ?_
        · intro j hj; rcases j with _ | _ | j
          · rfl
          · rfl
          · simp at hj; omega
        rintro e w3 ⟨v3, rfl, A3⟩; rw [HT.out [92, 110] (by decide)] at A3; go_wp2_with fail
        go_roundw
        case rel => exact ⟨i + 1, by omega, by go_num, A3⟩
        case measure => simp [intOf]; omega
      · have e : qnameI 12 = (102, true) := by decide
        have HN := hid' (qname_any 12); rw [e] at HN; go_wp2_with fail
        refine (HN.out _).mono ?_; rintro e w2 ⟨rfl, rfl⟩; go_wp2_with fail
        refine (HP.out _ [92, 102] ?_ 2 rfl (by decide)).mono ?_
        · intro j hj; rcases j with _ | _ | j
          · rfl
          · rfl
          · simp at hj; omega
        rintro e w3 ⟨v3, rfl, A3⟩; rw [HT.out [92, 102] (by decide)] at A3; go_wp2_with fail
        go_roundw
        case rel => exact ⟨i + 1, by omega, by go_num, A3⟩
        case measure => simp [intOf]; omega
      · have e : qnameI 13 = (114, true) := by decide
        have HN := hid' (qname_any 13); rw [e] at HN; go_wp2_with fail
        refine (HN.out _).mono ?_; rintro e w2 ⟨rfl, rfl⟩; go_wp2_with fail
        refine (HP.out _ [92, 114] ?_ 2 rfl (by decide)).mono ?_
        · intro j hj; rcases j with _ | _ | j
          · rfl
          · rfl
          · simp at hj; omega
        rintro e w3 ⟨v3, rfl, A3⟩; rw [HT.out [92, 114] (by decide)] at A3; go_wp2_with fail
        go_roundw
        case rel => exact ⟨i + 1, by omega, by go_num, A3⟩
        case measure => simp [intOf]; omega
    simp only [not_or] at h1 h2
    have e : qnameI (c.toNat : Int) = (0, false) := by
     have f : ∀ (n : UInt8) (m : Int), m = n.toNat → ¬ c = n → ¬ (c.toNat : Int) = m := fun n m hm h e => h (UInt8.toNat_inj.1 (by omega)); unfold qnameI; rw [if_neg (f 8 8 rfl h2.1), if_neg (f 9 9 rfl h2.2.1), if_neg (f 10 10 rfl h2.2.2.1), if_neg (f 12 12 rfl h2.2.2.2.1), if_neg (f 13 13 rfl h2.2.2.2.2)]
    rw [e] at HN; have g1 := u8F 40 h1.1 40; have g2 := u8F 41 h1.2.1 41; have g3 := u8F 92 h1.2.2 92
    by_cases h3 : c < 32 ∨ 126 < c
    · have ho : [92, 48 + c / 64, 48 + c / 8 % 8, 48 + c % 8] = oneQ c := by
       unfold oneQ; rw [if_neg (by simp only [not_or]; exact h1), if_neg h2.1, if_neg h2.2.1, if_neg h2.2.2.1, if_neg h2.2.2.2.1, if_neg h2.2.2.2.2, if_pos h3]
      have hd : (decide ((c.toNat : Int) < 32) || decide (126 < (c.toNat : Int))) = true := by
       rcases h3 with h | h
       · have : (c.toNat : Int) < 32 := by have := UInt8.lt_iff_toNat_lt.1 h; have e : (32 : UInt8).toNat = 32 := rfl; omega
         simp [this]
       · have : 126 < (c.toNat : Int) := by have := UInt8.lt_iff_toNat_lt.1 h; have e : (126 : UInt8).toNat = 126 := rfl; omega
         simp [this]
      clear h1 h2 h3 e
      by_cases d0 : (c.toNat : Int) < 32
      · have d1 : decide ((c.toNat : Int) < 32) = true := by simpa using d0
        clear d0 hd; go_wp2_with fail
        refine (HN.out _).mono ?_; rintro e w2 ⟨rfl, rfl⟩; go_wp2_with fail
        refine (HP.out _ [92, 48 + c / 64, 48 + c / 8 % 8, 48 + c % 8] ?_ 4 rfl (by decide)).mono ?_
        · obtain ⟨o1, o2, o3⟩ := oct_val c; intro j hj
          rcases j with _ | _ | _ | _ | j
          · rfl
          · exact congrArg (fun x => some (Value.int .u8 x)) o1.symm
          · exact congrArg (fun x => some (Value.int .u8 x)) o2.symm
          · exact congrArg (fun x => some (Value.int .u8 x)) o3.symm
          · simp at hj; omega
        rintro e w3 ⟨v3, rfl, A3⟩; rw [HT.out _ ho] at A3; go_wp2_with fail
        go_roundw
        case rel => exact ⟨i + 1, by omega, by go_num, A3⟩
        case measure => simp [intOf]; omega
      · have d1 : decide ((c.toNat : Int) < 32) = false := by simpa using d0
        have d2 : decide (126 < (c.toNat : Int)) = true := by rw [d1, Bool.false_or] at hd; exact hd
        clear d0 hd; go_wp2_with fail
        refine (HN.out _).mono ?_; rintro e w2 ⟨rfl, rfl⟩; go_wp2_with fail
        refine (HP.out _ [92, 48 + c / 64, 48 + c / 8 % 8, 48 + c % 8] ?_ 4 rfl (by decide)).mono ?_
        · obtain ⟨o1, o2, o3⟩ := oct_val c; intro j hj
          rcases j with _ | _ | _ | _ | j
          · rfl
          · exact congrArg (fun x => some (Value.int .u8 x)) o1.symm
          · exact congrArg (fun x => some (Value.int .u8 x)) o2.symm
          · exact congrArg (fun x => some (Value.int .u8 x)) o3.symm
          · simp at hj; omega
        rintro e w3 ⟨v3, rfl, A3⟩; rw [HT.out _ ho] at A3; go_wp2_with fail
        go_roundw
        case rel => exact ⟨i + 1, by omega, by go_num, A3⟩
        case measure => simp [intOf]; omega
    · have h32 : ¬ (c.toNat : Int) < 32 := fun h => h3 (.inl (UInt8.lt_iff_toNat_lt.2 (by show c.toNat < 32; omega))); have h126 : ¬ 126 < (c.toNat : Int) := fun h => h3 (.inr (UInt8.lt_iff_toNat_lt.2 (by show 126 < c.toNat; omega)))
      have d1 : decide ((c.toNat : Int) < 32) = false := by simpa using h32
      have d2 : decide (126 < (c.toNat : Int)) = false := by simpa using h126
      have ho : [c] = oneQ c := by
       unfold oneQ; rw [if_neg (by simp only [not_or]; exact h1), if_neg h2.1, if_neg h2.2.1, if_neg h2.2.2.1, if_neg h2.2.2.2.1, if_neg h2.2.2.2.2, if_neg h3]
      clear h1 h2 h3 h32 h126 e; go_wp2_with fail
      refine (HN.out _).mono ?_; rintro e w2 ⟨rfl, rfl⟩; go_wp2_with fail
      refine (HP.out _ [c] ?_ 1 rfl (by decide)).mono ?_
      · intro j hj; rcases j with _ | j
        · rfl
        · simp at hj
      rintro e w3 ⟨v3, rfl, A3⟩; rw [HT.out [c] ho] at A3; go_wp2_with fail
      go_roundw
      case rel => exact ⟨i + 1, by omega, by go_num, A3⟩
      case measure => simp [intOf]; omega
  · obtain rfl : i = s.size := by omega
    rw [List.take_of_length_le (by rw [size_lst]; exact Nat.le_refl _)] at A2; have hlen := quote_len s.toList; rw [size_lst] at hlen; have HP := hid' (QOwn.put A2 #[.int .u8 41] [41] (by intro j hj; simp at hj; subst hj; rfl) (by simp; omega) 1 rfl); clear A2 hlen; go_wp2_with fail
    refine HP.out.mono ?_; rintro e w3 ⟨v3, rfl, A3⟩; have hcv := own_str A3.2 w3 (Chg.refl _ _); have X3 := A3.1; clear A3; go_wp2_with fail
    go_ret; exact ⟨rfl, X3⟩
set_option maxRecDepth 100000 in
theorem sign_all (k : Int) (h0 : -9223372036854775808 ≤ k) (h1 : k ≤ 9223372036854775807) (w : World) : Calls Tryz.prog 74 #[.int .i64 k] w fun e w' => e = .returned (.string (signB k)) ∧ w = w' := by
 have hr : signL k = if k = 7 then [123] else if k = 8 then [125] else if k = 9 then [91] else if k = 10 then [93] else if k = 11 then [60, 60] else if k = 12 then [62, 62] else [] := rfl
 by_cases c7 : k = 7
 · subst c7; go_enter Tryz.func74, Tryz.ntmps74
   go_wp2
   go_ret; exact ⟨rfl, rfl⟩
 by_cases c8 : k = 8
 · subst c8; go_enter Tryz.func74, Tryz.ntmps74
   go_wp2
   go_ret; exact ⟨rfl, rfl⟩
 by_cases c9 : k = 9
 · subst c9; go_enter Tryz.func74, Tryz.ntmps74
   go_wp2
   go_ret; exact ⟨rfl, rfl⟩
 by_cases c10 : k = 10
 · subst c10; go_enter Tryz.func74, Tryz.ntmps74
   go_wp2
   go_ret; exact ⟨rfl, rfl⟩
 by_cases c11 : k = 11
 · subst c11; go_enter Tryz.func74, Tryz.ntmps74
   go_wp2
   go_ret; exact ⟨rfl, rfl⟩
 by_cases c12 : k = 12
 · subst c12; go_enter Tryz.func74, Tryz.ntmps74
   go_wp2
   go_ret; exact ⟨rfl, rfl⟩
 rw [if_neg c7, if_neg c8, if_neg c9, if_neg c10, if_neg c11, if_neg c12] at hr; have HR := hid' hr
 have u7 : (wrap64 (k - 7) == 0) = false := by
  have : wrap64 (k - 7) ≠ 0 := by unfold wrap64; omega
  simpa using this
 have u8 : (wrap64 (k - 7) == 1) = false := by
  have : wrap64 (k - 7) ≠ 1 := by unfold wrap64; omega
  simpa using this
 have u9 : (wrap64 (k - 7) == 2) = false := by
  have : wrap64 (k - 7) ≠ 2 := by unfold wrap64; omega
  simpa using this
 have u10 : (wrap64 (k - 7) == 3) = false := by
  have : wrap64 (k - 7) ≠ 3 := by unfold wrap64; omega
  simpa using this
 have u11 : (wrap64 (k - 7) == 4) = false := by
  have : wrap64 (k - 7) ≠ 4 := by unfold wrap64; omega
  simpa using this
 have u12 : (wrap64 (k - 7) == 5) = false := by
  have : wrap64 (k - 7) ≠ 5 := by unfold wrap64; omega
  simpa using this
 clear hr c7 c8 c9 c10 c11 c12; go_enter Tryz.func74, Tryz.ntmps74
 go_wp2
 go_ret; exact ⟨by rw [signB, HR.out]; rfl, rfl⟩
theorem some_ne {s : ByteArray} (c1 : s.size ≠ 0) : s.toList.isEmpty = false := by
 have := tl_size s
 cases hl : s.toList with
 | nil => rw [hl] at this; exact absurd this.symm c1
 | cons => rfl
set_option maxRecDepth 100000 in
theorem mayK_1 (n p : Int) (s : ByteArray) (v : Bool) (hv : (decide (s.size = 0) && decide (-2147483647 ≤ n) && decide (n ≤ 2147483647)) = v) (w : World) :
 Calls Tryz.prog 40 #[Tok.val ⟨1, n, s, p⟩] w fun r w' => r = .returned (.bool v) ∧ Chg NoB w w' := by
 have X1 := (Chg.refl NoB w).alloc (tokBox 1 n s p)
 by_cases c1 : s.size = 0
 · obtain rfl := size0 c1; rw [c1, show decide ((0 : Nat) = 0) = true from rfl, Bool.true_and] at hv; clear c1
   by_cases c2 : -2147483647 ≤ n
   · have d2 : decide (-2147483647 ≤ n) = true := decide_eq_true c2; rw [d2, Bool.true_and] at hv; clear c2; go_enter Tryz.func40, Tryz.ntmps40
     go_wp2_with fail
     go_ret; exact ⟨rfl, X1⟩
   · have d2 : decide (-2147483647 ≤ n) = false := decide_eq_false c2; rw [d2, Bool.false_and] at hv; subst hv; clear c2; go_enter Tryz.func40, Tryz.ntmps40
     go_wp2_with fail
     go_ret; exact ⟨rfl, X1⟩
 · have c2 := some_ne c1; rw [decide_eq_false c1, Bool.false_and, Bool.false_and] at hv; subst hv; clear c1; go_enter Tryz.func40, Tryz.ntmps40
   go_wp2_with fail
   go_ret; exact ⟨rfl, X1⟩
set_option maxRecDepth 100000 in
theorem mayK_2 (n p : Int) (s : ByteArray) (v : Bool) (hv : (decide (s.size = 0) && decide (-1073741823 ≤ n) && decide (n ≤ 1073741823)) = v) (w : World) :
 Calls Tryz.prog 40 #[Tok.val ⟨2, n, s, p⟩] w fun r w' => r = .returned (.bool v) ∧ Chg NoB w w' := by
 have X1 := (Chg.refl NoB w).alloc (tokBox 2 n s p)
 by_cases c1 : s.size = 0
 · obtain rfl := size0 c1; rw [c1, show decide ((0 : Nat) = 0) = true from rfl, Bool.true_and] at hv; clear c1
   by_cases c2 : -1073741823 ≤ n
   · have d2 : decide (-1073741823 ≤ n) = true := decide_eq_true c2; rw [d2, Bool.true_and] at hv; clear c2; go_enter Tryz.func40, Tryz.ntmps40
     go_wp2_with fail
     go_ret; exact ⟨rfl, X1⟩
   · have d2 : decide (-1073741823 ≤ n) = false := decide_eq_false c2; rw [d2, Bool.false_and] at hv; subst hv; clear c2; go_enter Tryz.func40, Tryz.ntmps40
     go_wp2_with fail
     go_ret; exact ⟨rfl, X1⟩
 · have c2 := some_ne c1; rw [decide_eq_false c1, Bool.false_and, Bool.false_and] at hv; subst hv; clear c1; go_enter Tryz.func40, Tryz.ntmps40
   go_wp2_with fail
   go_ret; exact ⟨rfl, X1⟩
set_option maxRecDepth 100000 in
theorem mayK_n (k n p : Int) (s : ByteArray) (h1 : k ≠ 1) (h2 : k ≠ 2) (hn : n ≠ 0) (w : World) :
 Calls Tryz.prog 40 #[Tok.val ⟨k, n, s, p⟩] w fun r w' => r = .returned (.bool false) ∧ Chg NoB w w' := by
 have X1 := (Chg.refl NoB w).alloc (tokBox k n s p)
 have e1 : (k == 1) = false := by simpa using h1
 have e2 : (k == 2) = false := by simpa using h2
 have e3 : (n == 0) = false := by simpa using hn
 clear h1 h2 hn; go_enter Tryz.func40, Tryz.ntmps40
 go_wp2_with fail
 go_ret; exact ⟨rfl, X1⟩
set_option maxRecDepth 100000 in
theorem mayK_6 (p : Int) (s : ByteArray) (hs : s.size ≤ 9223372036854775807) (w : World) :
 Calls Tryz.prog 40 #[Tok.val ⟨6, 0, s, p⟩] w fun r w' => r = .returned (.bool (decide (s.size ≤ 4000))) ∧ Chg NoB w w' := by
 have X1 := (Chg.refl NoB w).alloc (tokBox 6 0 s p); have hm := IntWalk.i64_in (s.size) (by omega)
 have e : decide (s.size ≤ 4000) = decide ((s.size : Int) ≤ 4000) := by
  rw [decide_eq_decide]; omega
 rw [e]; go_enter Tryz.func40, Tryz.ntmps40
 go_wp2_with fail
 go_ret; exact ⟨rfl, X1⟩
theorem signB_ne (k : Int) (h : signL k ≠ []) : (signB k).toList.isEmpty = false := by
 apply some_ne
 intro e; exact h (List.eq_nil_of_length_eq_zero e)
set_option maxRecDepth 100000 in
theorem mayK_s (k p : Int) (s : ByteArray) (h0 : -9223372036854775808 ≤ k) (h9 : k ≤ 9223372036854775807) (hk : ∀ j : Int, 1 ≤ j → j ≤ 6 → k ≠ j) (v : Bool) (hv : (decide (signL k ≠ []) && decide (s.size = 0)) = v) (w : World) :
 Calls Tryz.prog 40 #[Tok.val ⟨k, 0, s, p⟩] w fun r w' => r = .returned (.bool v) ∧ Chg NoB w w' := by
 have X1 := (Chg.refl NoB w).alloc (tokBox k 0 s p); have HI := hid' (fun w' => sign_all k h0 h9 w')
 have e1 : (k == 1) = false := by simpa using hk 1 (by omega) (by omega)
 have e2 : (k == 2) = false := by simpa using hk 2 (by omega) (by omega)
 have e3 : (k == 3) = false := by simpa using hk 3 (by omega) (by omega)
 have e4 : (k == 4) = false := by simpa using hk 4 (by omega) (by omega)
 have e5 : (k == 5) = false := by simpa using hk 5 (by omega) (by omega)
 have e6 : (k == 6) = false := by simpa using hk 6 (by omega) (by omega)
 have hb := blk_new w (tokBox k 0 s p); clear hk h0 h9
 by_cases c1 : signL k = []
 · rw [decide_eq_false (not_not_intro c1), Bool.false_and] at hv; subst hv; rw [show signB k = ⟨#[]⟩ by unfold signB; rw [c1]] at HI; clear c1; go_enter Tryz.func40, Tryz.ntmps40
   go_wp2_with fail
   refine (HI.out _).mono ?_; rintro r w2 ⟨rfl, rfl⟩; have R1 := cells_of hb; have l1 := blk_lt hb; go_wp2_with fail
   go_ret; exact ⟨rfl, X1⟩
 · rw [decide_eq_true c1, Bool.true_and] at hv; have c3 := signB_ne k c1; generalize signB k = B at *; clear c1
   by_cases c2 : s.size = 0
   · obtain rfl := size0 c2; rw [decide_eq_true c2] at hv; subst hv; go_enter Tryz.func40, Tryz.ntmps40
     go_wp2_with fail
     refine (HI.out _).mono ?_; rintro r w2 ⟨rfl, rfl⟩; have R1 := cells_of hb; have l1 := blk_lt hb; go_wp2_with fail
     go_ret; exact ⟨rfl, X1⟩
   · have c4 := some_ne c2; rw [decide_eq_false c2] at hv; subst hv; clear c2; go_enter Tryz.func40, Tryz.ntmps40
     go_wp2_with fail
     refine (HI.out _).mono ?_; rintro r w2 ⟨rfl, rfl⟩; have R1 := cells_of hb; have l1 := blk_lt hb; go_wp2_with fail
     go_ret; exact ⟨rfl, X1⟩
set_option maxRecDepth 100000 in
theorem mayK_4 (p : Int) (s : ByteArray) (hs : s.size ≤ 9223372036854775807) (v : Bool) (hv : (decide (s.size ≤ 100) && decide (regL s.toList = s.size)) = v) (w : World) :
 Calls Tryz.prog 40 #[Tok.val ⟨4, 0, s, p⟩] w fun r w' => r = .returned (.bool v) ∧ Chg NoB w w' := by
 have hm := IntWalk.i64_in (s.size) (by omega); have X1 := (Chg.refl NoB w).alloc (tokBox 4 0 s p); have hb := blk_new w (tokBox 4 0 s p)
 by_cases h : s.size ≤ 100
 · have HR := hid' (fun w' => regular_any s 0 (by omega) (by omega) w'); rw [List.drop_zero] at HR
   have d1 : decide ((s.size : Int) ≤ 100) = true := by simp; omega
   have e1 : (((regL s.toList : Nat) : Int) == (s.size : Int)) = v := by
    rw [← hv]; simp [h]; rw [Bool.eq_iff_iff]; simp; omega
   clear h hv; go_enter Tryz.func40, Tryz.ntmps40
   go_upto_region 16 with (fail)
   generalize w.alloc _ = w1 at *; generalize w.heap.size = b at *; have RC := Chg.cells (S := NoB) hb id; have hS1 : Chg NoB w1 w1 := Chg.refl _ _; have l1 := blk_lt hb
   go_region_held3 (fun W' => Chg NoB w1 W') (first | (with_reducible assumption) | (with_reducible exact Chg.drew (by with_reducible assumption)))
    (first | (go_at_call 73; refine (HR.out _).mono ?_; rintro r w4 ⟨rfl, rfl⟩))
   go_wp2_with fail
   go_ret; exact ⟨rfl, X1.trans (by first | with_reducible assumption | (with_reducible exact Chg.drew (by with_reducible assumption)))⟩
 · have d1 : decide ((s.size : Int) ≤ 100) = false := by simp; omega
   have e1 : v = false := by rw [← hv]; simp; omega
   subst e1; clear h hv; go_enter Tryz.func40, Tryz.ntmps40
   go_upto_region 16 with (fail)
   generalize w.alloc _ = w1 at *; generalize w.heap.size = b at *; have R1 := cells_of hb; have l1 := blk_lt hb
   go_quiet (fail)
   go_wp2_with fail
   go_ret; exact ⟨rfl, X1.drewN _⟩
set_option maxRecDepth 100000 in
theorem mayK_5 (p : Int) (s : ByteArray) (hs : s.size ≤ 9223372036854775807) (v : Bool) (hv : (decide (s.size ≤ 100) && decide (regL s.toList = s.size)) = v) (w : World) :
 Calls Tryz.prog 40 #[Tok.val ⟨5, 0, s, p⟩] w fun r w' => r = .returned (.bool v) ∧ Chg NoB w w' := by
 have hm := IntWalk.i64_in (s.size) (by omega); have X1 := (Chg.refl NoB w).alloc (tokBox 5 0 s p); have hb := blk_new w (tokBox 5 0 s p)
 by_cases h : s.size ≤ 100
 · have HR := hid' (fun w' => regular_any s 0 (by omega) (by omega) w'); rw [List.drop_zero] at HR
   have d1 : decide ((s.size : Int) ≤ 100) = true := by simp; omega
   have e1 : (((regL s.toList : Nat) : Int) == (s.size : Int)) = v := by
    rw [← hv]; simp [h]; rw [Bool.eq_iff_iff]; simp; omega
   clear h hv; go_enter Tryz.func40, Tryz.ntmps40
   go_upto_region 16 with (fail)
   generalize w.alloc _ = w1 at *; generalize w.heap.size = b at *; have RC := Chg.cells (S := NoB) hb id; have hS1 : Chg NoB w1 w1 := Chg.refl _ _; have l1 := blk_lt hb
   go_region_held3 (fun W' => Chg NoB w1 W') (first | (with_reducible assumption) | (with_reducible exact Chg.drew (by with_reducible assumption)))
    (first | (go_at_call 73; refine (HR.out _).mono ?_; rintro r w4 ⟨rfl, rfl⟩))
   go_wp2_with fail
   go_ret; exact ⟨rfl, X1.trans (by first | with_reducible assumption | (with_reducible exact Chg.drew (by with_reducible assumption)))⟩
 · have d1 : decide ((s.size : Int) ≤ 100) = false := by simp; omega
   have e1 : v = false := by rw [← hv]; simp; omega
   subst e1; clear h hv; go_enter Tryz.func40, Tryz.ntmps40
   go_upto_region 16 with (fail)
   generalize w.alloc _ = w1 at *; generalize w.heap.size = b at *; have R1 := cells_of hb; have l1 := blk_lt hb
   go_quiet (fail)
   go_wp2_with fail
   go_ret; exact ⟨rfl, X1.drewN _⟩
set_option maxRecDepth 100000 in
set_option maxHeartbeats 400000 in
theorem mayK_3 (p : Int) (s : ByteArray) (hs : s.size ≤ 9223372036854775807) (v : Bool) (hv : (decide ((readF s.toList).2.2 = 3) && decide (s.size ≠ 0) && decide (s.size ≤ 100) && decide (regL s.toList = s.size)) = v) (w : World) :
 Calls Tryz.prog 40 #[Tok.val ⟨3, 0, s, p⟩] w fun r w' => r = .returned (.bool v) ∧ Chg NoB w w' := by
 have HD := hid' (fun w' => read_any s (by omega) w'); generalize readF s.toList = RD at *; obtain ⟨rk, rv, re⟩ := RD; simp only at hv; have hm := IntWalk.i64_in (s.size) (by omega); have X1 := (Chg.refl NoB w).alloc (tokBox 3 0 s p); have hb := blk_new w (tokBox 3 0 s p)
 by_cases c0 : re = 3
 · subst c0
   by_cases c1 : s.size = 0
   · obtain rfl := size0 c1
     have e1 : v = false := by rw [← hv, c1]; rfl
     subst e1; clear hv; go_enter Tryz.func40, Tryz.ntmps40
     go_wp2_with fail
     refine (HD.out _).mono ?_; rintro r w2 ⟨rfl, X2⟩; generalize hW : w.alloc _ = w1 at *; clear hW; have hb2 := X2.blk hb id; have X3 := X1.trans X2; generalize w.heap.size = b at *; clear hb X1 X2; have R1 := cells_of hb2; have l1 := blk_lt hb2; go_wp2_with fail
     go_ret; exact ⟨rfl, X3⟩
   · have c2 : s.toList.isEmpty = false := by
      have := tl_size s
      cases hl : s.toList with
      | nil => rw [hl] at this; exact absurd this.symm c1
      | cons => rfl
     by_cases h : s.size ≤ 100
     · have HR := hid' (fun w' => regular_any s 0 (by omega) (by omega) w'); rw [List.drop_zero] at HR
       have d1 : decide ((s.size : Int) ≤ 100) = true := by simp; omega
       have e1 : (((regL s.toList : Nat) : Int) == (s.size : Int)) = v := by
        rw [← hv]; simp [h, c1]; rw [Bool.eq_iff_iff]; simp; omega
       clear h hv c1; go_enter Tryz.func40, Tryz.ntmps40
       go_wp2_with fail
       refine (HD.out _).mono ?_; rintro r w2 ⟨rfl, X2⟩; generalize hW : w.alloc _ = w1 at *; clear hW; have hb2 := X2.blk hb id; have X3 := X1.trans X2; generalize w.heap.size = b at *; clear hb X1 X2; have R1 := cells_of hb2; have l1 := blk_lt hb2
       go_upto_region 16 with (fail)
       have RC := Chg.cells (S := NoB) hb2 id; have hS1 : Chg NoB w2 w2 := Chg.refl _ _
       go_region_held3 (fun W' => Chg NoB w2 W') (first | (with_reducible assumption) | (with_reducible exact Chg.drew (by with_reducible assumption)))
        (first | (go_at_call 73; refine (HR.out _).mono ?_; rintro r w4 ⟨rfl, rfl⟩))
       go_wp2_with fail
       go_ret; exact ⟨rfl, X3.trans (by first | with_reducible assumption | (with_reducible exact Chg.drew (by with_reducible assumption)))⟩
     · have d1 : decide ((s.size : Int) ≤ 100) = false := by simp; omega
       have e1 : v = false := by rw [← hv]; simp; omega
       subst e1; clear h hv c1; go_enter Tryz.func40, Tryz.ntmps40
       go_wp2_with fail
       refine (HD.out _).mono ?_; rintro r w2 ⟨rfl, X2⟩; generalize hW : w.alloc _ = w1 at *; clear hW; have hb2 := X2.blk hb id; have X3 := X1.trans X2; generalize w.heap.size = b at *; clear hb X1 X2; have R1 := cells_of hb2; have l1 := blk_lt hb2
       go_upto_region 16 with (fail)
       go_quiet (fail)
       go_wp2_with fail
       go_ret; exact ⟨rfl, X3.drewN _⟩
 · have e0 : (re == 3) = false := by simpa using c0
   have e1 : v = false := by rw [← hv]; simp [c0]
   subst e1; clear hv c0; go_enter Tryz.func40, Tryz.ntmps40
   go_wp2_with fail
   refine (HD.out _).mono ?_; rintro r w2 ⟨rfl, X2⟩; generalize hW : w.alloc _ = w1 at *; clear hW; have hb2 := X2.blk hb id; have X3 := X1.trans X2; generalize w.heap.size = b at *; clear hb X1 X2; have R1 := cells_of hb2; have l1 := blk_lt hb2; go_wp2_with fail
   all_goals first | (go_ret; exact ⟨rfl, X3⟩) | (exfalso; simp_all; done)
theorem mayTok_any (t : Tok) (hs : t.s.size ≤ 9223372036854775807) (h0 : -9223372036854775808 ≤ t.kind) (h9 : t.kind ≤ 9223372036854775807) (w : World) :
 Calls Tryz.prog 40 #[t.val] w fun r w' => r = .returned (.bool (mayT t)) ∧ Chg NoB w w' := by
 obtain ⟨k, n, s, p⟩ := t; simp only at hs h0 h9
 obtain ⟨v, hv⟩ : ∃ v, mayT ⟨k, n, s, p⟩ = v := ⟨_, rfl⟩
 rw [hv]; unfold mayT at hv; simp only at hv
 by_cases h1 : k = 1
 · subst h1; rw [if_pos rfl] at hv; exact mayK_1 n p s v hv w
 rw [if_neg h1] at hv
 by_cases h2 : k = 2
 · subst h2; rw [if_pos rfl] at hv; exact mayK_2 n p s v hv w
 rw [if_neg h2] at hv
 by_cases hn : n ≠ 0
 · rw [if_pos hn] at hv; subst hv; exact mayK_n k n p s h1 h2 hn w
 rw [if_neg hn] at hv
 have hn0 : n = 0 := by omega
 subst hn0
 by_cases h3 : k = 3
 · subst h3; rw [if_pos rfl] at hv; exact mayK_3 p s hs v hv w
 rw [if_neg h3] at hv
 by_cases h4 : k = 4
 · subst h4; rw [if_pos (.inl rfl)] at hv; exact mayK_4 p s hs v hv w
 by_cases h5 : k = 5
 · subst h5; rw [if_pos (.inr rfl)] at hv; exact mayK_5 p s hs v hv w
 rw [if_neg (fun h => h.elim h4 h5)] at hv
 by_cases h6 : k = 6
 · subst h6; rw [if_pos rfl] at hv; rw [← hv]; exact mayK_6 p s hs w
 rw [if_neg h6] at hv; exact mayK_s k p s h0 h9 (fun j a b => by omega) v hv w
end Go.Proofs.YtoogmimbmgdflaaGreat
