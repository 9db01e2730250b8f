/- Cva, Cvd -/
import Derived.Test.YthelgahojgdehaaZStack
import Derived.Test.YthelgahojgdehaaZTrd
import Derived.Deep.DeepCutAuto
/- Walks: fix.Trunc, obj.Num of a whole number; conv's number, whole, fixed. -/
namespace Go.Proofs.Ythelgahojgdehaa
open Go.RowKit

theorem near_any (v : Int) (h0 : -1073741823 ≤ v) (h1 : v ≤ 1073741823) (w : World) :
    Calls Try.prog 83 #[.int .i64 v] w fun e w' => e = .returned (.int .i64 v) ∧ w = w' := by
  have e1 : min v 1073741823 = v := by omega
  have e2 : max v (-1073741823) = v := by omega
  go_enter Try.func83, Try.ntmps83
  go_wp2_with fail
  go_ret
  exact ⟨by simp [e1, e2], rfl⟩
/-- A fix without what is behind the point. -/
def trI (v : Int) : Int := if v < 0 then -(-v / 65536 * 65536) else v / 65536 * 65536
theorem trI_div (v : Int) : (trI v).tdiv 65536 = v.tdiv 65536 := by
  unfold trI
  split
  · obtain ⟨u, rfl⟩ : ∃ u, v = -u := ⟨-v, by omega⟩
    rw [Int.neg_neg, Int.neg_tdiv, Int.neg_tdiv, Int.tdiv_eq_ediv_of_nonneg (by omega), Int.tdiv_eq_ediv_of_nonneg (by omega)]
    omega
  · rw [Int.tdiv_eq_ediv_of_nonneg (by omega), Int.tdiv_eq_ediv_of_nonneg (by omega)]
    omega
theorem trunc_any (v : Int) (h0 : -1073741823 ≤ v) (h1 : v ≤ 1073741823) (w : World) :
    Calls Try.prog 62 #[.int .i64 v] w fun e w' => e = .returned (.int .i64 (trI v)) ∧ w = w' := by
  have HN := hid' (near_any v h0 h1)
  by_cases c : v < 0
  · have HE := hid' (show trI v = -(-v / 65536 * 65536) from if_pos c)
    have c1 : 0 ≤ -v := by omega
    have c2 : -v ≤ 1073741823 := by omega
    have HF : Calls Try.prog 72 #[.int .i64 v] w fun e w' => e = .returned (.int .i64 (-(-v / 65536 * 65536))) ∧ w = w' := by
      go_enter Try.func72, Try.ntmps72
      go_wp2_with fail
      refine (HN.out _).mono ?_
      rintro e w1 ⟨rfl, rfl⟩
      go_wp2_with fail
      go_ret
      exact ⟨by simp, rfl⟩
    have HF := hid' HF
    go_enter Try.func62, Try.ntmps62
    go_wp2_with fail
    refine HF.out.mono ?_
    rintro e w1 ⟨rfl, rfl⟩
    go_wp2_with fail
    go_ret
    exact ⟨by rw [HE.out]; rfl, rfl⟩
  · have c0 : 0 ≤ v := by omega
    have HE := hid' (show trI v = v / 65536 * 65536 from if_neg c)
    have HF : Calls Try.prog 73 #[.int .i64 v] w fun e w' => e = .returned (.int .i64 (v / 65536 * 65536)) ∧ w = w' := by
      go_enter Try.func73, Try.ntmps73
      go_wp2_with fail
      refine (HN.out _).mono ?_
      rintro e w1 ⟨rfl, rfl⟩
      go_wp2_with fail
      go_ret
      exact ⟨rfl, rfl⟩
    have HF := hid' HF
    go_enter Try.func62, Try.ntmps62
    go_wp2_with fail
    refine HF.out.mono ?_
    rintro e w1 ⟨rfl, rfl⟩
    go_wp2_with fail
    go_ret
    exact ⟨by rw [HE.out]; rfl, rfl⟩
theorem num_int (o : O) (hk : o.kind = 3) (h0 : -16383 ≤ o.n) (h1 : o.n ≤ 16383) (w : World) :
    Calls Try.prog 63 #[o.val] w fun e w' => e = .returned (.tuple #[.int .i64 (o.n * 65536), .bool true]) ∧ Chg NoB w w' := by
  obtain ⟨kk, kx, n, kp, kl, ks⟩ := o
  simp only at hk h0 h1
  subst hk
  have HF : ∀ w, Calls Try.prog 74 #[.int .i64 n] w fun e w' => e = .returned (.tuple #[.int .i64 (n * 65536), .bool true]) ∧ w = w' := by
    intro w
    go_enter Try.func74, Try.ntmps74
    go_wp2_with fail
    go_ret2
    exact ⟨rfl, rfl⟩
  have HF := hid' HF
  go_enter Try.func63, Try.ntmps63
  go_wp2_with fail
  refine (HF.out _).mono ?_
  rintro e w1 ⟨rfl, rfl⟩
  go_wp2_with fail
  go_ret2
  exact ⟨rfl, (Chg.refl NoB w).alloc _⟩
theorem at_numP (o : O) (hp : Nat) (hk : o.kind ≠ 8) (w : World) :
    Calls Try.prog 61 #[ptr hp, o.val] w fun e w' => e = .returned (.tuple #[o.val, .int .i64 0]) ∧ Chg NoB w w' := by
  obtain ⟨kk, kx, kn, kp, kl, ks⟩ := o
  simp only at hk
  have hk' : (kk != 8) = true := by simpa using hk
  go_enter Try.func61, Try.ntmps61
  go_wp2_with fail
  refine bodyPost_ret (v := .tuple #[O.val ⟨kk, kx, kn, kp, kl, ks⟩, .int .i64 0]) ?_ rfl ⟨rfl, ((Chg.refl NoB w).alloc _).alloc _⟩
  simp [results, Try.results61, go_sem]
/-- What a text reads as. -/
def readO (r : Int × Int × Int) : O := if r.1 = 1 then iO r.2.1 else fO r.2.1
set_option maxRecDepth 100000 in
set_option maxHeartbeats 1000000 in
theorem at_numT {w0 w : World} {hp : Nat} {L : List C} {M : List (Nat × List C)} {K : List (Nat × Obj)} (A : Ats w0 w M K) (hm : (hp, L) ∈ M) (o : O) (hk : o.kind = 8) (b : ByteArray) (hb : bytesH L o = (b, 0)) (hs : b.size ≤ 1000000) (r : Int × Int × Int) (hr : readF b.toList = r) :
    Calls Try.prog 61 #[ptr hp, o.val] w fun e w' => e = .returned (.tuple #[(readO r).val, .int .i64 r.2.2]) ∧ Ats w0 w' M K := by
  have HB := hid' (fun (w' : World) (K' : List (Nat × Obj)) (A' : Ats w0 w' M K') => at_bytes A' o hb hm)
  have HR := hid' (fun w' => read_any b hs w')
  obtain ⟨q, v, e⟩ := r
  rw [hr] at HR
  simp only at HR ⊢
  have hro : readO (q, v, e) = if q = 1 then iO v else fO v := rfl
  rw [hro]
  clear hs hb hr hro
  obtain ⟨kk, kx, kn, kp, kl, ks⟩ := o
  simp only at hk
  subst hk
  have A1 := (A.alloc (.cells #[.int .i64 8, .bool kx, .int .i64 kn, .int .i64 kp, .int .i64 kl, .string ks] 29)).alloc (Obj.cells #[.int .i64 0, .bool false, .int .i64 0, .int .i64 0, .int .i64 0, .string ⟨#[]⟩] 29)
  simp only [World.size_alloc] at A1
  clear A
  by_cases hq : q = 1
  · subst hq
    rw [if_pos rfl]
    go_enter Try.func61, Try.ntmps61
    go_wp2_with fail
    refine (HB.out _ _ A1).mono ?_
    rintro r w2 ⟨rfl, A2⟩
    (try clear Ra); (try clear ya); (try clear Za)
    have Ra := cells_of (A2.box _ m0)
    have ya := blk_lt (A2.box _ m0)
    have Za := free_of (A2.box _ m0)
    (try clear Rb); (try clear yb); (try clear Zb)
    have Rb := cells_of (A2.box _ m1)
    have yb := blk_lt (A2.box _ m1)
    (try simp only at Ra ya Za Rb yb)
    go_wp2_with fail
    refine (HR.out _).mono ?_
    rintro r w3 ⟨rfl, X3⟩
    have A3 := A2.pure X3
    clear A1 A2 X3 HB
    (try clear Ra); (try clear ya); (try clear Za)
    have Ra := cells_of (A3.box _ m0)
    have ya := blk_lt (A3.box _ m0)
    have Za := free_of (A3.box _ m0)
    (try simp only at Ra ya Za)
    have A4 := A3.putO 3 false v 0 0 ⟨#[]⟩
    go_wp2_with fail
    have R4 := cells_of (A4.box _ m0)
    refine bodyPost_ret (v := .tuple #[O.val (⟨3, false, v, 0, 0, ⟨#[]⟩⟩ : O), .int .i64 e]) ?_ rfl ⟨rfl, A4.keep ((List.sublist_cons_self _ _).trans (List.sublist_cons_self _ _))⟩
    simp [results, Try.results61, go_sem, R4]
  · rw [if_neg hq]
    have hq' : (q == 1) = false := by simpa using hq
    clear hq
    go_enter Try.func61, Try.ntmps61
    go_wp2_with fail
    refine (HB.out _ _ A1).mono ?_
    rintro r w2 ⟨rfl, A2⟩
    (try clear Ra); (try clear ya); (try clear Za)
    have Ra := cells_of (A2.box _ m0)
    have ya := blk_lt (A2.box _ m0)
    have Za := free_of (A2.box _ m0)
    (try clear Rb); (try clear yb); (try clear Zb)
    have Rb := cells_of (A2.box _ m1)
    have yb := blk_lt (A2.box _ m1)
    (try simp only at Ra ya Za Rb yb)
    go_wp2_with fail
    refine (HR.out _).mono ?_
    rintro r w3 ⟨rfl, X3⟩
    have A3 := A2.pure X3
    clear A1 A2 X3 HB
    (try clear Ra); (try clear ya); (try clear Za)
    have Ra := cells_of (A3.box _ m0)
    have ya := blk_lt (A3.box _ m0)
    have Za := free_of (A3.box _ m0)
    (try simp only at Ra ya Za)
    have A4 := A3.putO 4 false v 0 0 ⟨#[]⟩
    go_wp2_with fail
    have R4 := cells_of (A4.box _ m0)
    refine bodyPost_ret (v := .tuple #[O.val (⟨4, false, v, 0, 0, ⟨#[]⟩⟩ : O), .int .i64 e]) ?_ rfl ⟨rfl, A4.keep ((List.sublist_cons_self _ _).trans (List.sublist_cons_self _ _))⟩
    simp [results, Try.results61, go_sem, R4]
/-- What conv.whole makes of a number. -/
def wholeO (x : O) : O := if x.kind = 4 then iO (x.n.tdiv 65536) else x
theorem tdiv_rng (v : Int) (h0 : -1073741823 ≤ v) (h1 : v ≤ 1073741823) : -1073741823 ≤ v.tdiv 65536 ∧ v.tdiv 65536 ≤ 1073741823 := by
  by_cases c : 0 ≤ v
  · rw [Int.tdiv_eq_ediv_of_nonneg c]; omega
  · obtain ⟨u, rfl⟩ : ∃ u, v = -u := ⟨-v, by omega⟩
    rw [Int.neg_tdiv, Int.tdiv_eq_ediv_of_nonneg (by omega)]; omega
set_option maxRecDepth 100000 in
set_option maxHeartbeats 1000000 in
theorem at_whole {w0 w : World} {hp : Nat} {M : List (Nat × List C)} {K : List (Nat × Obj)} (A : Ats w0 w M K) (o x : O) (HN : ∀ w' K', Ats w0 w' M K' → Calls Try.prog 61 #[ptr hp, o.val] w' fun e w2 => e = .returned (.tuple #[x.val, .int .i64 0]) ∧ Ats w0 w2 M K')
    (h4 : x.kind = 4 → -1073741823 ≤ x.n ∧ x.n ≤ 1073741823) :
    Calls Try.prog 43 #[ptr hp, o.val] w fun e w' => e = .returned (.tuple #[(wholeO x).val, .int .i64 0]) ∧ Ats w0 w' M K := by
  have HN := hid' HN
  have hw : wholeO x = if x.kind = 4 then iO (x.n.tdiv 65536) else x := rfl
  rw [hw]
  clear hw
  obtain ⟨kk, kx, kn, kp, kl, ks⟩ := o
  obtain ⟨xk, xx, xn, xp, xl, xs⟩ := x
  simp only at h4
  have A1 := (A.alloc (Obj.cells #[.int .i64 kk, .bool kx, .int .i64 kn, .int .i64 kp, .int .i64 kl, .string ks] 29)).alloc (Obj.cells #[.int .i64 0, .bool false, .int .i64 0, .int .i64 0, .int .i64 0, .string ⟨#[]⟩] 29)
  simp only [World.size_alloc] at A1
  clear A
  by_cases hk : xk = 4
  · subst hk
    rw [if_pos rfl]
    obtain ⟨b0, b1⟩ := h4 rfl
    have HT := hid' (trunc_any xn b0 b1)
    have hr := tdiv_rng xn b0 b1
    have hq : IntKind.i64.wrap ((trI xn).tdiv 65536) = xn.tdiv 65536 := by rw [trI_div]; exact IntWalk.i64_in _ (by omega)
    clear h4 b0 b1 hr
    go_enter Try.func43, Try.ntmps43
    go_wp2_with fail
    refine (HN.out _ _ A1).mono ?_
    rintro r w2 ⟨rfl, A2⟩
    have A3 := (A2.perm (List.Perm.swap _ _ _)).putO 4 xx xn xp xl xs
    (try clear Ra); (try clear ya); (try clear Za)
    have Ra := cells_of (A2.box _ m0)
    have ya := blk_lt (A2.box _ m0)
    have Za := free_of (A2.box _ m0)
    (try clear Rb); (try clear yb); (try clear Zb)
    have Rb := cells_of (A2.box _ m1)
    have yb := blk_lt (A2.box _ m1)
    have Zb := free_of (A2.box _ m1)
    (try simp only at Ra ya Za Rb yb Zb)
    go_upto_region 2 with (fail)
    generalize (((((w2.setCell _ _).setCell _ _).setCell _ _).setCell _ _).setCell _ _).setCell _ _ = w3 at *
    (try clear Rb); (try clear yb); (try clear Zb)
    have Rb := cells_of (A3.box _ m0)
    have yb := blk_lt (A3.box _ m0)
    have Zb := free_of (A3.box _ m0)
    (try clear Ra); (try clear ya); (try clear Za)
    have Ra := cells_of (A3.box _ m1)
    have ya := blk_lt (A3.box _ m1)
    (try simp only at Rb yb Zb Ra ya)
    have A4 := A3.putO 3 false (xn.tdiv 65536) 0 0 ⟨#[]⟩
    clear A2 A3
    go_upto_region 4 with ((refine (HT.out _).mono ?_; rintro r w4 ⟨rfl, rfl⟩))
    generalize (((((w3.setCell _ _).setCell _ _).setCell _ _).setCell _ _).setCell _ _).setCell _ _ = w4 at *
    (try clear Rb); (try clear yb); (try clear Zb)
    have Rb := cells_of (A4.box _ m0)
    have yb := blk_lt (A4.box _ m0)
    have Zb := free_of (A4.box _ m0)
    (try clear Ra); (try clear ya); (try clear Za)
    have Ra := cells_of (A4.box _ m1)
    have ya := blk_lt (A4.box _ m1)
    have Za := free_of (A4.box _ m1)
    (try simp only at Rb yb Zb Ra ya Za)
    have A5 := (A4.perm (List.Perm.swap _ _ _)).putO 3 false (xn.tdiv 65536) 0 0 ⟨#[]⟩
    clear A4
    go_wp2_with fail
    have R5 := cells_of (A5.box _ m0)
    refine bodyPost_ret (v := .tuple #[O.val (iO (xn.tdiv 65536)), .int .i64 0]) ?_ rfl ⟨rfl, A5.keep ((List.sublist_cons_self _ _).trans (List.sublist_cons_self _ _))⟩
    simp [results, Try.results43, go_sem, R5]
  · rw [if_neg hk]
    have hk' : (xk == 4) = false := by simpa using hk
    clear h4 hk
    go_enter Try.func43, Try.ntmps43
    go_wp2_with fail
    refine (HN.out _ _ A1).mono ?_
    rintro r w2 ⟨rfl, A2⟩
    have A3 := (A2.perm (List.Perm.swap _ _ _)).putO xk xx xn xp xl xs
    (try clear Ra); (try clear ya); (try clear Za)
    have Ra := cells_of (A2.box _ m0)
    have ya := blk_lt (A2.box _ m0)
    have Za := free_of (A2.box _ m0)
    (try clear Rb); (try clear yb); (try clear Zb)
    have Rb := cells_of (A2.box _ m1)
    have yb := blk_lt (A2.box _ m1)
    have Zb := free_of (A2.box _ m1)
    (try simp only at Ra ya Za Rb yb Zb)
    go_upto_region 2 with (fail)
    generalize (((((w2.setCell _ _).setCell _ _).setCell _ _).setCell _ _).setCell _ _).setCell _ _ = w3 at *
    (try clear Rb); (try clear yb); (try clear Zb)
    have Rb := cells_of (A3.box _ m0)
    have yb := blk_lt (A3.box _ m0)
    (try clear Ra); (try clear ya); (try clear Za)
    have Ra := cells_of (A3.box _ m1)
    have ya := blk_lt (A3.box _ m1)
    have Za := free_of (A3.box _ m1)
    (try simp only at Rb yb Ra ya Za)
    have A5 := (A3.perm (List.Perm.swap _ _ _)).putO xk xx xn xp xl xs
    clear A2 A3
    go_wp2_with fail
    have R5 := cells_of (A5.box _ m0)
    refine bodyPost_ret (v := .tuple #[O.val ⟨xk, xx, xn, xp, xl, xs⟩, .int .i64 0]) ?_ rfl ⟨rfl, A5.keep ((List.sublist_cons_self _ _).trans (List.sublist_cons_self _ _))⟩
    simp [results, Try.results43, go_sem, R5]
/-- What conv.fixed makes of a number. -/
def fixedO (x : O) : O := if x.kind = 4 then x else fO (x.n * 65536)
set_option maxRecDepth 100000 in
set_option maxHeartbeats 1000000 in
theorem at_fixed {w0 w : World} {hp : Nat} {M : List (Nat × List C)} {K : List (Nat × Obj)} (A : Ats w0 w M K) (o x : O) (HN : ∀ w' K', Ats w0 w' M K' → Calls Try.prog 61 #[ptr hp, o.val] w' fun e w2 => e = .returned (.tuple #[x.val, .int .i64 0]) ∧ Ats w0 w2 M K')
    (h4 : x.kind ≠ 4 → x.kind = 3 ∧ -16383 ≤ x.n ∧ x.n ≤ 16383) :
    Calls Try.prog 45 #[ptr hp, o.val] w fun e w' => e = .returned (.tuple #[(fixedO x).val, .int .i64 0]) ∧ Ats w0 w' M K := by
  have HN := hid' HN
  have hw : fixedO x = if x.kind = 4 then x else fO (x.n * 65536) := rfl
  rw [hw]
  clear hw
  have HQ := hid' (fun (h : x.kind ≠ 4) w => num_int x (h4 h).1 (h4 h).2.1 (h4 h).2.2 w)
  have HR := hid' h4
  clear h4
  obtain ⟨kk, kx, kn, kp, kl, ks⟩ := o
  obtain ⟨xk, xx, xn, xp, xl, xs⟩ := x
  have A1 := (A.alloc (Obj.cells #[.int .i64 kk, .bool kx, .int .i64 kn, .int .i64 kp, .int .i64 kl, .string ks] 29)).alloc (Obj.cells #[.int .i64 0, .bool false, .int .i64 0, .int .i64 0, .int .i64 0, .string ⟨#[]⟩] 29)
  simp only [World.size_alloc] at A1
  clear A
  by_cases hk : xk = 4
  · subst hk
    rw [if_pos rfl]
    clear HR HQ
    go_enter Try.func45, Try.ntmps45
    go_wp2_with fail
    refine (HN.out _ _ A1).mono ?_
    rintro r w2 ⟨rfl, A2⟩
    have A3 := (A2.perm (List.Perm.swap _ _ _)).putO 4 xx xn xp xl xs
    (try clear Ra); (try clear ya); (try clear Za)
    have Ra := cells_of (A2.box _ m0)
    have ya := blk_lt (A2.box _ m0)
    have Za := free_of (A2.box _ m0)
    (try clear Rb); (try clear yb); (try clear Zb)
    have Rb := cells_of (A2.box _ m1)
    have yb := blk_lt (A2.box _ m1)
    have Zb := free_of (A2.box _ m1)
    (try simp only at Ra ya Za Rb yb Zb)
    go_upto_region 2 with (fail)
    generalize (((((w2.setCell _ _).setCell _ _).setCell _ _).setCell _ _).setCell _ _).setCell _ _ = w3 at *
    (try clear Rb); (try clear yb); (try clear Zb)
    have Rb := cells_of (A3.box _ m0)
    have yb := blk_lt (A3.box _ m0)
    (try clear Ra); (try clear ya); (try clear Za)
    have Ra := cells_of (A3.box _ m1)
    have ya := blk_lt (A3.box _ m1)
    have Za := free_of (A3.box _ m1)
    (try simp only at Rb yb Ra ya Za)
    have A5 := (A3.perm (List.Perm.swap _ _ _)).putO 4 xx xn xp xl xs
    clear A2 A3
    go_wp2_with fail
    have R5 := cells_of (A5.box _ m0)
    refine bodyPost_ret (v := .tuple #[O.val ⟨4, xx, xn, xp, xl, xs⟩, .int .i64 0]) ?_ rfl ⟨rfl, A5.keep ((List.sublist_cons_self _ _).trans (List.sublist_cons_self _ _))⟩
    simp [results, Try.results45, go_sem, R5]
  · rw [if_neg hk]
    have HQ := hid' (HQ.out hk)
    obtain ⟨hk3, -, -⟩ := HR.out hk
    simp only at hk3
    subst hk3
    clear HR hk
    go_enter Try.func45, Try.ntmps45
    go_wp2_with fail
    refine (HN.out _ _ A1).mono ?_
    rintro r w2 ⟨rfl, A2⟩
    have A3 := (A2.perm (List.Perm.swap _ _ _)).putO 3 xx xn xp xl xs
    (try clear Ra); (try clear ya); (try clear Za)
    have Ra := cells_of (A2.box _ m0)
    have ya := blk_lt (A2.box _ m0)
    have Za := free_of (A2.box _ m0)
    (try clear Rb); (try clear yb); (try clear Zb)
    have Rb := cells_of (A2.box _ m1)
    have yb := blk_lt (A2.box _ m1)
    have Zb := free_of (A2.box _ m1)
    (try simp only at Ra ya Za Rb yb Zb)
    go_upto_region 2 with (fail)
    generalize (((((w2.setCell _ _).setCell _ _).setCell _ _).setCell _ _).setCell _ _).setCell _ _ = w3 at *
    (try clear Rb); (try clear yb); (try clear Zb)
    have Rb := cells_of (A3.box _ m0)
    have yb := blk_lt (A3.box _ m0)
    (try clear Ra); (try clear ya); (try clear Za)
    have Ra := cells_of (A3.box _ m1)
    have ya := blk_lt (A3.box _ m1)
    have Za := free_of (A3.box _ m1)
    (try simp only at Rb yb Ra ya Za)
    clear A2
    go_wp2_with fail
    refine (HQ.out _).mono ?_
    rintro r w4 ⟨rfl, X4⟩
    have A4 := A3.pure X4
    clear A3 X4
    (try clear Rb); (try clear yb); (try clear Zb)
    have Rb := cells_of (A4.box _ m0)
    have yb := blk_lt (A4.box _ m0)
    (try clear Ra); (try clear ya); (try clear Za)
    have Ra := cells_of (A4.box _ m1)
    have ya := blk_lt (A4.box _ m1)
    have Za := free_of (A4.box _ m1)
    (try simp only at Rb yb Ra ya Za)
    have A5 := (A4.perm (List.Perm.swap _ _ _)).putO 4 false (xn * 65536) 0 0 ⟨#[]⟩
    clear A4
    go_wp2_with fail
    have R5 := cells_of (A5.box _ m0)
    refine bodyPost_ret (v := .tuple #[O.val (fO (xn * 65536)), .int .i64 0]) ?_ rfl ⟨rfl, A5.keep ((List.sublist_cons_self _ _).trans (List.sublist_cons_self _ _))⟩
    simp [results, Try.results45, go_sem, R5]
end Go.Proofs.Ythelgahojgdehaa
/- Walk: conv.do, over whatever function it is given. -/
namespace Go.Proofs.Ythelgahojgdehaa
open Go.RowKit

/-- What conv.do leaves: the answer, and the operands. -/
def didL (l ops : List O) (x : O) (e : Int) : List O := if e = 0 then l ++ [x] else l ++ ops
set_option maxRecDepth 100000 in
set_option maxHeartbeats 2000000 in
theorem conv_do {w0 w : World} {M M' : List (Nat × List C)} {K : List (Nat × Obj)} {sp hp : Nat} {l ops : List O} {L : List C} (S : StkAt w0 w M K sp (l ++ ops)) (hm : (hp, L) ∈ M) (ks : List Int) (kb : Nat) (hk : (kb, .cells (ks.map (Value.int .i64)).toArray 3) ∈ K) (hn : ks.length = ops.length)
    (hT : ∀ (i : Nat) (k : Int) (o : O), ks[i]? = some k → ops[i]? = some o → isK k o.kind = true) (hH : HeldAll L ops) (n : Nat) (hn' : ops.length = n) (hn0 : 0 < n)
    (fn : Nat) (caps : Array Value) (hcf : ∀ (args : Array Value) (w : World), (callFunc fn args).run Try.prog w = .ok (.enter fn args) w) (x : O) (e : Int) (hx : e = 0 → mayO x = true)
    (HY : ∀ w' g cur, cur.toList = ops.flatMap O.cells → StkAt w0 w' M ((g, .cells cur 29) :: K) sp (l ++ ops) → Calls Try.prog fn (#[.slice (some ⟨g, 0, none⟩) n n] ++ caps) w' fun r w2 => r = .returned (.tuple #[x.val, .int .i64 e]) ∧ StkAt w0 w2 M' K sp (l ++ ops)) :
    Calls Try.prog 36 #[ptr hp, ptr sp, .func (.func fn) #[] caps, .slice (some ⟨kb, 0, none⟩) n n] w fun r w' => r = .returned (.int .i64 e) ∧ StkAt w0 w' M' K sp (didL l ops x e) := by
  have HF := hid' (hand_from S hm ks kb hk hn hT hH n hn')
  have hlen := S.len
  have hl2 : l.length + n ≤ 200 := by rw [← hn']; simpa using hlen
  have HY := hid' HY
  have HL := hid' hl2
  have HN := hid' hn'
  have HX := hid' hx
  have HD : Hid (didL l ops x e = if e = 0 then l ++ [x] else l ++ ops) := hid' rfl
  rw [HD.out]
  clear S hk hn hT hH hlen hl2 hn' HD hx
  obtain ⟨xk, xx, xn, xp, xl, xs⟩ := x
  by_cases he : e = 0
  · subst he
    rw [if_pos rfl]
    go_enter Try.func36, Try.ntmps36
    go_wp2_with fail
    refine HF.out.mono ?_
    rintro r w2 ⟨g, cur, rfl, hc, S2⟩
    have HC := hid' hc
    clear hc
    go_wp2_with fail
    refine (HY.out _ _ _ HC.out S2).mono ?_
    rintro r w3 ⟨rfl, S3⟩
    have S4 := (S3.alloc (Obj.cells #[.int .i64 xk, .bool xx, .int .i64 xn, .int .i64 xp, .int .i64 xl, .string xs] 29)).alloc (Obj.cells #[.int .i64 xk, .bool xx, .int .i64 xn, .int .i64 xp, .int .i64 xl, .string xs] 29)
    simp only [World.size_alloc] at S4
    have S5 := S3.alloc (Obj.cells #[.int .i64 xk, .bool xx, .int .i64 xn, .int .i64 xp, .int .i64 xl, .string xs] 29)
    (try clear Ra); (try clear ya); (try clear Za)
    have Ra := cells_of (S5.box _ m0)
    have ya := blk_lt (S5.box _ m0)
    (try simp only at Ra ya)
    have HG := hid' (hand_give S4 n HN.out 1 (gv := [⟨xk, xx, xn, xp, xl, xs⟩]) rfl (by have := HL.out; omega) (fun o ho => by rw [List.mem_singleton.1 ho]; exact HX.out trivial) (some ⟨w3.heap.size + 1, 0, none⟩) 1 (Nat.le_refl _) (fun m o ho => by
      obtain ⟨rfl, rfl⟩ : m = 0 ∧ o = ⟨xk, xx, xn, xp, xl, xs⟩ := by cases m <;> simp_all
      exact ⟨_, 0, _, _, rfl, m0, fun j hj => by
        have : j = 0 ∨ j = 1 ∨ j = 2 ∨ j = 3 ∨ j = 4 ∨ j = 5 := by omega
        rcases this with rfl | rfl | rfl | rfl | rfl | rfl <;> rfl⟩))
    clear S2 S3 S4 S5
    go_wp2_with fail
    refine HG.out.mono ?_
    rintro r w4 ⟨rfl, S6⟩
    go_wp2_with fail
    go_ret
    exact ⟨rfl, S6.keep ((List.sublist_cons_self _ _).trans (List.sublist_cons_self _ _))⟩
  · rw [if_neg he]
    have he' : (e != 0) = true := by simpa using he
    clear he
    go_enter Try.func36, Try.ntmps36
    go_wp2_with fail
    refine HF.out.mono ?_
    rintro r w2 ⟨g, cur, rfl, hc, S2⟩
    have HC := hid' hc
    clear hc
    go_wp2_with fail
    refine (HY.out _ _ _ HC.out S2).mono ?_
    rintro r w3 ⟨rfl, S3⟩
    go_wp2_with fail
    go_ret
    exact ⟨rfl, S3.pure ((Chg.refl NoB w3).alloc _)⟩
end Go.Proofs.Ythelgahojgdehaa
