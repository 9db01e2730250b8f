/- Txg, Cvw, Cvf -/
import Derived.Test.YthelgahojgdehaaZHeapd
import Derived.Test.YthelgahojgdehaaZHeapc
import Derived.Test.YthelgahojgdehaaZConva
import Derived.StillTailTactics
/- Plain: texts anywhere in a heap: parts, bytes, Set, Put. -/
namespace Go.Proofs.Ythelgahojgdehaa
open Go.RowKit

abbrev strN (N : Int) (x : Bool) (p z : Int) : O := ⟨8, x, N, p, z, ⟨#[]⟩⟩
theorem mayO_str (N p z : Int) (x : Bool) (h0 : 0 ≤ N) (h1 : N ≤ 40000) (hp : 0 ≤ p) (hp' : p ≤ 40000) (hz : 0 ≤ z) (hz' : z ≤ 40000) : mayO (strN N x p z) = true := by
  simp [mayO, eqO, bareO, O.nil]; omega
theorem may_s {L : List C} {N : Nat} {bs : List UInt8} (hc : L[N]? = some (txt bs)) (hN : N ≤ 40000) (hs : bs.length ≤ 40000) (x : Bool) (p z : Int) (hp : 0 ≤ p) (hz : 0 ≤ z) (h : p + z ≤ bs.length) : mayH L (strN N x p z) = true := by
  have hl := (List.getElem?_eq_some_iff.1 hc).1
  unfold mayH
  rw [mayO_str N p z x (by omega) (by omega) hp (by omega) hz (by omega)]
  simp [held, hc, C.kind, C.size]
  omega
theorem find_s {L : List C} {N : Nat} {bs : List UInt8} (hc : L[N]? = some (txt bs)) (hN : N ≤ 40000) (hs : bs.length ≤ 40000) (x : Bool) (p z : Int) (hp : 0 ≤ p) (hz : 0 ≤ z) (h : p + z ≤ bs.length) : findE L (strN N x p z) = 0 := by
  simp [findE, may_s hc hN hs x p z hp hz h, held]
theorem part_s {L : List C} {N : Nat} {bs : List UInt8} (hc : L[N]? = some (txt bs)) (hN : N ≤ 40000) (hs : bs.length ≤ 40000) (x : Bool) (p z i n : Int) (hp : 0 ≤ p) (hz : 0 ≤ z) (h : p + z ≤ bs.length) (hi : 0 ≤ i) (hn : 0 ≤ n) (h2 : i + n ≤ z) :
    partH L (strN N x p z) i n = (strN N x (p + i) n, 0) := by
  unfold partH
  rw [find_s hc hN hs x p z hp hz h]
  simp only [ne_eq, not_true_eq_false, if_false]
  rw [if_neg (by decide), if_neg (by omega)]
theorem part_sE {L : List C} {N : Nat} {bs : List UInt8} (hc : L[N]? = some (txt bs)) (hN : N ≤ 40000) (hs : bs.length ≤ 40000) (x : Bool) (p z i n : Int) (hp : 0 ≤ p) (hz : 0 ≤ z) (h : p + z ≤ bs.length) (h2 : ¬ (0 ≤ i ∧ 0 ≤ n ∧ i ≤ z ∧ n ≤ z - i)) :
    partH L (strN N x p z) i n = (O.nil, 12) := by
  unfold partH
  rw [find_s hc hN hs x p z hp hz h]
  simp only [ne_eq, not_true_eq_false, if_false]
  rw [if_neg (by decide), if_pos h2]
theorem bytes_s {L : List C} {N : Nat} {bs : List UInt8} (hc : L[N]? = some (txt bs)) (hN : N ≤ 40000) (hs : bs.length ≤ 40000) (x : Bool) (p z : Int) (hp : 0 ≤ p) (hz : 0 ≤ z) (h : p + z ≤ bs.length) :
    bytesH L (strN N x p z) = (⟨((bs.drop p.toNat).take z.toNat).toArray⟩, 0) := by
  unfold bytesH
  rw [find_s hc hN hs x p z hp hz h]
  simp [lenOf, atOf, hc]
theorem set_s {L : List C} {N : Nat} {bs : List UInt8} (hc : L[N]? = some (txt bs)) (hN : N ≤ 40000) (hs : bs.length ≤ 40000) (x : Bool) (p z i v : Int) (hp : 0 ≤ p) (hz : 0 ≤ z) (h : p + z ≤ bs.length) (hi : 0 ≤ i) (h2 : i < z) (v0 : 0 ≤ v) (v1 : v < 256) :
    setH L (strN N x p z) i (iO v) = (L.set N (txt (bs.set (p + i).toNat (UInt8.ofNat v.toNat))), 0) := by
  unfold setH
  rw [find_s hc hN hs x p z hp hz h]
  simp only [ne_eq, not_true_eq_false, if_false, Int.toNat_natCast, hc, lenOf, atOf]
  have e8 : (8 : Int) = 10 ↔ False := by decide
  simp only [e8, if_false, if_true, Bool.false_eq_true, if_neg (show ¬ (i < 0 ∨ z ≤ i) by omega), if_neg (show ¬ (v < 0 ∨ 255 < v) by omega), ne_eq, not_true_eq_false]
theorem str_s (L : List C) (s : ByteArray) (h1 : L.length < 2000) (h2 : used L + s.size ≤ 40000) : stringH L s = (L ++ [txt s.toList], strN L.length false 0 s.size, 0) := by
  unfold stringH
  rw [if_neg (by omega), add_fits _ _ h1 (by rw [txt_size, size_toList]; exact h2)]
  simp [objOf, C.kind, C.size, size_toList]
end Go.Proofs.Ythelgahojgdehaa
/- Walk: conv.write. -/
namespace Go.Proofs.Ythelgahojgdehaa
open Go.RowKit

theorem set_over (t bs : List UInt8) (i : Nat) (c : UInt8) (hc : t[i]? = some c) (h : t.length ≤ bs.length) : (t.take i ++ bs.drop i).set i c = t.take (i + 1) ++ bs.drop (i + 1) := by
  have hi := (List.getElem?_eq_some_iff.1 hc).1
  rw [List.set_append_right _ _ (by simp; omega), List.length_take, Nat.min_eq_left (by omega), Nat.sub_self, List.drop_eq_getElem_cons (by omega), List.set_cons_zero, List.take_add_one, hc]
  simp
set_option maxRecDepth 100000 in
set_option maxHeartbeats 2000000 in
theorem at_write {w0 w : World} {hp : Nat} {L : List C} {M : List (Nat × List C)} {K : List (Nat × Obj)} (A : Ats w0 w ((hp, L) :: M) K) (t : ByteArray) (N : Nat) (bs : List UInt8) (hc : L[N]? = some (txt bs)) (hN : N ≤ 2000) (hs : bs.length ≤ 40000) (x : Bool) (ht : t.size ≤ bs.length) :
    Calls Try.prog 48 #[ptr hp, .string t, (strN N x 0 bs.length).val] w fun e w' => e = .returned (.tuple #[(strN N x 0 t.size).val, .int .i64 0]) ∧ Ats w0 w' ((hp, L.set N (txt (t.toList ++ bs.drop t.size))) :: M) K := by
  have htl := size_toList t
  have hp0 := part_s hc (by omega) hs x 0 bs.length 0 t.size (by omega) (by omega) (by omega) (by omega) (by omega) (by omega)
  simp only [Int.add_zero] at hp0
  have HP := hid' (fun (w' : World) (K' : List (Nat × Obj)) (A' : Ats w0 w' ((hp, L) :: M) K') => at_part A' (strN N x 0 bs.length) 0 t.size hp0)
  have hlN := (List.getElem?_eq_some_iff.1 hc).1
  have HSET := hid' (fun (i : Nat) (c : UInt8) (hi : t.toList[i]? = some c) (w' : World) (K' : List (Nat × Obj)) (A' : Ats w0 w' ((hp, L.set N (txt (t.toList.take i ++ bs.drop i))) :: M) K') => at_set A' (strN N x 0 t.size) i (iO c.toNat)
    (L' := L.set N (txt (t.toList.take (i + 1) ++ bs.drop (i + 1)))) (e := 0) (by
      have hi' := (List.getElem?_eq_some_iff.1 hi).1
      rw [set_s (N := N) (bs := t.toList.take i ++ bs.drop i) (by rw [List.getElem?_set_self hlN]) (by omega) (by simp; omega) x 0 t.size i c.toNat (by omega) (by omega) (by simp; omega) (by omega) (by omega) (by omega) (by have := c.toNat_lt; omega)]
      rw [List.set_set, Int.zero_add, Int.toNat_natCast, Int.toNat_natCast, set_over _ _ _ _ (by rw [hi]; simp) (by omega)]))
  have h0 : L.set N (txt (t.toList.take 0 ++ bs.drop 0)) = L := by
    rw [List.take_zero, List.drop_zero, List.nil_append]
    apply List.ext_getElem?
    intro j
    rw [List.getElem?_set]
    by_cases hj : N = j
    · subst hj; rw [if_pos rfl, if_pos hlN]; exact hc.symm
    · rw [if_neg hj]
  have H0 := hid' h0
  have hsi : (t.size : Int) ≤ 40000 := by omega
  have HA := hid' A
  have HTL := hid' htl
  clear h0 htl hlN hc A hp0
  generalize (bs.length : Int) = z at *
  go_enter Try.func48, Try.ntmps48
  go_wp2_with fail
  refine (HP.out _ _ ((HA.out.alloc (.cells #[.int .i64 8, .bool x, .int .i64 N, .int .i64 0, .int .i64 z, .string ⟨#[]⟩] 29)).alloc (Obj.cells #[.int .i64 0, .bool false, .int .i64 0, .int .i64 0, .int .i64 0, .string ⟨#[]⟩] 29))).mono ?_
  rintro r w2 ⟨rfl, A2⟩
  simp only [World.size_alloc, Int.add_zero] at A2
  have A3 := A2.alloc (.cells #[.int .i64 8, .bool x, .int .i64 N, .int .i64 0, .int .i64 t.size, .string ⟨#[]⟩] 29)
  rw [← H0.out] at A3
  clear A2
  generalize hKK : (_ :: _ :: _ :: K : List (Nat × Obj)) = KK at A3
  have hb8 : (w2.heap.size, Obj.cells #[.int .i64 8, .bool x, .int .i64 N, .int .i64 0, .int .i64 t.size, .string ⟨#[]⟩] 29) ∈ KK := by rw [← hKK]; exact m0
  have hb6 : (w.heap.size + 1, Obj.cells #[.int .i64 0, .bool false, .int .i64 0, .int .i64 0, .int .i64 0, .string ⟨#[]⟩] 29) ∈ KK := by rw [← hKK]; exact m1
  have HKK := hid' hKK
  clear hKK
  have R8 := Ats.cellsOf (w0 := w0) (M := M) hb8
  go_wp2_with fail
  go_loopw [25] (fun cv wr => ∃ i : Nat, i ≤ t.size ∧ cv = .int .i64 i ∧ Ats w0 wr ((hp, L.set N (txt (t.toList.take i ++ bs.drop i))) :: M) KK) (fun cv _ => t.size - (intOf cv).toNat)
  case atStart => exact ⟨0, Nat.zero_le _, rfl, A3⟩
  case round =>
    obtain ⟨i, hi, rfl, A4⟩ := hrel
    by_cases hlt : i < t.size
    · have hti : t.toList[i]? = some t[i] := lst_get t i hlt
      have HS := hid' (fun (w' : World) (K' : List (Nat × Obj)) => HSET.out i t[i] hti w' K')
      (try clear Ra); (try clear ya); (try clear Za)
      have Ra := cells_of (A4.box _ hb8)
      have ya := blk_lt (A4.box _ hb8)
      (try simp only at Ra ya)
      have hbd : (t[i].toNat : Int) < 256 := by have := t[i].toNat_lt; omega
      clear hti A3
      go_wp2_with fail
      go_still_tail 8, (by kernel_rfl)
      have A5 := A4.pure (Chg.refl NoB wr).drew
      clear A4 Ra ya
      go_wp2_with fail
      refine (HS.out _ _ A5).mono ?_
      rintro r w5 ⟨rfl, A6⟩
      clear A5 HS
      go_wp2_with fail
      go_roundw
      case rel => exact ⟨i + 1, by omega, by go_num, A6⟩
      case measure => simp [intOf]; omega
    · obtain rfl : i = t.size := by omega
      (try clear Ra); (try clear ya); (try clear Za)
      have Ra := cells_of (A4.box _ hb8)
      have ya := blk_lt (A4.box _ hb8)
      (try simp only at Ra ya)
      have A5 := HKK.out ▸ A4
      have A6 := A5.perm (List.Perm.swap _ _ _)
      have A7 := A6.putO 8 x N 0 t.size ⟨#[]⟩
      (try clear Rb); (try clear yb); (try clear Zb)
      have Rb := cells_of (A6.box _ m0)
      have yb := blk_lt (A6.box _ m0)
      have Zb := free_of (A6.box _ m0)
      (try simp only at Rb yb Zb)
      clear A4 A3 A5 A6
      go_wp2_with fail
      have R5 := cells_of (A7.box _ m0)
      refine bodyPost_ret (v := .tuple #[O.val (strN N x 0 t.size), .int .i64 0]) ?_ rfl ⟨rfl, ?_⟩
      · simp [results, Try.results48, go_sem, R5]
      · have := A7.keep ((List.sublist_cons_self _ _).trans ((List.sublist_cons_self _ _).trans (List.sublist_cons_self _ _)))
        rw [List.take_of_length_le (by rw [HTL.out]; exact Nat.le_refl _)] at this
        exact this
end Go.Proofs.Ythelgahojgdehaa
/- Walks: the functions that conv.Do hands to conv.do. -/
namespace Go.Proofs.Ythelgahojgdehaa
open Go.RowKit

abbrev hBox (hp : Nat) : Obj := .cells #[ptr hp] 23
set_option maxRecDepth 100000 in
set_option maxHeartbeats 2000000 in
theorem cv4_any {w0 w : World} {M : List (Nat × List C)} {K : List (Nat × Obj)} {sp hp hb g : Nat} {l ops : List O} {cur : Array Value} (S : StkAt w0 w M ((g, .cells cur 29) :: K) sp l) (hh : (hb, hBox hp) ∈ K) (o x : O) (ho : ops = [o]) (hc : cur.toList = ops.flatMap O.cells)
    (HW : ∀ w' K', Ats w0 w' M K' → Calls Try.prog 43 #[ptr hp, o.val] w' fun e w2 => e = .returned (.tuple #[x.val, .int .i64 0]) ∧ Ats w0 w2 M K') :
    Calls Try.prog 42 #[.slice (some ⟨g, 0, none⟩) 1 1, ptr hb] w fun r w2 => r = .returned (.tuple #[x.val, .int .i64 0]) ∧ StkAt w0 w2 M K sp l := by
  have HW := hid' (fun (w' : World) (K' : List (Nat × Obj)) (S' : StkAt w0 w' M K' sp l) => S'.ask (r := .tuple #[x.val, .int .i64 0]) (fun K2 A => HW w' K2 A))
  subst ho
  obtain ⟨q0, q1, q2, q3, q4, q5⟩ := at6 hc (m := 0) (o := o) rfl
  simp only [Nat.zero_mul, Nat.zero_add] at q0 q1 q2 q3 q4 q5
  clear hc
  obtain ⟨kk, kx, kn, kp, kl, ks⟩ := o
  obtain ⟨xk, xx, xn, xp, xl, xs⟩ := x
  have S1 := S.alloc (Obj.cells #[.int .i64 0, .bool false, .int .i64 0, .int .i64 0, .int .i64 0, .string ⟨#[]⟩] 29)
  (try clear Ra); (try clear ya); (try clear Za)
  have Ra := cells_of (S1.box _ m0)
  have ya := blk_lt (S1.box _ m0)
  (try clear Rg); (try clear yg); (try clear Zg)
  have Rg := cells_of (S1.box _ m1)
  have yg := blk_lt (S1.box _ m1)
  (try clear Rh); (try clear yh); (try clear Zh)
  have Rh := cells_of (S1.box _ (List.mem_cons_of_mem _ (List.mem_cons_of_mem _ hh)))
  have yh := blk_lt (S1.box _ (List.mem_cons_of_mem _ (List.mem_cons_of_mem _ hh)))
  (try simp only at Ra ya Rg yg Rh yh)
  simp only at q0 q1 q2 q3 q4 q5
  have HS := hid' S1
  clear S S1
  go_enter Try.func42, Try.ntmps42
  go_wp2_with fail
  generalize w.alloc _ = w1 at *
  go_region_with ((go_at_call 43; refine (HW.out _ _ (by first | exact HS.out | exact HS.out.drew)).mono ?_; rintro r w4 ⟨rfl, S4⟩; have R4 := cells_of (S4.box _ m0); have Z4 := free_of (S4.box _ m0); have y4 := blk_lt (S4.box _ m0)))
  all_goals
    have S5 := S4.putO xk xx xn xp xl xs
    generalize (((((w4.setCell _ _).setCell _ _).setCell _ _).setCell _ _).setCell _ _).setCell _ _ = w5 at *
    go_wp2_with fail
    have R5 := cells_of (S5.box _ m0)
    refine bodyPost_ret (v := .tuple #[O.val ⟨xk, xx, xn, xp, xl, xs⟩, .int .i64 0]) ?_ rfl ⟨rfl, S5.keep ((List.sublist_cons_self _ _).trans (List.sublist_cons_self _ _))⟩
    simp [results, Try.results42, go_sem, R5]
set_option maxRecDepth 100000 in
set_option maxHeartbeats 2000000 in
theorem cv5_any {w0 w : World} {M : List (Nat × List C)} {K : List (Nat × Obj)} {sp hp hb g : Nat} {l ops : List O} {cur : Array Value} (S : StkAt w0 w M ((g, .cells cur 29) :: K) sp l) (hh : (hb, hBox hp) ∈ K) (o x : O) (ho : ops = [o]) (hc : cur.toList = ops.flatMap O.cells)
    (HW : ∀ w' K', Ats w0 w' M K' → Calls Try.prog 45 #[ptr hp, o.val] w' fun e w2 => e = .returned (.tuple #[x.val, .int .i64 0]) ∧ Ats w0 w2 M K') :
    Calls Try.prog 44 #[.slice (some ⟨g, 0, none⟩) 1 1, ptr hb] w fun r w2 => r = .returned (.tuple #[x.val, .int .i64 0]) ∧ StkAt w0 w2 M K sp l := by
  have HW := hid' (fun (w' : World) (K' : List (Nat × Obj)) (S' : StkAt w0 w' M K' sp l) => S'.ask (r := .tuple #[x.val, .int .i64 0]) (fun K2 A => HW w' K2 A))
  subst ho
  obtain ⟨q0, q1, q2, q3, q4, q5⟩ := at6 hc (m := 0) (o := o) rfl
  simp only [Nat.zero_mul, Nat.zero_add] at q0 q1 q2 q3 q4 q5
  clear hc
  obtain ⟨kk, kx, kn, kp, kl, ks⟩ := o
  obtain ⟨xk, xx, xn, xp, xl, xs⟩ := x
  have S1 := S.alloc (Obj.cells #[.int .i64 0, .bool false, .int .i64 0, .int .i64 0, .int .i64 0, .string ⟨#[]⟩] 29)
  (try clear Ra); (try clear ya); (try clear Za)
  have Ra := cells_of (S1.box _ m0)
  have ya := blk_lt (S1.box _ m0)
  (try clear Rg); (try clear yg); (try clear Zg)
  have Rg := cells_of (S1.box _ m1)
  have yg := blk_lt (S1.box _ m1)
  (try clear Rh); (try clear yh); (try clear Zh)
  have Rh := cells_of (S1.box _ (List.mem_cons_of_mem _ (List.mem_cons_of_mem _ hh)))
  have yh := blk_lt (S1.box _ (List.mem_cons_of_mem _ (List.mem_cons_of_mem _ hh)))
  (try simp only at Ra ya Rg yg Rh yh)
  simp only at q0 q1 q2 q3 q4 q5
  have HS := hid' S1
  clear S S1
  go_enter Try.func44, Try.ntmps44
  go_wp2_with fail
  generalize w.alloc _ = w1 at *
  go_region_with ((go_at_call 45; refine (HW.out _ _ (by first | exact HS.out | exact HS.out.drew)).mono ?_; rintro r w4 ⟨rfl, S4⟩; have R4 := cells_of (S4.box _ m0); have Z4 := free_of (S4.box _ m0); have y4 := blk_lt (S4.box _ m0)))
  all_goals
    have S5 := S4.putO xk xx xn xp xl xs
    generalize (((((w4.setCell _ _).setCell _ _).setCell _ _).setCell _ _).setCell _ _).setCell _ _ = w5 at *
    go_wp2_with fail
    have R5 := cells_of (S5.box _ m0)
    refine bodyPost_ret (v := .tuple #[O.val ⟨xk, xx, xn, xp, xl, xs⟩, .int .i64 0]) ?_ rfl ⟨rfl, S5.keep ((List.sublist_cons_self _ _).trans (List.sublist_cons_self _ _))⟩
    simp [results, Try.results44, go_sem, R5]
set_option maxRecDepth 100000 in
set_option maxHeartbeats 2000000 in
theorem cv2_any {w0 w : World} {M : List (Nat × List C)} {K : List (Nat × Obj)} {sp nb g : Nat} {l ops : List O} {cur : Array Value} (S : StkAt w0 w M ((g, .cells cur 29) :: K) sp l) (n : Int) (hh : (nb, .cells #[.int .i64 n] 3) ∈ K) (o : O) (ho : ops = [o]) (hc : cur.toList = ops.flatMap O.cells) :
    Calls Try.prog 39 #[.slice (some ⟨g, 0, none⟩) 1 1, ptr nb] w fun r w2 => r = .returned (.tuple #[(⟨o.kind, n == 74, o.n, o.pos, o.len, o.s⟩ : O).val, .int .i64 0]) ∧ StkAt w0 w2 M K sp l := by
  subst ho
  obtain ⟨kk, kx, kn, kp, kl, ks⟩ := o
  obtain rfl : cur = #[.int .i64 kk, .bool kx, .int .i64 kn, .int .i64 kp, .int .i64 kl, .string ks] := by
    apply Array.toList_inj.1; rw [hc]; rfl
  clear hc
  have S1 := S.alloc (Obj.cells #[.int .i64 0, .bool false, .int .i64 0, .int .i64 0, .int .i64 0, .string ⟨#[]⟩] 29)
  (try clear Ra); (try clear ya); (try clear Za)
  have Ra := cells_of (S1.box _ m0)
  have ya := blk_lt (S1.box _ m0)
  have Za := free_of (S1.box _ m0)
  (try clear Rg); (try clear yg); (try clear Zg)
  have Rg := cells_of (S1.box _ m1)
  have yg := blk_lt (S1.box _ m1)
  have Zg := free_of (S1.box _ m1)
  (try clear Rh); (try clear yh); (try clear Zh)
  have Rh := cells_of (S1.box _ (List.mem_cons_of_mem _ (List.mem_cons_of_mem _ hh)))
  have yh := blk_lt (S1.box _ (List.mem_cons_of_mem _ (List.mem_cons_of_mem _ hh)))
  (try simp only at Ra ya Za Rg yg Zg Rh yh)
  have HS := hid' S1
  clear S S1
  go_enter Try.func39, Try.ntmps39
  go_upto_region 2 with (fail)
  have S2 := ((HS.out.perm (List.Perm.swap _ _ _)).put 1 (.bool (n == 74)))
  simp only [List.setIfInBounds_toArray, List.set_cons_zero, List.set_cons_succ] at S2
  generalize (w.alloc _).setCell _ _ = w2 at *
  (try clear Rg); (try clear yg); (try clear Zg)
  have Rg := cells_of (S2.box _ m0)
  have yg := blk_lt (S2.box _ m0)
  (try clear Ra); (try clear ya); (try clear Za)
  have Ra := cells_of (S2.box _ m1)
  have ya := blk_lt (S2.box _ m1)
  have Za := free_of (S2.box _ m1)
  (try simp only at Rg yg Ra ya Za)
  have S3 := (S2.perm (List.Perm.swap _ _ _)).putO kk (n == 74) kn kp kl ks
  clear S2
  go_wp2_with fail
  have R5 := cells_of (S3.box _ m0)
  refine bodyPost_ret (v := .tuple #[O.val ⟨kk, n == 74, kn, kp, kl, ks⟩, .int .i64 0]) ?_ rfl ⟨rfl, S3.keep ((List.sublist_cons_self _ _).trans (List.sublist_cons_self _ _))⟩
  simp [results, Try.results39, go_sem, R5]
theorem truth_any (b : Bool) (w : World) : Calls Try.prog 41 #[.bool b] w fun e w' => e = .returned (bO b).val ∧ Chg NoB w w' := by
  cases b
  all_goals
    go_enter Try.func41, Try.ntmps41
    go_wp2_with fail
    refine bodyPost_ret (v := (bO _).val) ?_ rfl ⟨rfl, ((Chg.refl NoB w).alloc _).alloc _⟩
    simp [results, Try.results41, go_sem, bO]
theorem type_name (o : O) (hk : o.kind = 5) (w : World) : Calls Try.prog 38 #[o.val] w fun e w' => e = .returned (.string ⟨#[110, 97, 109, 101, 116, 121, 112, 101]⟩) ∧ Chg NoB w w' := by
  obtain ⟨kk, kx, kn, kp, kl, ks⟩ := o
  simp only at hk
  subst hk
  go_enter Try.func38, Try.ntmps38
  go_wp2_with fail
  go_ret
  exact ⟨rfl, (Chg.refl NoB w).alloc _⟩
set_option maxRecDepth 100000 in
set_option maxHeartbeats 2000000 in
theorem cv3_any {w0 w : World} {M : List (Nat × List C)} {K : List (Nat × Obj)} {sp g : Nat} {l ops : List O} {cur : Array Value} (S : StkAt w0 w M ((g, .cells cur 29) :: K) sp l) (o : O) (ho : ops = [o]) (hc : cur.toList = ops.flatMap O.cells) :
    Calls Try.prog 40 #[.slice (some ⟨g, 0, none⟩) 1 1] w fun r w2 => r = .returned (.tuple #[(bO o.exec).val, .int .i64 0]) ∧ StkAt w0 w2 M K sp l := by
  subst ho
  obtain ⟨q0, q1, q2, q3, q4, q5⟩ := at6 hc (m := 0) (o := o) rfl
  simp only [Nat.zero_mul, Nat.zero_add] at q0 q1 q2 q3 q4 q5
  clear hc
  obtain ⟨kk, kx, kn, kp, kl, ks⟩ := o
  have HT := hid' (truth_any kx)
  have S1 := S.alloc (Obj.cells #[.int .i64 0, .bool false, .int .i64 0, .int .i64 0, .int .i64 0, .string ⟨#[]⟩] 29)
  (try clear Ra); (try clear ya); (try clear Za)
  have Ra := cells_of (S1.box _ m0)
  have ya := blk_lt (S1.box _ m0)
  (try clear Rg); (try clear yg); (try clear Zg)
  have Rg := cells_of (S1.box _ m1)
  have yg := blk_lt (S1.box _ m1)
  (try simp only at Ra ya Rg yg)
  simp only at q0 q1 q2 q3 q4 q5 ⊢
  obtain ⟨vv, hvv⟩ : ∃ vv : Int, (if kx = true then 1 else 0) = vv := ⟨_, rfl⟩
  unfold bO at HT ⊢
  simp only [hvv] at HT ⊢
  clear S hvv
  go_enter Try.func40, Try.ntmps40
  go_wp2_with fail
  refine (HT.out _).mono ?_
  rintro r w4 ⟨rfl, X4⟩
  have S4 := S1.pure X4
  (try clear Ra); (try clear ya); (try clear Za)
  have Ra := cells_of (S4.box _ m0)
  have ya := blk_lt (S4.box _ m0)
  have Za := free_of (S4.box _ m0)
  (try simp only at Ra ya Za)
  have S5 := S4.putO 2 false vv 0 0 ⟨#[]⟩
  clear S1 S4 X4
  go_wp2_with fail
  have R5 := cells_of (S5.box _ m0)
  refine bodyPost_ret (v := .tuple #[O.val ⟨2, false, vv, 0, 0, ⟨#[]⟩⟩, .int .i64 0]) ?_ rfl ⟨rfl, S5.keep ((List.sublist_cons_self _ _).trans (List.sublist_cons_self _ _))⟩
  simp [results, Try.results40, go_sem, R5]
set_option maxRecDepth 100000 in
set_option maxHeartbeats 2000000 in
theorem cv1_any {w0 w : World} {M : List (Nat × List C)} {K : List (Nat × Obj)} {sp g : Nat} {l ops : List O} {cur : Array Value} (S : StkAt w0 w M ((g, .cells cur 29) :: K) sp l) (o : O) (ho : ops = [o]) (hc : cur.toList = ops.flatMap O.cells) (t : ByteArray)
    (HT : ∀ w', Calls Try.prog 38 #[o.val] w' fun e w2 => e = .returned (.string t) ∧ Chg NoB w' w2) :
    Calls Try.prog 37 #[.slice (some ⟨g, 0, none⟩) 1 1] w fun r w2 => r = .returned (.tuple #[(⟨5, true, 0, 0, 0, t⟩ : O).val, .int .i64 0]) ∧ StkAt w0 w2 M K sp l := by
  subst ho
  obtain ⟨q0, q1, q2, q3, q4, q5⟩ := at6 hc (m := 0) (o := o) rfl
  simp only [Nat.zero_mul, Nat.zero_add] at q0 q1 q2 q3 q4 q5
  have HT := hid' HT
  clear hc
  obtain ⟨kk, kx, kn, kp, kl, ks⟩ := o
  have S1 := S.alloc (Obj.cells #[.int .i64 0, .bool false, .int .i64 0, .int .i64 0, .int .i64 0, .string ⟨#[]⟩] 29)
  (try clear Ra); (try clear ya); (try clear Za)
  have Ra := cells_of (S1.box _ m0)
  have ya := blk_lt (S1.box _ m0)
  (try clear Rg); (try clear yg); (try clear Zg)
  have Rg := cells_of (S1.box _ m1)
  have yg := blk_lt (S1.box _ m1)
  (try simp only at Ra ya Rg yg)
  simp only at q0 q1 q2 q3 q4 q5 ⊢
  clear S
  go_enter Try.func37, Try.ntmps37
  go_wp2_with fail
  refine (HT.out _).mono ?_
  rintro r w4 ⟨rfl, X4⟩
  have S4 := S1.pure X4
  (try clear Ra); (try clear ya); (try clear Za)
  have Ra := cells_of (S4.box _ m0)
  have ya := blk_lt (S4.box _ m0)
  have Za := free_of (S4.box _ m0)
  (try simp only at Ra ya Za)
  have S5 := S4.putO 5 true 0 0 0 t
  clear S1 S4 X4
  go_wp2_with fail
  have R5 := cells_of (S5.box _ m0)
  refine bodyPost_ret (v := .tuple #[O.val ⟨5, true, 0, 0, 0, t⟩, .int .i64 0]) ?_ rfl ⟨rfl, S5.keep ((List.sublist_cons_self _ _).trans (List.sublist_cons_self _ _))⟩
  simp [results, Try.results37, go_sem, R5]
set_option maxRecDepth 100000 in
set_option maxHeartbeats 2000000 in
theorem cv6_any {w0 w : World} {M : List (Nat × List C)} {K : List (Nat × Obj)} {sp hp hb g : Nat} {l ops : List O} {L : List C} {cur : Array Value} (S : StkAt w0 w M ((g, .cells cur 29) :: K) sp l) (hm : (hp, L) ∈ M) (hh : (hb, hBox hp) ∈ K) (o : O) (ho : ops = [o]) (hc : cur.toList = ops.flatMap O.cells) (b : ByteArray) (hb0 : bytesH L o = (b, 0)) :
    Calls Try.prog 46 #[.slice (some ⟨g, 0, none⟩) 1 1, ptr hb] w fun r w2 => r = .returned (.tuple #[(⟨5, o.exec, 0, 0, 0, b⟩ : O).val, .int .i64 (if 100 < b.size then 5 else 0)]) ∧ StkAt w0 w2 M K sp l := by
  have HB := hid' (fun (w' : World) (K' : List (Nat × Obj)) (S' : StkAt w0 w' M K' sp l) => S'.ask (r := .tuple #[.string b, .int .i64 0]) (fun K2 A => at_bytes A o hb0 hm))
  subst ho
  obtain ⟨q0, q1, q2, q3, q4, q5⟩ := at6 hc (m := 0) (o := o) rfl
  simp only [Nat.zero_mul, Nat.zero_add] at q0 q1 q2 q3 q4 q5
  clear hc hb0
  obtain ⟨kk, kx, kn, kp, kl, ks⟩ := o
  have S1 := S.alloc (Obj.cells #[.int .i64 0, .bool false, .int .i64 0, .int .i64 0, .int .i64 0, .string ⟨#[]⟩] 29)
  simp only at q0 q1 q2 q3 q4 q5 ⊢
  generalize hKL : ((w.heap.size, Obj.cells #[.int .i64 0, .bool false, .int .i64 0, .int .i64 0, .int .i64 0, .string ⟨#[]⟩] 29) :: (g, Obj.cells cur 29) :: K : List (Nat × Obj)) = KL at *
  have mA : (w.heap.size, Obj.cells #[.int .i64 0, .bool false, .int .i64 0, .int .i64 0, .int .i64 0, .string ⟨#[]⟩] 29) ∈ KL := by rw [← hKL]; exact m0
  have mG : (g, Obj.cells cur 29) ∈ KL := by rw [← hKL]; exact m1
  have mH : (hb, hBox hp) ∈ KL := by rw [← hKL]; exact List.mem_cons_of_mem _ (List.mem_cons_of_mem _ hh)
  have RG := StkAt.cellsOf (w0 := w0) (M := M) (sp := sp) (l := l) mG
  have RH := StkAt.cellsOf (w0 := w0) (M := M) (sp := sp) (l := l) mH
  have HKL := hid' hKL
  have HMA := hid' mA
  have HMG := hid' mG
  clear S hKL mA mG mH hh
  by_cases hz : 100 < b.size
  all_goals
    (first | rw [if_pos hz] | rw [if_neg hz])
    first | (have hzi : (100 : Int) < b.size := by omega) | (have hzi : ¬ (100 : Int) < b.size := by omega)
    clear hz
    go_enter Try.func46, Try.ntmps46
    go_wp2_with fail
    generalize hW : w.alloc _ = w1 at *
    clear hW
    go_region_held3 (fun W' => StkAt w0 W' M KL sp l) (first | assumption | (exact StkAt.drew (by assumption)) | (exact StkAt.pure (by assumption) (by assumption)))
      ((go_at_call 27; refine (HB.out _ _ (by first | assumption | exact StkAt.drew (by assumption))).mono ?_; rintro r w4 ⟨rfl, S4⟩))
    have S5 := HKL.out ▸ S4
    (try clear Ra); (try clear ya); (try clear Za)
    have Ra := cells_of (S5.box _ m0)
    have ya := blk_lt (S5.box _ m0)
    have Za := free_of (S5.box _ m0)
    (try clear Rg); (try clear yg); (try clear Zg)
    have Rg := cells_of (S5.box _ m1)
    have yg := blk_lt (S5.box _ m1)
    (try simp only at Ra ya Za Rg yg)
    clear S1 RG RH
    have S6 := S5.putO 5 kx 0 0 0 b
    clear S4 S5
    go_wp2_with fail
    have R5 := cells_of (S6.box _ m0)
    refine bodyPost_ret (v := .tuple #[O.val ⟨5, kx, 0, 0, 0, b⟩, .int .i64 _]) ?_ rfl ⟨rfl, S6.keep ((List.sublist_cons_self _ _).trans (List.sublist_cons_self _ _))⟩
    simp [results, Try.results46, go_sem, R5]
end Go.Proofs.Ythelgahojgdehaa
