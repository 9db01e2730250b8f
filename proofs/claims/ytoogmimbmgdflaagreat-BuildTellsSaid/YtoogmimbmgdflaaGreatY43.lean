/- Parts of the proof: Uxk, Uxl, Uxm, Uxo. -/
import Derived.Test.YtoogmimbmgdflaaGreatY42
namespace Go.Proofs.YtoogmimbmgdflaaGreat
open Go.RowKit
variable {w w0 : World} {bt gp : Nat} {M : List (Nat × List C)} {K : List (Nat × Obj)} {L : List C} {b : List UInt8}
section
abbrev outBox (v : Value) : Obj := .cells #[v] 105 (0, 0)
def RTold (w0 w : World) (gp : Nat) (M : List (Nat × List C)) (K : List (Nat × Obj)) (L : List C) (bt : Nat) (b : List UInt8) : Prop :=
 ∃ v R, RowG 5 1 R v b.length (b.map vu8) ∧ RS [] w0 gp M ((bt, outBox v) :: (R ++ K)) L w
section
variable {w0 w w' : World} {gp bt : Nat} {M : List (Nat × List C)} {K K' : List (Nat × Obj)} {L : List C} {b : List UInt8}
theorem RTold.pure (A : RTold w0 w gp M K L bt b) (X : Chg NoB w w') : RTold w0 w' gp M K L bt b := by
 obtain ⟨v, R, h, T⟩ := A; exact ⟨v, R, h, T.pure X⟩
theorem RTold.alloc (A : RTold w0 w gp M K L bt b) (o : Obj) : RTold w0 (w.alloc o) gp M ((w.heap.size, o) :: K) L bt b := by
 obtain ⟨v, R, h, T⟩ := A
 exact ⟨v, R, h, (T.alloc o).perm (by
  classical refine List.perm_iff_count.2 fun z => ?_
  simp only [List.count_append, List.count_cons]
  omega)⟩
theorem RTold.keep (A : RTold w0 w gp M K L bt b) (h : K'.Sublist K) : RTold w0 w gp M K' L bt b := by
 obtain ⟨v, R, h1, T⟩ := A; exact ⟨v, R, h1, T.keep ((h.append_left _).cons_cons _)⟩
theorem RTold.box (A : RTold w0 w gp M K L bt b) (q : Nat × Obj) (hq : q ∈ K) : w.heap[q.1]? = some q.2 := by
 obtain ⟨v, R, h, T⟩ := A; exact T.box q (List.mem_cons_of_mem _ (List.mem_append_right _ hq))
theorem RTold.ask {f : Nat} {args : Array Value} {r : Value} (A : RTold w0 w gp M K L bt b) (h : ∀ K', RS [] w0 gp M K' L w → Calls Tryz.prog f args w fun e w' => e = .returned r ∧ RS [] w0 gp M K' L w') :
 Calls Tryz.prog f args w fun e w' => e = .returned r ∧ RTold w0 w' gp M K L bt b := by
 obtain ⟨v, R, h1, T⟩ := A
 exact (h _ T).mono fun e w' ⟨e1, T'⟩ => ⟨e1, v, R, h1, T'⟩
theorem RTold.row (A : RTold w0 w gp M K L bt b) : ∃ a c, w.heap[bt]? = some (outBox (.slice a b.length c)) := by
 obtain ⟨v, R, h, T⟩ := A; obtain ⟨a, c, rfl⟩ := rowG_val h; exact ⟨a, c, T.box _ (List.mem_cons_self ..)⟩
theorem rs_bytes (o : O) {s : ByteArray} {e : Int} (hr : bytesH L o = (s, e)) (T : RS [] w0 gp M K L w) : Calls Tryz.prog 136 #[ptr gp, o.val] w fun r w' => r = .returned (.tuple #[.string s, .int .i64 e]) ∧ RS [] w0 gp M K L w' := T.ask fun _ H A => rbytes_any H A (fun _q hq => List.mem_append_left _ hq) o hr
theorem RTold.items (A : RTold w0 w gp M K L bt b) (o : O) {l : List O} {e : Int} (hr : itemsH L o = (l, e)) : Calls Tryz.prog 100 #[ptr gp, o.val] w fun r w' => ∃ v R, r = .returned (.tuple #[v, .int .i64 e]) ∧ RowG 39 6 R v l.length (l.flatMap O.cells) ∧ RTold w0 w' gp M (R ++ K) L bt b := by
 obtain ⟨v, R1, h1, E, H, A⟩ := A; refine (ritems_any H A (fun _q hq => List.mem_append_left _ hq) o hr).mono ?_; rintro r w' ⟨u, rfl, R, hR, A'⟩
 exact ⟨u, R, rfl, hR, v, R1, h1, E, H, A'.perm (by
  classical refine List.perm_iff_count.2 fun z => ?_
  simp only [List.count_append, List.count_cons]
  omega)⟩
end
attribute [local go_sem ↓] Go.wp_at_zero Go.wp_at_succ
set_option maxRecDepth 100000 in
set_option maxHeartbeats 400000 in
theorem at_rput (A : RTold w0 w gp M K L bt b) (hb : b.length ≤ 1000) (s : ByteArray) (hs : s.size ≤ 1000000) :
 Calls Tryz.prog 97 #[ptr bt, .string s] w fun r w' => r = .returned (.tuple #[]) ∧ RTold w0 w' gp M K L bt ((b ++ s.toList).take 1000) := by
 obtain ⟨v, R, hR, E, hE0, A⟩ := A; have HE0 := hidE hE0; clear hE0; have hbx := A.box (bt, outBox v) (by simp); have R0 := cells_of hbx; have l0 := blk_lt hbx; obtain ⟨i0, hi, hz0, hz1, hz2⟩ := info_parts infoU8
 obtain ⟨va, vc, rfl⟩ : ∃ va vc, v = .slice va b.length vc := by
  rcases hR with ⟨rfl, h0, -⟩ | ⟨g, cap, cur, rfl, -⟩
  · exact ⟨none, 0, by rw [h0]⟩
  · exact ⟨_, _, rfl⟩
 have hbl : (b.length : Int) ≤ 1000 := by omega
 have c1 : w.cell? ⟨bt, 0, none⟩ = some (.slice va b.length vc) := by rw [R0 0]; rfl
 clear R0; go_enter Tryz.func97, Tryz.ntmps97
 go_wp2_with fail
 obtain ⟨m, hm, hms⟩ : ∃ m : Nat, (if 1000 - (b.length : Int) < (s.size : Int) then 1000 - (b.length : Int) else (s.size : Int)) = (m : Int) ∧ m = min s.size (1000 - b.length) := by
  refine ⟨min s.size (1000 - b.length), ?_, rfl⟩
  split <;> omega
 have hm0 : (0 : Int) ≤ m := by omega
 have hm1 : (m : Int) ≤ s.size := by omega
 have hm2 : m ≤ s.size ∧ m ≤ 1000 - b.length := by omega
 have hsl : (s.extract 0 m).toList = s.toList.take (1000 - b.length) := by
  have e := ByteArray.toList_eq (bs := s)
  have hsz : s.toList.length = s.size := by rw [e]; rfl
  rw [ByteArray.toList_eq, e, ByteArray.data_extract]; simp only [Array.toList_extract, List.extract_eq_take_drop, List.drop_zero, Nat.sub_zero]; rw [hms]
  by_cases c : s.size ≤ 1000 - b.length
  · rw [Nat.min_eq_left c, List.take_of_length_le (by rw [← e, hsz]; exact Nat.le_refl _), List.take_of_length_le (by rw [← e, hsz]; exact c)]
  · rw [Nat.min_eq_right (by omega)]
 have hel : (s.extract 0 m).size = m := by rw [ByteArray.size_extract]; omega
 have hA := A.perm (K' := R ++ ((bt, outBox (.slice va b.length vc)) :: (E ++ K))) (by
  classical refine List.perm_iff_count.2 fun z => ?_
  simp only [List.count_append, List.count_cons]
  omega)
 have w1 : IntKind.i64.wrap (1000 - (b.length : Int)) = 1000 - (b.length : Int) := IntWalk.i64_in _ (by omega); have HE := hidE hel; have HS := hidE hsl
 have hlen : ((b ++ s.toList).take 1000).length = b.length + m := by
  have hsz : s.toList.length = s.size := by rw [ByteArray.toList_eq]; rfl
  rw [List.length_take, List.length_append, hsz]; omega
 have hmap : b.map vu8 ++ Lib.strCells (s.extract 0 m) = ((b ++ s.toList).take 1000).map vu8 := by
  rw [strCells_eq, hsl, ← take_1000 b _ hb, List.map_append]
 have HLN := hidE hlen; have HMP := hidE hmap; clear hel hsl hbx A hms hlen hmap
 go_region_law (first | (refine step_append_str _ (by rfl) (.tmp 8) (.tmp 19) 99 9 (by rfl) w0.heap.size 5 i0 Tryz.underBytes Tryz.underStr hi hz0 hz1 hz2 (.slice va b.length vc) b.length (b.map vu8) (by rfl) (Ats.ownsG (hA.pure (Chg.drew (Chg.refl NoB w))) hR) (s.extract 0 m) (by rfl) (by unfold maxLen; rw [HE.out]; omega) (by rw [HE.out]; omega) (by have := hA.chg.size; exact this) ?_; intro v' w2 hown hgr hnil hat; obtain ⟨R', hR', A2⟩ := Ats.grownS (hA.pure (Chg.drew (Chg.refl NoB w))) hR hown hgr hnil hat; obtain ⟨v2a, v2c, rfl⟩ := rowG_val hR'; have R2 := cells_of (A2.box (bt, outBox (.slice va b.length vc)) (List.mem_append_right _ (List.mem_cons_self ..))); have Z2 := free_of (A2.box (bt, outBox (.slice va b.length vc)) (List.mem_append_right _ (List.mem_cons_self ..))); have l2 := blk_lt (A2.box (bt, outBox (.slice va b.length vc)) (List.mem_append_right _ (List.mem_cons_self ..)))) | fail)
 all_goals
  rw [HE.out, HMP.out] at hR'; have A3 := (A2.perm List.perm_middle).put 0 (.slice v2a (b.length + m) v2c); simp only [List.setIfInBounds_toArray, List.set_cons_zero] at A3; have HA3 := hidE A3; have HR3 := hidE hR'; clear R2 Z2 l2 A2 hown hgr hnil hat hR' hR hA c1 w1; generalize w2.setCell ⟨bt, 0, none⟩ (.slice v2a (b.length + m) v2c) = w3 at *; clear A3; go_wp2_with fail
  go_end0; refine ⟨rfl, .slice v2a (b.length + m) v2c, R', ?_, E, HE0.out, HA3.out.perm ?_⟩
  · rw [HLN.out]; exact HR3.out
  · classical refine List.perm_iff_count.2 fun z => ?_
    simp only [outBox, List.count_append, List.count_cons]; omega
set_option maxRecDepth 100000 in
theorem rplain_3 (T : RS [] w0 gp M K L w) (n : Int) (h1 : -2147483647 ≤ n) (h2 : n ≤ 2147483647) : Calls Tryz.prog 99 #[ptr gp, O.val ⟨3, false, n, 0, 0, ⟨#[]⟩⟩] w fun r w' => r = .returned (.string (bytesB (intL n))) ∧ RS [] w0 gp M K L w' := by
 have T1 := T.alloc (.cells #[.int .i64 3, .bool false, .int .i64 n, .int .i64 0, .int .i64 0, .string ⟨#[]⟩] 39)
 have hmo : mayO ⟨3, false, n, 0, 0, ⟨#[]⟩⟩ = true := by
  have := BareB.mayO (o := ⟨3, false, n, 0, 0, ⟨#[]⟩⟩) (.inl ⟨n, rfl, h1, h2⟩); exact this.1
 have HM := hid' (fun w => rmay_any ⟨3, false, n, 0, 0, ⟨#[]⟩⟩ w); rw [hmo] at HM; have HI := hid' (fun w => rint_any n (by omega) (by omega) w); clear T hmo; go_enter Tryz.func99, Tryz.ntmps99
 go_wp2_with fail
 refine (HM.out _).mono ?_; rintro r w2 ⟨rfl, X2⟩; have T2 := T1.pure X2; clear T1 X2
 (try clear Ro); (try clear yo); (try clear Zo)
 have Ro := cells_of (T2.box _ m0); have yo := blk_lt (T2.box _ m0)
 (try simp only at Ro yo)
 go_wp2_with fail
 refine (HI.out _).mono ?_; rintro r w3 ⟨rfl, X3⟩; have T3 := hid' (T2.pure X3); clear T2 X3 Ro yo; go_wp2_with fail
 go_ret; exact ⟨rfl, T3.out.keep (List.sublist_cons_self _ _)⟩
set_option maxRecDepth 100000 in
theorem rplain_4 (T : RS [] w0 gp M K L w) (n : Int) (h1 : -1073741823 ≤ n) (h2 : n ≤ 1073741823) : Calls Tryz.prog 99 #[ptr gp, O.val ⟨4, false, n, 0, 0, ⟨#[]⟩⟩] w fun r w' => r = .returned (.string (bytesB (fixL n))) ∧ RS [] w0 gp M K L w' := by
 have T1 := T.alloc (.cells #[.int .i64 4, .bool false, .int .i64 n, .int .i64 0, .int .i64 0, .string ⟨#[]⟩] 39)
 have hmo : mayO ⟨4, false, n, 0, 0, ⟨#[]⟩⟩ = true := by
  have := BareB.mayO (o := ⟨4, false, n, 0, 0, ⟨#[]⟩⟩) (.inr (.inl ⟨n, rfl, h1, h2⟩)); exact this.1
 have HM := hid' (fun w => rmay_any ⟨4, false, n, 0, 0, ⟨#[]⟩⟩ w); rw [hmo] at HM; have HI := hid' (fun w => rfix_any n h1 h2 w); clear T hmo; go_enter Tryz.func99, Tryz.ntmps99
 go_wp2_with fail
 refine (HM.out _).mono ?_; rintro r w2 ⟨rfl, X2⟩; have T2 := T1.pure X2; clear T1 X2
 (try clear Ro); (try clear yo); (try clear Zo)
 have Ro := cells_of (T2.box _ m0); have yo := blk_lt (T2.box _ m0)
 (try simp only at Ro yo)
 go_wp2_with fail
 refine (HI.out _).mono ?_; rintro r w3 ⟨rfl, X3⟩; have T3 := hid' (T2.pure X3); clear T2 X3 Ro yo; go_wp2_with fail
 go_ret; exact ⟨rfl, T3.out.keep (List.sublist_cons_self _ _)⟩
set_option maxRecDepth 100000 in
theorem rplain_5 (T : RS [] w0 gp M K L w) (ex : Bool) (s : ByteArray) : Calls Tryz.prog 99 #[ptr gp, O.val ⟨5, ex, 0, 0, 0, s⟩] w fun r w' => r = .returned (.string s) ∧ RS [] w0 gp M K L w' := by
 have T1 := T.alloc (.cells #[.int .i64 5, .bool ex, .int .i64 0, .int .i64 0, .int .i64 0, .string s] 39); have HT := hid' T1; clear T T1; go_enter Tryz.func99, Tryz.ntmps99
 go_wp2_with fail
 go_ret; exact ⟨rfl, HT.out.keep (List.sublist_cons_self _ _)⟩
set_option maxRecDepth 100000 in
theorem rplain_7 (T : RS [] w0 gp M K L w) (j : Nat) (hj : j < 162) : Calls Tryz.prog 99 #[ptr gp, O.val ⟨7, true, (j : Int) + 1, 0, 0, ⟨#[]⟩⟩] w fun r w' => r = .returned (.string (opN ((j : Int) + 1))) ∧ RS [] w0 gp M K L w' := by
 have T1 := T.alloc (.cells #[.int .i64 7, .bool true, .int .i64 ((j : Int) + 1), .int .i64 0, .int .i64 0, .string ⟨#[]⟩] 39); have HN := hid' (rs_nameE ((j : Int) + 1) (by omega) (by omega) T1); have HT := hid' T1; clear T T1; go_enter Tryz.func99, Tryz.ntmps99
 go_wp2_with fail
 refine HN.out.mono ?_; rintro r w2 ⟨rfl, T2⟩; have HT2 := hid' T2; clear T2; go_wp2_with fail
 go_ret; exact ⟨rfl, HT2.out.keep (List.sublist_cons_self _ _)⟩
set_option maxRecDepth 100000 in
theorem rplain_8 (T : RS [] w0 gp M K L w) (ex : Bool) (n p l : Int) (s x : ByteArray) (e : Int) (hx : bytesH L ⟨8, ex, n, p, l, s⟩ = (x, e)) : Calls Tryz.prog 99 #[ptr gp, O.val ⟨8, ex, n, p, l, s⟩] w fun r w' => r = .returned (.string x) ∧ RS [] w0 gp M K L w' := by
 have T1 := T.alloc (.cells #[.int .i64 8, .bool ex, .int .i64 n, .int .i64 p, .int .i64 l, .string s] 39); have HN := hid' (rs_bytes ⟨8, ex, n, p, l, s⟩ hx T1)
 (try clear Ro); (try clear yo); (try clear Zo)
 have Ro := cells_of (T1.box _ m0); have yo := blk_lt (T1.box _ m0)
 (try simp only at Ro yo)
 have HT := hid' T1; clear T T1 hx; go_enter Tryz.func99, Tryz.ntmps99
 go_wp2_with fail
 refine HN.out.mono ?_; rintro r w2 ⟨rfl, T2⟩; have HT2 := hid' T2; clear T2; go_wp2_with fail
 go_ret; exact ⟨rfl, HT2.out.keep (List.sublist_cons_self _ _)⟩
set_option maxRecDepth 100000 in
theorem rplain_9 (T : RS [] w0 gp M K L w) (ex : Bool) (n p l : Int) (s : ByteArray) : Calls Tryz.prog 99 #[ptr gp, O.val ⟨9, ex, n, p, l, s⟩] w fun r w' => r = .returned (.string ⟨#[45, 97, 114, 114, 97, 121, 45]⟩) ∧ RS [] w0 gp M K L w' := by
 have T1 := T.alloc (.cells #[.int .i64 9, .bool ex, .int .i64 n, .int .i64 p, .int .i64 l, .string s] 39); have HT := hid' T1; clear T T1; go_enter Tryz.func99, Tryz.ntmps99
 go_wp2_with fail
 go_ret; exact ⟨rfl, HT.out.keep (List.sublist_cons_self _ _)⟩
set_option maxRecDepth 100000 in
theorem rplain_0 (T : RS [] w0 gp M K L w)  : Calls Tryz.prog 99 #[ptr gp, O.val ⟨0, false, 0, 0, 0, ⟨#[]⟩⟩] w fun r w' => r = .returned (.string ⟨#[]⟩) ∧ RS [] w0 gp M K L w' := by
 have T1 := T.alloc (Obj.cells #[.int .i64 0, .bool false, .int .i64 0, .int .i64 0, .int .i64 0, .string ⟨#[]⟩] 39); have HT := hid' T1; clear T T1; go_enter Tryz.func99, Tryz.ntmps99
 go_wp2_with fail
 go_ret; exact ⟨rfl, HT.out.keep (List.sublist_cons_self _ _)⟩
end
theorem take_cut (u t : List UInt8) : (u.take 1000 ++ t).take 1000 = (u ++ t).take 1000 := by
 simp only [List.take_append, List.take_take, List.length_take, Nat.min_self]
 by_cases h : u.length ≤ 1000
 · rw [Nat.min_eq_right h]
 · rw [Nat.min_eq_left (by omega), show 1000 - u.length = 0 by omega]
theorem lst_123 : ((⟨#[123]⟩ : ByteArray)).toList = [123] := by rw [ByteArray.toList_eq]
theorem lst_125 : ((⟨#[125]⟩ : ByteArray)).toList = [125] := by rw [ByteArray.toList_eq]
theorem lst_32 : ((⟨#[32]⟩ : ByteArray)).toList = [32] := by rw [ByteArray.toList_eq]
theorem rput_cut {u : List UInt8} (A : RTold w0 w gp M K L bt (u.take 1000)) (s : ByteArray) (hs : s.size ≤ 1000000) :
 Calls Tryz.prog 97 #[ptr bt, .string s] w fun r w' => r = .returned (.tuple #[]) ∧ RTold w0 w' gp M K L bt ((u ++ s.toList).take 1000) := by
 have := at_rput A (by rw [List.length_take]; omega) s hs; rwa [take_cut] at this
set_option maxRecDepth 100000 in
set_option maxHeartbeats 1000000 in
theorem rtell_3 (A : RTold w0 w gp M K L bt b) (hb : b.length ≤ 1000) (deep : Int) (n : Int) (h1 : -2147483647 ≤ n) (h2 : n ≤ 2147483647) :
 Calls Tryz.prog 53 #[ptr bt, ptr gp, O.val ⟨3, false, n, 0, 0, ⟨#[]⟩⟩, .int .i64 deep] w fun r w' => r = .returned (.tuple #[]) ∧ RTold w0 w' gp M K L bt ((b ++ (bytesB (intL n)).toList).take 1000) := by
 have hsz : (bytesB (intL n)).size ≤ 1000000 := by have := decL_short n (by omega) (by omega); show (intL n).length ≤ _; omega
 have A1 := A.alloc (.cells #[.int .i64 3, .bool false, .int .i64 n, .int .i64 0, .int .i64 0, .string ⟨#[]⟩] 39); have HP := hid' (A1.ask fun K' T => rplain_3 T n h1 h2)
 obtain ⟨S, hS⟩ : ∃ S : ByteArray, S = (bytesB (intL n)) := ⟨_, rfl⟩
 rw [← hS] at hsz HP ⊢; have HPUT := hid' (fun W K' (A : RTold w0 W gp M K' L bt b) => at_rput A hb S hsz)
 (try clear Ro); (try clear yo); (try clear Zo)
 have Ro := cells_of (A1.box _ m0); have yo := blk_lt (A1.box _ m0)
 (try simp only at Ro yo)
 have HA1 := hid' A1; clear A A1 hsz hS; go_enter Tryz.func53, Tryz.ntmps53
 go_wp2_with fail
 refine HP.out.mono ?_; rintro r w2 ⟨rfl, A2⟩; have HA2 := hid' A2; clear A2 Ro yo HA1 HP; go_wp2_with fail
 refine (HPUT.out _ _ HA2.out).mono ?_; rintro r w3 ⟨rfl, A3⟩; have HA3 := hid' A3; clear A3; go_wp2_with fail
 go_end0; exact ⟨rfl, HA3.out.keep (List.sublist_cons_self _ _)⟩
set_option maxRecDepth 100000 in
set_option maxHeartbeats 1000000 in
theorem rtell_4 (A : RTold w0 w gp M K L bt b) (hb : b.length ≤ 1000) (deep : Int) (n : Int) (h1 : -1073741823 ≤ n) (h2 : n ≤ 1073741823) :
 Calls Tryz.prog 53 #[ptr bt, ptr gp, O.val ⟨4, false, n, 0, 0, ⟨#[]⟩⟩, .int .i64 deep] w fun r w' => r = .returned (.tuple #[]) ∧ RTold w0 w' gp M K L bt ((b ++ (bytesB (fixL n)).toList).take 1000) := by
 have hsz : (bytesB (fixL n)).size ≤ 1000000 := fix_short n h1 h2; have A1 := A.alloc (.cells #[.int .i64 4, .bool false, .int .i64 n, .int .i64 0, .int .i64 0, .string ⟨#[]⟩] 39); have HP := hid' (A1.ask fun K' T => rplain_4 T n h1 h2)
 obtain ⟨S, hS⟩ : ∃ S : ByteArray, S = (bytesB (fixL n)) := ⟨_, rfl⟩
 rw [← hS] at hsz HP ⊢; have HPUT := hid' (fun W K' (A : RTold w0 W gp M K' L bt b) => at_rput A hb S hsz)
 (try clear Ro); (try clear yo); (try clear Zo)
 have Ro := cells_of (A1.box _ m0); have yo := blk_lt (A1.box _ m0)
 (try simp only at Ro yo)
 have HA1 := hid' A1; clear A A1 hsz hS; go_enter Tryz.func53, Tryz.ntmps53
 go_wp2_with fail
 refine HP.out.mono ?_; rintro r w2 ⟨rfl, A2⟩; have HA2 := hid' A2; clear A2 Ro yo HA1 HP; go_wp2_with fail
 refine (HPUT.out _ _ HA2.out).mono ?_; rintro r w3 ⟨rfl, A3⟩; have HA3 := hid' A3; clear A3; go_wp2_with fail
 go_end0; exact ⟨rfl, HA3.out.keep (List.sublist_cons_self _ _)⟩
set_option maxRecDepth 100000 in
set_option maxHeartbeats 1000000 in
theorem rtell_5x (A : RTold w0 w gp M K L bt b) (hb : b.length ≤ 1000) (deep : Int) (s : ByteArray) (hs : s.size ≤ 1000) :
 Calls Tryz.prog 53 #[ptr bt, ptr gp, O.val ⟨5, true, 0, 0, 0, s⟩, .int .i64 deep] w fun r w' => r = .returned (.tuple #[]) ∧ RTold w0 w' gp M K L bt ((b ++ s.toList).take 1000) := by
 have hsz : s.size ≤ 1000000 := by omega
 have A1 := A.alloc (.cells #[.int .i64 5, .bool true, .int .i64 0, .int .i64 0, .int .i64 0, .string s] 39); have HP := hid' (A1.ask fun K' T => rplain_5 T true s)
 obtain ⟨S, hS⟩ : ∃ S : ByteArray, S = s := ⟨_, rfl⟩
 rw [← hS] at hsz HP ⊢; have HPUT := hid' (fun W K' (A : RTold w0 W gp M K' L bt b) => at_rput A hb S hsz)
 (try clear Ro); (try clear yo); (try clear Zo)
 have Ro := cells_of (A1.box _ m0); have yo := blk_lt (A1.box _ m0)
 (try simp only at Ro yo)
 have HA1 := hid' A1; clear A A1 hsz hS; go_enter Tryz.func53, Tryz.ntmps53
 go_wp2_with fail
 refine HP.out.mono ?_; rintro r w2 ⟨rfl, A2⟩; have HA2 := hid' A2; clear A2 Ro yo HA1 HP; go_wp2_with fail
 refine (HPUT.out _ _ HA2.out).mono ?_; rintro r w3 ⟨rfl, A3⟩; have HA3 := hid' A3; clear A3; go_wp2_with fail
 go_end0; exact ⟨rfl, HA3.out.keep (List.sublist_cons_self _ _)⟩
set_option maxRecDepth 100000 in
set_option maxHeartbeats 1000000 in
theorem rtell_0 (A : RTold w0 w gp M K L bt b) (hb : b.length ≤ 1000) (deep : Int)  :
 Calls Tryz.prog 53 #[ptr bt, ptr gp, O.val ⟨0, false, 0, 0, 0, ⟨#[]⟩⟩, .int .i64 deep] w fun r w' => r = .returned (.tuple #[]) ∧ RTold w0 w' gp M K L bt ((b ++ (⟨#[]⟩ : ByteArray).toList).take 1000) := by
 have hsz : (⟨#[]⟩ : ByteArray).size ≤ 1000000 := by decide
 have A1 := A.alloc (.cells #[.int .i64 0, .bool false, .int .i64 0, .int .i64 0, .int .i64 0, .string ⟨#[]⟩] 39); have HP := hid' (A1.ask fun K' T => rplain_0 T)
 obtain ⟨S, hS⟩ : ∃ S : ByteArray, S = (⟨#[]⟩ : ByteArray) := ⟨_, rfl⟩
 rw [← hS] at hsz HP ⊢; have HPUT := hid' (fun W K' (A : RTold w0 W gp M K' L bt b) => at_rput A hb S hsz)
 (try clear Ro); (try clear yo); (try clear Zo)
 have Ro := cells_of (A1.box _ m0); have yo := blk_lt (A1.box _ m0)
 (try simp only at Ro yo)
 have HA1 := hid' A1; clear A A1 hsz hS; go_enter Tryz.func53, Tryz.ntmps53
 go_wp2_with fail
 refine HP.out.mono ?_; rintro r w2 ⟨rfl, A2⟩; have HA2 := hid' A2; clear A2 Ro yo HA1 HP; go_wp2_with fail
 refine (HPUT.out _ _ HA2.out).mono ?_; rintro r w3 ⟨rfl, A3⟩; have HA3 := hid' A3; clear A3; go_wp2_with fail
 go_end0; exact ⟨rfl, HA3.out.keep (List.sublist_cons_self _ _)⟩
set_option maxRecDepth 100000 in
set_option maxHeartbeats 1000000 in
theorem rtell_9d (A : RTold w0 w gp M K L bt b) (hb : b.length ≤ 1000) (deep : Int) (h20 : ¬ deep < 20) (ex : Bool) (n p l : Int) (s : ByteArray) :
 Calls Tryz.prog 53 #[ptr bt, ptr gp, O.val ⟨9, ex, n, p, l, s⟩, .int .i64 deep] w fun r w' => r = .returned (.tuple #[]) ∧ RTold w0 w' gp M K L bt ((b ++ (⟨#[45, 97, 114, 114, 97, 121, 45]⟩ : ByteArray).toList).take 1000) := by
 have hsz : (⟨#[45, 97, 114, 114, 97, 121, 45]⟩ : ByteArray).size ≤ 1000000 := by decide
 have A1 := A.alloc (.cells #[.int .i64 9, .bool ex, .int .i64 n, .int .i64 p, .int .i64 l, .string s] 39); have HP := hid' (A1.ask fun K' T => rplain_9 T ex n p l s)
 obtain ⟨S, hS⟩ : ∃ S : ByteArray, S = (⟨#[45, 97, 114, 114, 97, 121, 45]⟩ : ByteArray) := ⟨_, rfl⟩
 rw [← hS] at hsz HP ⊢; have HPUT := hid' (fun W K' (A : RTold w0 W gp M K' L bt b) => at_rput A hb S hsz)
 (try clear Ro); (try clear yo); (try clear Zo)
 have Ro := cells_of (A1.box _ m0); have yo := blk_lt (A1.box _ m0)
 (try simp only at Ro yo)
 have HA1 := hid' A1; clear A A1 hsz hS; go_enter Tryz.func53, Tryz.ntmps53
 go_wp2_with fail
 refine HP.out.mono ?_; rintro r w2 ⟨rfl, A2⟩; have HA2 := hid' A2; clear A2 Ro yo HA1 HP; go_wp2_with fail
 refine (HPUT.out _ _ HA2.out).mono ?_; rintro r w3 ⟨rfl, A3⟩; have HA3 := hid' A3; clear A3; go_wp2_with fail
 go_end0; exact ⟨rfl, HA3.out.keep (List.sublist_cons_self _ _)⟩
set_option maxRecDepth 100000 in
set_option maxHeartbeats 1000000 in
theorem rtell_5 (A : RTold w0 w gp M K L bt b) (hb : b.length ≤ 1000) (deep : Int) (s : ByteArray) (hs : s.size ≤ 1000) :
 Calls Tryz.prog 53 #[ptr bt, ptr gp, O.val ⟨5, false, 0, 0, 0, s⟩, .int .i64 deep] w fun r w' => r = .returned (.tuple #[]) ∧ RTold w0 w' gp M K L bt ((b ++ (47 :: s.toList)).take 1000) := by
 have e2 : (⟨#[47]⟩ : ByteArray).size = 1 := rfl; have K1 : ∀ W : World, (Op.stringOp .add ⟨#[47]⟩ s).run Tryz.prog W = .ok (.string (⟨#[47]⟩ ++ s)) W := fun W => run_string_add_sum W _ _ (by omega)
 have g1 : ¬ 9223372036854775807 < 1 + s.size := by omega
 obtain ⟨S, hS⟩ : ∃ S : ByteArray, S = ⟨#[47]⟩ ++ s := ⟨_, rfl⟩
 have hsz : S.size ≤ 1000000 := by rw [hS, ByteArray.size_append]; omega
 have hl : 47 :: s.toList = S.toList := by
  rw [hS]; simp only [ByteArray.toList_eq, ByteArray.data_append, Array.toList_append]; simp
 rw [hl]; rw [← hS] at K1; have A1 := A.alloc (.cells #[.int .i64 5, .bool false, .int .i64 0, .int .i64 0, .int .i64 0, .string s] 39); have HPUT := hid' (fun W K' (A : RTold w0 W gp M K' L bt b) => at_rput A hb S hsz)
 (try clear Ro); (try clear yo); (try clear Zo)
 have Ro := cells_of (A1.box _ m0); have yo := blk_lt (A1.box _ m0)
 (try simp only at Ro yo)
 have HA1 := hid' A1; have HS := hid' hS; clear A A1 hsz hl hS e2; go_enter Tryz.func53, Tryz.ntmps53
 go_wp2_with fail
 try rw [← HS.out]
 refine (HPUT.out _ _ HA1.out).mono ?_; rintro r w3 ⟨rfl, A3⟩; have HA3 := hid' A3; clear A3 Ro yo HA1; go_wp2_with fail
 go_end0; exact ⟨rfl, HA3.out.keep (List.sublist_cons_self _ _)⟩
set_option maxRecDepth 100000 in
set_option maxHeartbeats 1000000 in
theorem rtell_8 (A : RTold w0 w gp M K L bt b) (hb : b.length ≤ 1000) (deep : Int) (ex : Bool) (n p l : Int) (s x : ByteArray) (e : Int) (hx : bytesH L ⟨8, ex, n, p, l, s⟩ = (x, e)) (hsx : x.size ≤ 100000) :
 Calls Tryz.prog 53 #[ptr bt, ptr gp, O.val ⟨8, ex, n, p, l, s⟩, .int .i64 deep] w fun r w' => r = .returned (.tuple #[]) ∧ RTold w0 w' gp M K L bt ((b ++ parenL x.toList).take 1000) := by
 have hsz : (bytesB (parenL x.toList)).size ≤ 1000000 := by
  have := quote_len x.toList; rw [size_lst] at this; show (parenL x.toList).length ≤ 1000000; simp [parenL]
  omega
 have A1 := A.alloc (.cells #[.int .i64 8, .bool ex, .int .i64 n, .int .i64 p, .int .i64 l, .string s] 39); have HP := hid' (A1.ask fun K' T => rplain_8 T ex n p l s x e hx); have HQ := hid' (fun w' => rparen_any x (by omega) w')
 obtain ⟨S, hS⟩ : ∃ S : ByteArray, S = bytesB (parenL x.toList) := ⟨_, rfl⟩
 have hl : parenL x.toList = S.toList := by rw [hS]; exact (bytesB_lst (parenL x.toList)).symm
 rw [← hS] at hsz HQ; rw [hl]; have HPUT := hid' (fun W K' (A : RTold w0 W gp M K' L bt b) => at_rput A hb S hsz)
 (try clear Ro); (try clear yo); (try clear Zo)
 have Ro := cells_of (A1.box _ m0); have yo := blk_lt (A1.box _ m0)
 (try simp only at Ro yo)
 have HA1 := hid' A1; clear A A1 hsz hl hS hx hsx; go_enter Tryz.func53, Tryz.ntmps53
 go_wp2_with fail
 refine HP.out.mono ?_; rintro r w2 ⟨rfl, A2⟩; have HA2 := hid' A2; clear A2 Ro yo HA1 HP; go_wp2_with fail
 refine (HQ.out _).mono ?_; rintro r w3 ⟨rfl, X3⟩; have HA3 := hid' (HA2.out.pure X3); clear X3 HA2; go_wp2_with fail
 refine (HPUT.out _ _ HA3.out).mono ?_; rintro r w4 ⟨rfl, A4⟩; have HA4 := hid' A4; clear A4; go_wp2_with fail
 go_end0; exact ⟨rfl, HA4.out.keep (List.sublist_cons_self _ _)⟩
set_option maxRecDepth 100000 in
set_option maxHeartbeats 1000000 in
theorem rtell_7 (A : RTold w0 w gp M K L bt b) (hb : b.length ≤ 1000) (deep : Int) (j : Nat) (hj : j < 162) :
 Calls Tryz.prog 53 #[ptr bt, ptr gp, O.val ⟨7, true, (j : Int) + 1, 0, 0, ⟨#[]⟩⟩, .int .i64 deep] w fun r w' => r = .returned (.tuple #[]) ∧ RTold w0 w' gp M K L bt ((b ++ opX j).take 1000) := by
 obtain ⟨nm, hnm⟩ : ∃ nm, opN ((j : Int) + 1) = nm := ⟨_, rfl⟩
 obtain ⟨T, hT⟩ : ∃ T : ByteArray, T = ⟨#[45, 45]⟩ ++ nm ++ ⟨#[45, 45]⟩ := ⟨_, rfl⟩
 have hs := opN_size j; rw [hnm] at hs; have e2 : (⟨#[45, 45]⟩ : ByteArray).size = 2 := rfl
 have hsz : T.size ≤ 1000000 := by
  rw [hT, ByteArray.size_append, ByteArray.size_append]; omega
 have hTL : opX j = T.toList := by
  unfold opX; rw [hT, hnm]; simp only [ByteArray.toList_eq, ByteArray.data_append, Array.toList_append]; simp
 rw [hTL]; have K1 : ∀ W : World, (Op.stringOp .add ⟨#[45, 45]⟩ nm).run Tryz.prog W = .ok (.string (⟨#[45, 45]⟩ ++ nm)) W := fun W => run_string_add_sum W _ _ (by omega); have K2 : ∀ W : World, (Op.stringOp .add (⟨#[45, 45]⟩ ++ nm) ⟨#[45, 45]⟩).run Tryz.prog W = .ok (.string (⟨#[45, 45]⟩ ++ nm ++ ⟨#[45, 45]⟩)) W := fun W => run_string_add_sum W _ _ (by rw [ByteArray.size_append]; omega)
 have g1 : ¬ 9223372036854775807 < 2 + nm.size := by omega
 have g2 : ¬ 9223372036854775807 < 2 + nm.size + 2 := by omega
 have A1 := A.alloc (.cells #[.int .i64 7, .bool true, .int .i64 ((j : Int) + 1), .int .i64 0, .int .i64 0, .string ⟨#[]⟩] 39); have HP := hid' (A1.ask fun K' T => rplain_7 T j hj); rw [hnm] at HP; have HPUT := hid' (fun W K' (A : RTold w0 W gp M K' L bt b) => at_rput A hb T hsz); rw [hT] at HPUT
 (try clear Ro); (try clear yo); (try clear Zo)
 have Ro := cells_of (A1.box _ m0); have yo := blk_lt (A1.box _ m0)
 (try simp only at Ro yo)
 have HA1 := hid' A1; have HT := hid' hT; clear A A1 hsz hTL hnm hs e2 hT; go_enter Tryz.func53, Tryz.ntmps53
 go_wp2_with fail
 refine HP.out.mono ?_; rintro r w2 ⟨rfl, A2⟩; have HA2 := hid' A2; clear A2 Ro yo HA1 HP; go_wp2_with fail
 refine (HPUT.out _ _ HA2.out).mono ?_; rintro r w3 ⟨rfl, A3⟩; have HA3 := hid' A3; clear A3; go_wp2_with fail
 go_end0; rw [HT.out]; exact ⟨rfl, HA3.out.keep (List.sublist_cons_self _ _)⟩
set_option maxRecDepth 100000 in
set_option maxHeartbeats 4000000 in
theorem rtell_arr_none (A : RTold w0 w gp M K L bt b) (hb : b.length ≤ 1000) (deep : Int) (_d0 : 0 ≤ deep) (d1 : deep < 20) (n a l : Int) (s : ByteArray) (hm : mayH L ⟨9, true, n, a, l, s⟩ = true)
 (hr : itemsH L ⟨9, true, n, a, l, s⟩ = (([] : List O), 0))  :
 Calls Tryz.prog 53 #[ptr bt, ptr gp, O.val ⟨9, true, n, a, l, s⟩, .int .i64 deep] w fun r w' => r = .returned (.tuple #[]) ∧ RTold w0 w' gp M K L bt ((b ++ [123, 125]).take 1000) := by
 have hU0 : b ++ [123, 125] = b ++ [123] ++ [125] := by simp
 obtain ⟨U, hU⟩ : ∃ U : List UInt8, U = b ++ [123] := ⟨_, rfl⟩
 rw [hU0, ← hU]; have HU0 := hid' hU; clear hU0 hU; have A1 := A.alloc (.cells #[.int .i64 9, .bool true, .int .i64 n, .int .i64 a, .int .i64 l, .string s] 39); have HMY := hid' (A1.ask fun K' T => rs_may _ hm T); have HIT := hid' (fun W K' (A : RTold w0 W gp M K' L bt b) => A.items ⟨9, true, n, a, l, s⟩ hr); have HPUT := hid' (fun W K' (u : List UInt8) (x : ByteArray) (A : RTold w0 W gp M K' L bt (u.take 1000)) (hs : x.size ≤ 1000000) => rput_cut A x hs); have HP0 := hid' (fun W K' (A : RTold w0 W gp M K' L bt b) => at_rput A hb ⟨#[123]⟩ (by decide)); rw [lst_123] at HP0
 (try clear Ro); (try clear yo); (try clear Zo)
 have Ro := cells_of (A1.box _ m0); have yo := blk_lt (A1.box _ m0)
 (try simp only at Ro yo)
 have HA1 := hid' A1; clear A A1 hm hr hb; go_enter Tryz.func53, Tryz.ntmps53
 go_wp2_with fail
 refine HMY.out.mono ?_; rintro r w2 ⟨rfl, A2⟩; clear Ro yo HA1 HMY
 (try clear Ro); (try clear yo); (try clear Zo)
 have Ro := cells_of (A2.box _ m0); have yo := blk_lt (A2.box _ m0)
 (try simp only at Ro yo)
 have HCI := hid' (HIT.out _ _ A2); have HA2 := hid' A2; clear A2 HIT; go_wp2_with fail
 refine HCI.out.mono ?_; rintro r w3 ⟨v, R, rfl, hR, A3⟩; clear HCI Ro yo HA2; obtain ⟨va, vc, rfl, -⟩ := rowG_slice hR; have A4 := A3.keep (List.sublist_append_right R _); clear A3 hR
 (try clear Ro); (try clear yo); (try clear Zo)
 have Ro := cells_of (A4.box _ m0); have yo := blk_lt (A4.box _ m0)
 (try simp only at Ro yo)
 have HC0 := hid' (HP0.out _ _ A4); have HA4 := hid' A4; clear A4 HP0; go_wp2_with fail
 refine HC0.out.mono ?_; rintro r w4 ⟨rfl, A5⟩; rw [← HU0.out] at A5; have HA5 := hid' A5; have HC1 := hid' (HPUT.out _ _ U ⟨#[125]⟩ A5 (by decide)); rw [lst_125] at HC1; clear A5 Ro yo HA4 HC0 HPUT HU0; go_wp2_with fail
 go_loopw [12] (fun iv wr => iv = .int .i64 0 ∧ wr = w4) (fun iv _ => 0)
 case atStart => exact ⟨rfl, rfl⟩
 case round =>
 obtain ⟨rfl, rfl⟩ := hrel; go_wp2_with fail
 refine HC1.out.mono ?_; rintro r w5 ⟨rfl, A6⟩; have HA6 := hid' A6; clear A6 HA5 HC1; go_wp2_with fail
 go_end0; exact ⟨rfl, HA6.out.keep (List.sublist_cons_self _ _)⟩
set_option maxRecDepth 100000 in
set_option maxHeartbeats 4000000 in
theorem rtell_arr (A : RTold w0 w gp M K L bt b) (hb : b.length ≤ 1000) (deep : Int) (d0 : 0 ≤ deep) (d1 : deep < 20) (n a l : Int) (s : ByteArray) (hm : mayH L ⟨9, true, n, a, l, s⟩ = true)
 {it : List O} (hr : itemsH L ⟨9, true, n, a, l, s⟩ = (it, 0)) (hl : 0 < it.length) (hl2 : it.length ≤ 100000) (T : O → List UInt8)
 (IH : ∀ x ∈ it, ∀ (w : World) (K : List (Nat × Obj)) (b : List UInt8), RTold w0 w gp M K L bt b → b.length ≤ 1000 →
  Calls Tryz.prog 53 #[ptr bt, ptr gp, x.val, .int .i64 (deep + 1)] w fun r w' => r = .returned (.tuple #[]) ∧ RTold w0 w' gp M K L bt ((b ++ T x).take 1000)) :
 Calls Tryz.prog 53 #[ptr bt, ptr gp, O.val ⟨9, true, n, a, l, s⟩, .int .i64 deep] w fun r w' => r = .returned (.tuple #[]) ∧ RTold w0 w' gp M K L bt ((b ++ arrT true T it).take 1000) := by
 have hF : ∃ U : Nat → List UInt8, (∀ i, U i = b ++ 123 :: jn T it i) := ⟨_, fun _ => rfl⟩
 obtain ⟨U, hU⟩ := hF
 have hU0 : U 0 = b ++ [123] := by rw [hU]; rfl
 have hU1 : ∀ i, U (i + 1) = U i ++ ((if i = 0 then [] else [32]) ++ T (it.getD i O.nil)) := fun i => by rw [hU, hU, jn]; simp
 have hUe : b ++ arrT true T it = U it.length ++ [125] := by rw [hU]; simp [arrT]
 have hUp : ∀ i, i ≤ it.length → ∃ r, U it.length = U i ++ r := fun i hi => by
  obtain ⟨r, hr⟩ := jn_pre T it i it.length hi; exact ⟨r, by rw [hU, hU, hr]; simp⟩
 rw [hUe]; have HU0 := hid' hU0; have HU1 := hid' hU1; have HUp := hid' hUp
 have HIH := hid' (fun x hx W K' (u : List UInt8) (A : RTold w0 W gp M K' L bt (u.take 1000)) => by
  have := IH x hx W K' (u.take 1000) A (by rw [List.length_take]; omega); rw [take_cut] at this
  exact this)
 clear hU hU0 hU1 hUe hUp IH; have A1 := A.alloc (.cells #[.int .i64 9, .bool true, .int .i64 n, .int .i64 a, .int .i64 l, .string s] 39); have HMY := hid' (A1.ask fun K' T => rs_may _ hm T); have HIT := hid' (fun W K' (A : RTold w0 W gp M K' L bt b) => A.items ⟨9, true, n, a, l, s⟩ hr); have HPUT := hid' (fun W K' (u : List UInt8) (x : ByteArray) (A : RTold w0 W gp M K' L bt (u.take 1000)) (hs : x.size ≤ 1000000) => rput_cut A x hs); have HP0 := hid' (fun W K' (A : RTold w0 W gp M K' L bt b) => at_rput A hb ⟨#[123]⟩ (by decide)); rw [lst_123] at HP0
 (try clear Ro); (try clear yo); (try clear Zo)
 have Ro := cells_of (A1.box _ m0); have yo := blk_lt (A1.box _ m0)
 (try simp only at Ro yo)
 have HA1 := hid' A1; clear A A1 hm hr hb; go_enter Tryz.func53, Tryz.ntmps53
 go_wp2_with fail
 refine HMY.out.mono ?_; rintro r w2 ⟨rfl, A2⟩; clear Ro yo HA1 HMY
 (try clear Ro); (try clear yo); (try clear Zo)
 have Ro := cells_of (A2.box _ m0); have yo := blk_lt (A2.box _ m0)
 (try simp only at Ro yo)
 have HCI := hid' (HIT.out _ _ A2); have HA2 := hid' A2; clear A2 HIT; go_wp2_with fail
 refine HCI.out.mono ?_; rintro r w3 ⟨v, R, rfl, hR, A3⟩; clear HCI Ro yo HA2
 rcases hR with ⟨rfl, h0, -, -⟩ | ⟨gi, cap, cur, rfl, rfl, hc1, hc2, hc3, hc4, hc5⟩
 · omega
 have hcur : ∀ i, i < it.length * 6 → cur[i]? = (it.flatMap O.cells)[i]? := fun i hi => by
  rw [← hc4, List.getElem?_take, if_pos hi, Array.getElem?_toList]
 have HCUR := hid' hcur; clear hcur hc3 hc4 hc5; simp only [List.singleton_append] at A3
 (try clear Ro); (try clear yo); (try clear Zo)
 have Ro := cells_of (A3.box _ m1); have yo := blk_lt (A3.box _ m1)
 (try simp only at Ro yo)
 have HC0 := hid' (HP0.out _ _ A3); have HA3 := hid' A3; clear A3 HP0; go_wp2_with fail
 refine HC0.out.mono ?_; rintro r w4 ⟨rfl, A4⟩; rw [← HU0.out] at A4; have HA4 := hid' A4; clear A4 Ro yo HA3 HC0 HU0
 have hcap' : (it.length : Int) ≤ cap := by omega
 have hln : (it.length : Int) ≤ 100000 := by omega
 go_wp2_with fail
 go_loopw [12] (fun iv wr => ∃ i : Nat, i ≤ it.length ∧ iv = .int .i64 i ∧ RTold w0 wr gp M ((gi, .cells cur 39) :: (w.heap.size, .cells #[.int .i64 9, .bool true, .int .i64 n, .int .i64 a, .int .i64 l, .string s] 39) :: K) L bt ((U i).take 1000)) (fun iv _ => it.length - (intOf iv).toNat)
 case atStart => exact ⟨0, Nat.zero_le _, rfl, HA4.out⟩
 case round =>
 obtain ⟨i, hi, rfl, A5⟩ := hrel; clear HA4; have HA5 := hid' A5
 by_cases hlt : i < it.length
 rotate_left
 · obtain rfl : i = it.length := by omega
   have hlt' : ¬ (it.length : Int) < it.length := by omega
   have HC1 := hid' (HPUT.out _ _ _ ⟨#[125]⟩ A5 (by decide)); rw [lst_125] at HC1; clear A5; go_wp2_with fail
   refine HC1.out.mono ?_; rintro r w5 ⟨rfl, A6⟩; have HA6 := hid' A6; clear A6 HA5 HC1; go_wp2_with fail
   go_end0; exact ⟨rfl, HA6.out.keep ((List.sublist_cons_self _ _).trans (List.sublist_cons_self _ _))⟩
 have hlt' : (i : Int) < it.length := by omega
 have h0i : (0 : Int) ≤ i := by omega
 obtain ⟨va, vc, hbt⟩ := A5.row; have Rt := cells_of hbt; have yt := blk_lt hbt
 by_cases ck : (U i).length < 1000
 rotate_left
 · have e1 : ((U i).take 1000).length = 1000 := by rw [List.length_take]; omega
   rw [e1] at Rt
   have e2 : (U it.length ++ [125]).take 1000 = (U i ++ [125]).take 1000 := by
    obtain ⟨r, hr⟩ := HUp.out i hi; rw [hr, List.append_assoc, (cut_pre _ _ ck).1, (cut_pre _ _ ck).1]
   have HE2 := hid' e2; have HC1 := hid' (HPUT.out _ _ _ ⟨#[125]⟩ A5 (by decide)); rw [lst_125] at HC1; clear A5 hbt e1 e2 ck; go_wp2_with fail
   refine HC1.out.mono ?_; rintro r w5 ⟨rfl, A6⟩; have HA6 := hid' A6; clear A6 HA5 HC1 Rt yt; go_wp2_with fail
   go_end0; rw [HE2.out]; exact ⟨rfl, HA6.out.keep ((List.sublist_cons_self _ _).trans (List.sublist_cons_self _ _))⟩
 have e1 : ((U i).take 1000).length = (U i).length := by rw [List.length_take]; omega
 rw [e1] at Rt
 obtain ⟨q, hq⟩ : ∃ q, q = (U i).length := ⟨_, rfl⟩
 rw [← hq] at Rt ck
 have ck' : (q : Int) < 1000 := by omega
 obtain ⟨x, hx⟩ : ∃ x, it[i]? = some x := ⟨it[i], List.getElem?_eq_getElem hlt⟩
 have hgd : it.getD i O.nil = x := by rw [List.getD_eq_getElem?_getD, hx]; rfl
 have hxm := List.mem_of_getElem? hx; have hUx := HU1.out i; rw [hgd] at hUx; obtain ⟨m1, m2, m3, m4, m5, m6⟩ := row_item HCUR.out hx; have HI := hid' (HIH.out x hxm); obtain ⟨xk, xe, xn, xa, xl, xs⟩ := x; have hd := IntWalk.i64_in (deep + 1) (by omega)
 by_cases i0 : i = 0
 · subst i0; rw [if_pos rfl, List.nil_append] at hUx; have P3 := HI.out _ _ (U 0) A5; rw [← hUx] at P3; have HP3 := hid' P3
   (try clear Rg); (try clear yg); (try clear Zg)
   have Rg := cells_of (A5.box _ m0); have yg := blk_lt (A5.box _ m0)
   (try simp only at Rg yg)
   simp only [Nat.zero_mul, Nat.zero_add] at m1 m2 m3 m4 m5 m6; clear e1 hx hgd hxm hUx A5 P3 ck hbt hq HIH; go_wp2_with fail
   refine HP3.out.mono ?_; rintro r w5 ⟨rfl, A6⟩; have HA6 := hid' A6; clear A6 HA5 HP3 Rt yt Rg yg; go_wp2_with fail
   go_roundw
   case rel => exact ⟨0 + 1, by omega, by go_num, HA6.out⟩
   case measure => simp [intOf]; omega
 · have hi0 : ¬ (i : Int) = 0 := by omega
   have hip : (0 : Int) < i := by omega
   rw [if_neg i0] at hUx; have P3 := HPUT.out _ _ (U i) ⟨#[32]⟩ A5 (by decide); rw [lst_32] at P3; have HP3 := hid' P3
   have e3 : U (i + 1) = (U i ++ [32]) ++ T ⟨xk, xe, xn, xa, xl, xs⟩ := by rw [hUx, List.append_assoc]
   have HE3 := hid' e3; clear e1 hx hgd hxm hUx A5 P3 ck hbt hq HIH e3; go_wp2_with fail
   refine HP3.out.mono ?_; rintro r w5 ⟨rfl, A6⟩; have P4 := HI.out _ _ (U i ++ [32]) A6; rw [← HE3.out] at P4; have HP4 := hid' P4; have HA6 := hid' A6; clear HA5 HP3 Rt yt P4 HE3
   (try clear Rg); (try clear yg); (try clear Zg)
   have Rg := cells_of (A6.box _ m0); have yg := blk_lt (A6.box _ m0)
   (try simp only at Rg yg)
   clear A6; go_wp2_with fail
   refine HP4.out.mono ?_; rintro r w6 ⟨rfl, A7⟩; have HA7 := hid' A7; clear A7 HA6 HP4 Rg yg; go_wp2_with fail
   go_roundw
   case rel => exact ⟨i + 1, by omega, by go_num, HA7.out⟩
   case measure => simp [intOf]; omega
theorem rtell_bare (A : RTold w0 w gp M K L bt b) (hb : b.length ≤ 1000) (deep : Int) (o : O) (h : BareB o) :
 Calls Tryz.prog 53 #[ptr bt, ptr gp, o.val, .int .i64 deep] w fun r w' => r = .returned (.tuple #[]) ∧ RTold w0 w' gp M K L bt ((b ++ leafX L o).take 1000) := by
 rcases h with ⟨n, rfl, h1, h2⟩ | ⟨n, rfl, h1, h2⟩ | ⟨ex, s, rfl, h1⟩ | ⟨j, hj, rfl⟩
 · have h := rtell_3 A hb deep n h1 h2; rw [bytesB_lst] at h
   have e : leafX L ⟨3, false, n, 0, 0, ⟨#[]⟩⟩ = intL n := by unfold leafX; rw [if_neg (by show ¬ (3 : Int) = 7; decide), if_neg (by show ¬ (3 : Int) = 9; decide)]; rfl
   rw [e]; exact h
 · have h := rtell_4 A hb deep n h1 h2; rw [bytesB_lst] at h
   have e : leafX L ⟨4, false, n, 0, 0, ⟨#[]⟩⟩ = fixL n := by unfold leafX; rw [if_neg (by show ¬ (4 : Int) = 7; decide), if_neg (by show ¬ (4 : Int) = 9; decide)]; rfl
   rw [e]; exact h
 · cases ex with
   | true =>
    have e : leafX L ⟨5, true, 0, 0, 0, s⟩ = s.toList := by unfold leafX; rw [if_neg (by show ¬ (5 : Int) = 7; decide), if_neg (by show ¬ (5 : Int) = 9; decide)]; rfl
    rw [e]; exact rtell_5x A hb deep s (by omega)
   | false =>
    have e : leafX L ⟨5, false, 0, 0, 0, s⟩ = 47 :: s.toList := by unfold leafX; rw [if_neg (by show ¬ (5 : Int) = 7; decide), if_neg (by show ¬ (5 : Int) = 9; decide)]; rfl
    rw [e]; exact rtell_5 A hb deep s (by omega)
 · have e : leafX L (opO ((j : Int) + 1)) = opX j := by
    unfold leafX; rw [if_pos rfl, show ((j : Int) + 1 - 1).toNat = j by omega]
   rw [e]; exact rtell_7 A hb deep j hj
theorem leafX_str (H : List C) (lo : Nat) (s : ByteArray) (hx : bytesH H ⟨8, false, lo, 0, s.size, ⟨#[]⟩⟩ = (s, 0)) : leafX H ⟨8, false, lo, 0, s.size, ⟨#[]⟩⟩ = parenL s.toList := by
 unfold leafX wordO; rw [if_neg (by show ¬ (8 : Int) = 7; decide), if_neg (by show ¬ (8 : Int) = 9; decide), if_neg (by show ¬ (8 : Int) = 3; decide), if_neg (by show ¬ (8 : Int) = 4; decide), if_neg (by show ¬ (8 : Int) = 5; decide), hx]; rfl
theorem leafX_arr (H : List C) (m z : Int) : leafX H (arX m z) = [45, 97, 114, 114, 97, 121, 45] := by
 unfold leafX; rw [if_neg (by show ¬ (9 : Int) = 7; decide), if_pos rfl]
theorem rtell_tree (hL : L.length ≤ 2000) : ∀ (d' : Nat), d' ≤ 20 → ∀ (d lo hi : Nat) (o : O), TreeB L d lo o hi → ∀ (w : World) (K : List (Nat × Obj)) (b : List UInt8), RTold w0 w gp M K L bt b → b.length ≤ 1000 →
 Calls Tryz.prog 53 #[ptr bt, ptr gp, o.val, .int .i64 (20 - (d' : Int))] w fun r w' => r = .returned (.tuple #[]) ∧ RTold w0 w' gp M K L bt ((b ++ txtT L d' o).take 1000) := by
 intro d'
 induction d' with
 | zero =>
  intro _ d lo hi o ht w K b A hb; rw [txtT]
  rcases ht.cases with ⟨h, -⟩ | ⟨s, rfl, h2, h3, rfl⟩ | ⟨d2, xs, m, rfl, rfl, h2, h3, rfl, hf⟩
  · exact rtell_bare A hb _ o h
  · have hlt := (List.getElem?_eq_some_iff.1 h2).1; have hx := bytes_str L lo s false h2 (by omega) (by omega); rw [leafX_str L lo s hx]; exact rtell_8 A hb (20 - ((0 : Nat) : Int)) false lo 0 s.size ⟨#[]⟩ s 0 hx (by omega)
  · rw [leafX_arr]; have h := rtell_9d A hb (20 - ((0 : Nat) : Int)) (by omega) true m 0 xs.length ⟨#[]⟩; rw [ByteArray.toList_eq] at h; exact h
 | succ d' ihd =>
  intro hd d lo hi o ht w K b A hb; rw [txtT]
  rcases ht.cases with ⟨h, -⟩ | ⟨s, rfl, h2, h3, rfl⟩ | ⟨d2, xs, m, rfl, rfl, h2, h3, rfl, hf⟩
  · rw [if_neg (bare_9 h)]; exact rtell_bare A hb _ o h
  · have hlt := (List.getElem?_eq_some_iff.1 h2).1; have hx := bytes_str L lo s false h2 (by omega) (by omega); rw [if_neg (by show ¬ (8 : Int) = 9; decide), leafX_str L lo s hx]; exact rtell_8 A hb (20 - ((d' + 1 : Nat) : Int)) false lo 0 s.size ⟨#[]⟩ s 0 hx (by omega)
  · have hlt := (List.getElem?_eq_some_iff.1 h2).1; have hit := items_arX (N := m) h2 (by omega) (by omega) _ rfl; have hmay := ht.may hL; rw [if_pos rfl, hit]
    by_cases h0 : xs = []
    · subst h0; exact rtell_arr_none A hb _ (by omega) (by omega) m 0 _ ⟨#[]⟩ hmay hit
    · refine rtell_arr A hb _ (by omega) (by omega) m 0 _ ⟨#[]⟩ hmay hit (List.length_pos_iff.2 h0) (by omega) (txtT L d') fun x hx w K b A hb => ?_; obtain ⟨a, b', hx⟩ := hf.all x hx; have := ihd (by omega) d2 a b' x hx w K b A hb; rw [show (20 : Int) - (d' : Int) = 20 - ((d' + 1 : Nat) : Int) + 1 by omega] at this; exact this
theorem RS.told (T : RS [] w0 gp M K L w) : RTold w0 (w.alloc (outBox (.slice none 0 0))) gp M K L w.heap.size [] :=
 ⟨.slice none 0 0, [], .inl ⟨rfl, rfl, rfl, rfl⟩, T.alloc _⟩
set_option maxRecDepth 100000 in
set_option maxHeartbeats 1000000 in
theorem rfull_any (T : RS [] w0 gp M K L w) (o : O) (txt : List UInt8)
 (HT : ∀ w K bt, RTold w0 w gp M K L bt [] → Calls Tryz.prog 53 #[ptr bt, ptr gp, o.val, .int .i64 0] w fun r w' => r = .returned (.tuple #[]) ∧ RTold w0 w' gp M K L bt (txt.take 1000)) :
 Calls Tryz.prog 19 #[ptr gp, o.val] w fun r w' => r = .returned (.string ⟨(txt.take 1000).toArray⟩) ∧ RS [] w0 gp M K L w' := by
 have HTT := hid' HT; generalize txt.take 1000 = tx at *; obtain ⟨k, ex, n, a, l, s⟩ := o; have T1 := T.alloc (.cells #[.int .i64 k, .bool ex, .int .i64 n, .int .i64 a, .int .i64 l, .string s] 39); have T2 := T1.told; clear T HT; go_enter Tryz.func19, Tryz.ntmps19
 go_upto_region 1 with (fail)
 generalize hg : w.heap.size = b3 at *; generalize hW : w.alloc _ = w1 at *; clear hW hg; have HC := hid' (HTT.out _ _ _ T2)
 (try clear Ro); (try clear yo); (try clear Zo)
 have Ro := cells_of (T2.box _ m0); have yo := blk_lt (T2.box _ m0)
 (try simp only at Ro yo)
 have HT2 := hid' T2; clear T1 T2 HTT; go_wp2_with fail
 refine HC.out.mono ?_; rintro r w3 ⟨rfl, A3⟩; obtain ⟨v, R, hR, T3⟩ := A3; clear HC Ro yo HT2; have hv := own_strF (Ats.ownsG (T3.ats.perm (List.perm_middle (l₁ := R) (l₂ := (b3, Obj.cells #[.int .i64 k, .bool ex, .int .i64 n, .int .i64 a, .int .i64 l, .string s] 39) :: K) (a := (w1.heap.size, outBox v))).symm) hR)
 (try clear Ro); (try clear yo); (try clear Zo)
 have Ro := cells_of (T3.box _ m0); have yo := blk_lt (T3.box _ m0)
 (try simp only at Ro yo)
 have HA := hid' T3; clear T3 hR; go_wp2_with fail
 go_ret; refine ⟨rfl, HA.out.keep ?_⟩; exact ((List.sublist_cons_self _ K).trans (List.sublist_append_right R _)).trans (List.sublist_cons_self _ _)
theorem rfull_tree (T : RS [] w0 gp M K L w) (hL : L.length ≤ 2000) {d lo hi : Nat} (o : O) (ht : TreeB L d lo o hi) :
 Calls Tryz.prog 19 #[ptr gp, o.val] w fun r w' => r = .returned (.string ⟨((txtT L 20 o).take 1000).toArray⟩) ∧ RS [] w0 gp M K L w' :=
 rfull_any T o _ fun w K bt B => by
  have := rtell_tree (w0 := w0) (bt := bt) hL 20 (Nat.le_refl _) d lo hi o ht w K [] B (by simp); exact this
theorem rfull_nil (T : RS [] w0 gp M K L w) :
 Calls Tryz.prog 19 #[ptr gp, O.nil.val] w fun r w' => r = .returned (.string ⟨#[]⟩) ∧ RS [] w0 gp M K L w' := by
 have := rfull_any T O.nil [] fun w K bt B => by
  have := rtell_0 B (by simp) 0; rw [ByteArray.toList_eq] at this; exact this
 exact this
section
def BB (w0 w : World) (hp cp gp sp : Nat) (K : List (Nat × Obj)) (L1 L2 : List C) : Prop :=
 ∃ g cap cur, (dsQ 2).length ≤ cap ∧ cap ≤ maxLen ∧ cur.size = cap * 6 ∧ cur.toList.take ((dsQ 2).length * 6) = (dsQ 2).flatMap O.cells ∧
  RScp w0 w gp [(hp, L1)] ((g, .cells cur 39) :: (cp, scpBox hp g (dsQ 2).length cap) :: K) L2 sp (dsQ 2)
section
variable {w0 w w' : World} {hp cp gp sp : Nat} {K K' : List (Nat × Obj)} {L1 L1' L2 L2' : List C}
theorem BB.overP (S : BB w0 w hp cp gp sp K L1 L2) (h : ∀ a b, RScp w0 w gp [(hp, L1)] (a :: b :: K) L2 sp (dsQ 2) → RScp w0 w' gp [(hp, L1')] (a :: b :: K') L2' sp (dsQ 2)) : BB w0 w' hp cp gp sp K' L1' L2' := by
 obtain ⟨g, cap, cur, h1, h2, h3, h4, A⟩ := S; exact ⟨g, cap, cur, h1, h2, h3, h4, h _ _ A⟩
theorem BB.pure (S : BB w0 w hp cp gp sp K L1 L2) (X : Chg NoB w w') : BB w0 w' hp cp gp sp K L1 L2 := S.overP fun _ _ T => T.pure X
theorem BB.drew (S : BB w0 w hp cp gp sp K L1 L2) : BB w0 w.drew hp cp gp sp K L1 L2 := S.pure (Chg.refl NoB w).drew
theorem BB.alloc (S : BB w0 w hp cp gp sp K L1 L2) (o : Obj) : BB w0 (w.alloc o) hp cp gp sp ((w.heap.size, o) :: K) L1 L2 := S.overP fun _ _ T => (T.alloc o).perm (permX3 _ _ _ _)
theorem BB.keep (S : BB w0 w hp cp gp sp K L1 L2) (h : K'.Sublist K) : BB w0 w hp cp gp sp K' L1 L2 := S.overP fun _ _ T => T.keep ((h.cons_cons _).cons_cons _)
theorem BB.perm (S : BB w0 w hp cp gp sp K L1 L2) (h : K.Perm K') : BB w0 w hp cp gp sp K' L1 L2 := S.overP fun _ _ T => T.perm ((h.cons _).cons _)
theorem BB.box (S : BB w0 w hp cp gp sp K L1 L2) (q : Nat × Obj) (hq : q ∈ K) : w.heap[q.1]? = some q.2 := by
 obtain ⟨g, cap, cur, h1, h2, h3, h4, A⟩ := S; exact A.box q (List.mem_cons_of_mem _ (List.mem_cons_of_mem _ hq))
theorem BB.chg (S : BB w0 w hp cp gp sp K L1 L2) : Chg NoB w0 w := by
 obtain ⟨g, cap, cur, h1, h2, h3, h4, A⟩ := S; exact A.chg
def FindOk (Q : List DQ) (w0 : World) (hp cp : Nat) (K' : List (Nat × Obj)) : Prop :=
 ∀ X W E, Ats w0 W [(hp, hQ Q ++ X)] (E ++ K') → ∀ s : ByteArray, s.size ≤ 100 → Calls Tryz.prog 42 #[ptr cp, (exeN s).val] W fun r w' => (∃ d : O, r = .returned (.tuple #[(lookF Q s).1.val, d.val, .int .i64 (lookF Q s).2])) ∧ Ats w0 w' [(hp, hQ Q ++ X)] (E ++ K')
end
theorem q_gets (Q : List DQ) (hQ1 : OKQ Q) (hQ2 : 2 ≤ Q.length) (s : ByteArray) (hs : s.size ≤ 100) {w0 : World} {hp : Nat} {M : List (Nat × List C)} {X : List C} : ∀ d ∈ dsQ 2, ∀ w2 K2, Ats w0 w2 ((hp, hQ Q ++ X) :: M) K2 → Calls Tryz.prog 78 #[ptr hp, d.val, (nameO s).val] w2 fun x w' => x = .returned (.tuple #[(getQ Q (nameO s) d).1.val, .int .i64 (getQ Q (nameO s) d).2]) ∧ Ats w0 w' ((hp, hQ Q ++ X) :: M) K2 := by
 intro d hd w2 K2 A; obtain ⟨i, hi, rfl⟩ := List.mem_map.1 hd; have hi2 : i < Q.length := Nat.lt_of_lt_of_le (List.mem_range.1 hi) hQ2; obtain ⟨D, h1, h2, h3⟩ := q_at Q hQ1 i Q[i] (List.getElem?_eq_getElem hi2)
 have e : getQ Q (nameO s) (dcn i) = match getK Q[i].1 (nameO s) with | some v => (v, 0) | none => (O.nil, 9) := by
  have hq : Q.getD i ([], 0, false) = Q[i] := by rw [List.getD_eq_getElem?_getD, List.getElem?_eq_getElem hi2]; rfl
  simp only [getQ, Int.toNat_natCast, hq]
  cases getK Q[i].1 (nameO s) <;> rfl
 rw [e]
 cases hg : getK Q[i].1 (nameO s) with
 | none => exact at_dgetK A (List.mem_cons_self ..) i _ _ (D.app X) h1 h2 h3 (nameO s) (key_self _ s hs) O.nil 9 (.inr ⟨hg, rfl, rfl⟩)
 | some v => exact at_dgetK A (List.mem_cons_self ..) i _ _ (D.app X) h1 h2 h3 (nameO s) (key_self _ s hs) v 0 (.inl ⟨hg, rfl⟩)
theorem find_ok (Q : List DQ) (hQ1 : OKQ Q) (hQ2 : 2 ≤ Q.length) {w0 : World} {hp cp g cap : Nat} {cur : Array Value} {K' K1 : List (Nat × Obj)} (h1 : (dsQ 2).length ≤ cap) (h2 : cap ≤ maxLen) (h3 : cur.size = cap * 6) (h4 : cur.toList.take ((dsQ 2).length * 6) = (dsQ 2).flatMap O.cells)
 (hK : K'.Perm ((g, .cells cur 39) :: (cp, scpBox hp g (dsQ 2).length cap) :: K1)) : FindOk Q w0 hp cp K' := by
 intro X W E A s hs
 have hp1 : (E ++ K').Perm ((g, .cells cur 39) :: (cp, scpBox hp g (dsQ 2).length cap) :: (E ++ K1)) := (hK.append_left E).trans (by
  classical refine List.perm_iff_count.2 fun q => ?_
  simp only [List.count_append, List.count_cons]
  omega)
 have := scp_findQ (Qp := fun w' => Ats w0 w' [(hp, hQ Q ++ X)] (E ++ K')) (ds := dsQ 2) rfl h1 h2 h3 h4 (A.perm hp1) (fun w' A3 => A3.perm hp1.symm) (List.mem_cons_self ..) (by rw [dsQ_length]; decide) (exeN s) (key_name _ s true hs) (getQ Q (nameO s)) (q_gets Q hQ1 hQ2 s hs); rw [find_look] at this
 exact this.mono fun r w' ⟨e1, e2⟩ => ⟨⟨_, e1⟩, e2⟩
section
variable {w0 w w' : World} {hp cp gp sp : Nat} {K K' : List (Nat × Obj)} {L1 L1' L2 L2' : List C} {f : Nat} {args : Array Value} {r : Value}
theorem BB.prg {Post : Ending → List (Nat × Obj) → Prop} (Q : List DQ) (hQ1 : OKQ Q) (hQ2 : 2 ≤ Q.length) (S : BB w0 w hp cp gp sp K L1 L2)
 (h : ∀ K', FindOk Q w0 hp cp K' → Ats w0 w [(hp, L1)] K' → Calls Tryz.prog f args w fun e w' => ∃ R, Post e R ∧ Ats w0 w' [(hp, L1')] (R ++ K')) :
 Calls Tryz.prog f args w fun e w' => ∃ R, Post e R ∧ BB w0 w' hp cp gp sp (R ++ K) L1' L2 := by
 obtain ⟨g, cap, cur, h1, h2, h3, h4, g2, cap2, cur2, k1, k2, k3, k4, E, H, A⟩ := S
 refine (h _ (find_ok Q hQ1 hQ2 (g := g) (K1 := E ++ (g2, .cells cur2 39) :: (sp, .cells #[ptr gp, .slice (some ⟨g2, 0, none⟩) (dsQ 2).length cap2] 74) :: K) h1 h2 h3 h4 (by
  classical refine List.perm_iff_count.2 fun q => ?_
  simp only [List.count_append, List.count_cons]
  omega)) A).mono ?_
 rintro e w' ⟨R, hP, A'⟩; refine ⟨R, hP, g, cap, cur, h1, h2, h3, h4, g2, cap2, cur2, k1, k2, k3, k4, E, H, A'.perm ?_⟩
 classical refine List.perm_iff_count.2 fun q => ?_
 simp only [List.count_append, List.count_cons]; omega
theorem BB.prg1 (Q : List DQ) (hQ1 : OKQ Q) (hQ2 : 2 ≤ Q.length) (S : BB w0 w hp cp gp sp K L1 L2)
 (h : ∀ K', FindOk Q w0 hp cp K' → Ats w0 w [(hp, L1)] K' → Calls Tryz.prog f args w fun e w' => e = .returned r ∧ Ats w0 w' [(hp, L1')] K') :
 Calls Tryz.prog f args w fun e w' => e = .returned r ∧ BB w0 w' hp cp gp sp K L1' L2 := by
 refine (BB.prg (Post := fun e R => e = .returned r ∧ R = []) Q hQ1 hQ2 S fun K' F A => (h K' F A).mono fun e w' ⟨h1, h2⟩ => ⟨[], ⟨h1, rfl⟩, h2⟩).mono ?_; rintro e w' ⟨R, ⟨h1, rfl⟩, h2⟩; exact ⟨h1, h2⟩
theorem BB.ref {Post : Ending → List (Nat × Obj) → Prop} (S : BB w0 w hp cp gp sp K L1 L2)
 (h : ∀ K', RScp w0 w gp [(hp, L1)] K' L2 sp (dsQ 2) → Calls Tryz.prog f args w fun e w' => ∃ R, Post e R ∧ RScp w0 w' gp [(hp, L1)] (R ++ K') L2' sp (dsQ 2)) :
 Calls Tryz.prog f args w fun e w' => ∃ R, Post e R ∧ BB w0 w' hp cp gp sp (R ++ K) L1 L2' := by
 obtain ⟨g, cap, cur, h1, h2, h3, h4, T⟩ := S; refine (h _ T).mono ?_; rintro e w' ⟨R, hP, T'⟩; refine ⟨R, hP, g, cap, cur, h1, h2, h3, h4, T'.perm ?_⟩
 classical refine List.perm_iff_count.2 fun q => ?_
 simp only [List.count_append, List.count_cons]; omega
theorem BB.ref1 (S : BB w0 w hp cp gp sp K L1 L2)
 (h : ∀ K', RScp w0 w gp [(hp, L1)] K' L2 sp (dsQ 2) → Calls Tryz.prog f args w fun e w' => e = .returned r ∧ RScp w0 w' gp [(hp, L1)] K' L2' sp (dsQ 2)) :
 Calls Tryz.prog f args w fun e w' => e = .returned r ∧ BB w0 w' hp cp gp sp K L1 L2' := by
 obtain ⟨g, cap, cur, h1, h2, h3, h4, T⟩ := S
 exact (h _ T).mono fun e w' ⟨e1, T'⟩ => ⟨e1, g, cap, cur, h1, h2, h3, h4, T'⟩
theorem BB.rowOf {R : List (Nat × Obj)} {v : Value} {xs : List O} (S : BB w0 w hp cp gp sp (R ++ K) L1 L2) (hR : RowG 39 6 R v xs.length (xs.flatMap O.cells)) : RowOf w v xs.length xs := by
 rcases hR with ⟨rfl, h0, -, -⟩ | ⟨g, cap, cur, rfl, rfl, h1, h2, h3, h4, h5⟩
 · exact ⟨none, 0, by rw [h0], by omega, fun h => by omega⟩
 · refine ⟨_, _, rfl, h1, fun _ => ⟨g, cur, _, rfl, S.box (g, .cells cur 39) (by simp), fun m o ho j hj => ?_⟩⟩; have hm := (List.getElem?_eq_some_iff.1 ho).1; have e := flat_get O.cells 6 cells_length j hj xs m; rw [ho] at e; simp only [Option.bind_some] at e; rw [← e, ← h4, List.getElem?_take, if_pos (by omega), Array.getElem?_toList]
end
set_option maxRecDepth 100000 in
theorem bind_nil (hp cp : Nat) (w : World) : Calls Tryz.prog 16 #[ptr hp, ptr cp, O.nil.val] w fun r w' => r = .returned (.tuple #[.int .i64 0, .int .i64 6]) ∧ Chg NoB w w' := by
 rw [show O.nil = ⟨0, false, 0, 0, 0, ⟨#[]⟩⟩ from rfl]; have X1 := (Chg.refl NoB w).alloc (Obj.cells #[.int .i64 0, .bool false, .int .i64 0, .int .i64 0, .int .i64 0, .string ⟨#[]⟩] 39); go_enter Tryz.func16, Tryz.ntmps16
 go_wp2_with fail
 refine bodyPost_ret (v := .tuple #[.int .i64 0, .int .i64 6]) (by simp [results, Tryz.results16, go_sem]) rfl ⟨rfl, X1⟩
set_option maxRecDepth 100000 in
theorem rbind_nil (gp sp : Nat) (w : World) : Calls Tryz.prog 17 #[ptr gp, ptr sp, O.nil.val] w fun r w' => r = .returned (.tuple #[.int .i64 0, .int .i64 6]) ∧ Chg NoB w w' := by
 rw [show O.nil = ⟨0, false, 0, 0, 0, ⟨#[]⟩⟩ from rfl]; have X1 := (Chg.refl NoB w).alloc (Obj.cells #[.int .i64 0, .bool false, .int .i64 0, .int .i64 0, .int .i64 0, .string ⟨#[]⟩] 39); go_enter Tryz.func17, Tryz.ntmps17
 go_wp2_with fail
 refine bodyPost_ret (v := .tuple #[.int .i64 0, .int .i64 6]) (by simp [results, Tryz.results17, go_sem]) rfl ⟨rfl, X1⟩
end
end Go.Proofs.YtoogmimbmgdflaaGreat
