/- Parts of the proof: Utt, Vnf, Vnl, Vnm, Vnp. -/
import Derived.Test.YtpiomapnmempoaaGreatY38
import Derived.Test.YtpiomapnmempoaaGreatY40
import Derived.Test.YtpiomapnmempoaaGreatY41
import Derived.Test.YtpiomapnmempoaaGreatY42
namespace Go.Proofs.YtpiomapnmempoaaGreat
open Go.RowKit
variable {a v : O} {w w0 : World} {M : List (Nat × List C)} {K : List (Nat × Obj)} {N hp sp : Nat} {l : List O} {L L' : List C}
section
theorem kinds1 {k : Int} (h : isK k a.kind = true) : ∀ (i : Nat) (k' : Int) (o : O), ([k] : List Int)[i]? = some k' → [a][i]? = some o → isK k' o.kind = true := fun i k' o h1 h2 => by
 rcases i with _ | i
 · simp at h1 h2; subst h1 h2; exact h
 · simp at h1
theorem kinds2 {k l : Int} {b : O} (h : isK k a.kind = true) (h' : isK l b.kind = true) : ∀ (i : Nat) (k' : Int) (o : O), ([k, l] : List Int)[i]? = some k' → [a, b][i]? = some o → isK k' o.kind = true := fun i k' o h1 h2 => by
 rcases i with _ | _ | i
 · simp at h1 h2; subst h1 h2; exact h
 · simp at h1 h2; subst h1 h2; exact h'
 · simp at h1
theorem Gave.plain {w' : World} {cp wb n c : Nat} {ds : List O} {a : Option Addr} {e : Int} {r : Ending} (h : r = .returned (.int .i64 e) ∧ TabAt w0 w' M ((wb, wkBox hp cp sp (.slice a n c) (.slice none 0 0)) :: K) cp hp sp ds l) : Gave w0 M K cp hp sp ds l wb n [] e r w' :=
 ⟨h.1, a, c, _, [], h.2, .inl ⟨rfl, rfl⟩⟩
theorem may_iO (v : Int) (h : -2147483647 ≤ v) (h' : v ≤ 2147483647) : mayO (iO v) = true := by
 simp [mayO, eqO, bareO, O.nil]
 omega
section
variable {w0 w : World} {K : List (Nat × Obj)} {cp hp sp : Nat} {ds ds' l : List O} {L L' : List C} {M : List (Nat × List C)} {e : Int}
theorem td_def (a b : O) (S : TabAt w0 w ((hp, L) :: M) K cp hp sp ds (l ++ [a, b])) (ha : isK (-3) a.kind = true) (hb : isK (-1) b.kind = true) (hH : HeldAll L [a, b])
 (H : ∀ w2 K2, TabAt w0 w2 ((hp, L) :: M) K2 cp hp sp ds (l ++ [a, b]) → Calls Tryz.prog 225 #[ptr cp, a.val, b.val] w2 fun x w' => x = .returned (.int .i64 e) ∧ TabAt w0 w' ((hp, L') :: M) K2 cp hp sp ds' (l ++ [a, b])) :
 Calls Tryz.prog 134 #[ptr hp, ptr cp, ptr sp, .int .i64 62] w fun r w' => r = .returned (.int .i64 e) ∧ TabAt w0 w' ((hp, L') :: M) K cp hp sp ds' (if e = 0 then l else l ++ [a, b]) := by
 refine tdo_62 (gv := []) S m0 rfl (kinds2 ha hb) hH (fun w' K' wb g cur hc hg S' => (m_def S' m0 (List.mem_cons_of_mem _ hg) hc (fun w2 S2 => H w2 _ S2)).mono fun r w2 h => Gave.plain h) ?_
 by_cases he : e = 0
 · right
   subst he; refine ⟨rfl, by simp, ?_, fun o h => by simp at h⟩; have := S.len; simp at this ⊢
   omega
 · left
   exact ⟨he, by rw [if_neg he]⟩
theorem td_dict (a v : O) (S : TabAt w0 w ((hp, L) :: M) K cp hp sp ds (l ++ [a])) (ha : isK 8 a.kind = true) (hH : HeldAll L [a])
 (H : ∀ w2 K2, TabAt w0 w2 ((hp, L) :: M) K2 cp hp sp ds (l ++ [a]) → Calls Tryz.prog 35 #[ptr hp, .int .i64 a.n] w2 fun x w' => x = .returned (.tuple #[v.val, .int .i64 0]) ∧ TabAt w0 w' ((hp, L') :: M) K2 cp hp sp ds (l ++ [a])) (hv : mayO v = true) :
 Calls Tryz.prog 134 #[ptr hp, ptr cp, ptr sp, .int .i64 59] w fun r w' => r = .returned (.int .i64 0) ∧ TabAt w0 w' ((hp, L') :: M) K cp hp sp ds (l ++ [v]) :=
 tdo_59 (gv := [v]) S m0 rfl (kinds1 ha) hH (fun w' K' wb g cur hc hg S' => m_dict S' hg hc (fun w2 K2 S2 => H w2 K2 S2)) (.inr ⟨rfl, rfl, by have := S.len; simp at this ⊢; omega, fun o h => by rw [List.mem_singleton.1 h]; exact hv⟩)
end
end
section
theorem kN_name (s : ByteArray) (k : Int) (h : k = -3 ∨ k = -1) : isK k (nameO s).kind = true := by
 show isK k 5 = true
 rcases h with rfl | rfl <;> decide +kernel
theorem kN_int (n : Int) (k : Int) (h : k = 8 ∨ k = -1) : isK k (iO n).kind = true := by
 show isK k 3 = true
 rcases h with rfl | rfl <;> decide +kernel
theorem hN_two {b : O} (ha : isK 1792 a.kind = true → mayH L a = true) (hb : isK 1792 b.kind = true → mayH L b = true) : HeldAll L [a, b] := fun o ho h => by
 simp only [List.mem_cons, List.not_mem_nil, or_false] at ho
 rcases ho with rfl | rfl
 · exact ha h
 · exact hb h
theorem hN_one (ha : isK 1792 a.kind = true → mayH L a = true) : HeldAll L [a] := fun o ho h => by rw [List.mem_singleton.1 ho] at h ⊢; exact ha h
theorem hN_name (s : ByteArray) : isK 1792 (nameO s).kind = true → mayH L (nameO s) = true := fun h => absurd h (by show ¬ isK 1792 5 = true; decide +kernel)
theorem hN_int (n : Int) : isK 1792 (iO n).kind = true → mayH L (iO n) = true := fun h => absurd h (by show ¬ isK 1792 3 = true; decide +kernel)
theorem x_def (Q : List DQ) (X : List C) (h : OKQ Q) (n : Nat) (S : ScpAt w0 w ((hp, hQ Q ++ X) :: M) K sp hp (dsQ (n + 1))) (ps : List (O × O)) (room : Nat) (hq : Q[n]? = some (ps, room, false)) (hr : ps.length < room) (s : ByteArray) (hs : s.size ≤ 100) (v : O) (hv : mayH (hQ Q ++ X) v = true) :
 Calls Tryz.prog 225 #[ptr sp, (nameO s).val, v.val] w fun x w' => x = .returned (.int .i64 0) ∧ ScpAt w0 w' ((hp, hQ (Q.set n (setK ps (nameO s) v, room, false)) ++ X) :: M) K sp hp (dsQ (n + 1)) := by
 have h2 := h.2; have hl := (List.getElem?_eq_some_iff.1 hq).1; obtain ⟨D, b1, b2, b3⟩ := q_at Q h n _ hq; rw [dsQ_succ] at S ⊢
 have e : hQ (Q.set n (setK ps (nameO s) v, room, false)) ++ X = (hQ Q ++ X).set n (dcell (setK ps (nameO s) v) room) := by
  rw [hQ_set, List.set_append_left _ _ (by simpa [hQ] using hl)]
 rw [e]; exact scp_def S (by rw [dsQ_length]; omega) (nameO s) v (fun w2 K2 A => at_dsetK A n ps room (D.appX X) hr b2 b3 (nameO s) v (key_self _ s hs) hv (may_name _ s false hs))
section
variable {p : MP} {x y : MX} {F G : List Fr}
theorem mc_def (Q : List DQ) (X : List C) (n : Nat) (hL : x.L = hQ Q ++ X) (hds : x.ds = dsQ (n + 1)) (h : OKQ Q) (ps : List (O × O)) (room : Nat) (hq : Q[n]? = some (ps, room, false)) (hr : ps.length < room) (s : ByteArray) (hs : s.size ≤ 100) (v : O) (hv : mayH (hQ Q ++ X) v = true) (hk : isK (-1) v.kind = true) (l0 : List O) (hl : x.l = l0 ++ [nameO s, v]) :
 Mc p 121 #[ptr p.mp, .int .i64 62] (.int .i64 0) x F { x with L := hQ (Q.set n (setK ps (nameO s) v, room, false)) ++ X, l := l0 } F :=
 do_3 62 0 (fam_of (i := 61) (f := 3) (by decide +kernel)) fun w0 K w S => S.tab (ds' := x.ds) fun _ K' T => by
  rw [hL, hds, hl] at T; rw [hds]; have := td_def (e := 0) (L' := hQ (Q.set n (setK ps (nameO s) v, room, false)) ++ X) (ds' := dsQ (n + 1)) (nameO s) v T (kN_name s _ (.inl rfl)) hk (hN_two (hN_name s) (fun _ => hv)) (fun w2 K2 S2 => S2.scp (fun K3 S3 => x_def Q X h n S3 ps room hq hr s hs v hv)); rwa [if_pos rfl] at this
theorem mc_dict (k : Int) {L' : List C} {v : O} (hr : dictH x.L k = (L', v, 0)) (hv : mayO v = true) (l0 : List O) (hl : x.l = l0 ++ [iO k]) :
 Mc p 121 #[ptr p.mp, .int .i64 59] (.int .i64 0) x F { x with L := L', l := l0 ++ [v] } F :=
 do_3 59 0 (fam_of (i := 58) (f := 3) (by decide +kernel)) fun w0 K w S => S.tab (ds' := x.ds) fun _ K' T => by
  rw [hl] at T; exact td_dict (iO k) v T (kN_int k _ (.inl rfl)) (hN_one (hN_int k)) (fun w2 K2 S2 => S2.ask (fun K3 A => at_dnew A k hr)) hv
end
end
abbrev mkO : O := ⟨6, false, 0, 0, 0, ⟨#[]⟩⟩
set_option maxRecDepth 100000 in
theorem ar_mark (n : Int) (hn : n = 37 ∨ n = 38) (S : StkAt w0 w M K sp l) (hf : ∀ w, Calls Tryz.prog 131 #[.int .i64 n] w fun r w' => r = .returned (.int .i64 1) ∧ Chg NoB w w') (hl : l.length + 1 ≤ 200) :
 Calls Tryz.prog 132 #[ptr sp, .int .i64 n] w fun r w' => r = .returned (.int .i64 0) ∧ StkAt w0 w' M K sp (l ++ [mkO]) := by
 have HF := hid' hf; have HG := hid' (fun (W : World) (g : Nat) (K' : List (Nat × Obj)) (cur : Array Value) (hc : cur.toList = [mkO].flatMap O.cells) (S' : StkAt w0 W M ((g, .cells cur 49) :: K') sp (l ++ [])) => giveV S' hc 0 rfl 1 rfl hl (fun o ho => by rw [List.mem_singleton.1 ho]; decide +kernel)); rw [List.append_nil] at HG; clear hf hl
 rcases hn with rfl | rfl
 all_goals
  go_enter Tryz.func132, Tryz.ntmps132
  go_wp2_with fail
  refine (HF.out _).mono ?_; rintro r w1 ⟨rfl, X1⟩; have S1 := (S.pure X1).alloc (.cells #[.int .i64 6, .bool false, .int .i64 0, .int .i64 0, .int .i64 0, .string ⟨#[]⟩] 49); clear S X1; go_wp2_with fail
  refine (HG.out _ _ _ _ ?_ S1).mono ?_
  · rfl
  rintro r w8 ⟨rfl, S8⟩; go_wp2_with fail
  go_ret; exact ⟨rfl, S8⟩
theorem cut_fromV (g N cap i : Nat) (hi : i ≤ N) :
 ∃ off, (∀ W, (Instr.slice 44 (.slice (some ⟨g, 0, none⟩) N cap) (some (.int .i64 i)) none none).run Tryz.prog W = .ok (.slice (some ⟨g, off, none⟩) (N - i) (cap - i)) W) ∧ (cap ≠ i → off = i * 6) := by
 refine ⟨if cap = i then 0 else i * 6, fun W => ?_, fun h => if_neg h⟩; rw [run_slice_l (w := W) 44 (some ⟨g, 0, none⟩) N cap (by rw [Tryz.elemObjs]; exact Tryz.underObjs) .i64 i (by omega) (by omega), Tryz.elemObjs, sizeOf_obj]; simp only [Result.andThen_ok, sliced, Option.map_some, Int.toNat_natCast]; split
 · rfl
 · simp [Addr.add]
   exact fun h => h.symm
set_option maxRecDepth 100000 in
set_option maxHeartbeats 2000000 in
theorem bracketV {xs : List O} {mk : O} (S : StkAt w0 w ((hp, L) :: M) K sp (l ++ mk :: xs)) (hm : mk.kind = 6) (hx : ∀ o ∈ xs, ∃ v, o = iO v) (n : Nat) (hn : xs.length = n) (h1 : L.length < 2000) (h2 : used L + n ≤ 40000) :
 Calls Tryz.prog 158 #[ptr hp, ptr sp] w fun r w' => r = .returned (.int .i64 0) ∧ StkAt w0 w' ((hp, L ++ [rowC xs]) :: M) K sp (l ++ [arN L.length n]) := by
 have hlen := S.len
 have hl2 : (l ++ mk :: xs).length = l.length + 1 + n := by simp [hn]; omega
 have hmay := S.may; have hxm : ∀ o ∈ xs, mayO o = true := fun o ho => hmay o (List.mem_append_right _ (List.mem_cons_of_mem _ ho)); have HTM := hid' (fun (w' : World) (K' : List (Nat × Obj)) (S' : StkAt w0 w' ((hp, L) :: M) K' sp (l ++ mk :: xs)) => stk_tomark S' hm (fun o ho => by obtain ⟨v, rfl⟩ := hx o ho; show ¬ (3 : Int) = 6; decide) n hn); have HIT := hid' (fun (w' : World) (K' : List (Nat × Obj)) (S' : StkAt w0 w' ((hp, L) :: M) K' sp (l ++ mk :: xs)) => stk_items S' (by omega) (l.length + 1 + n) hl2); have HLE := hid' (fun (w' : World) (K' : List (Nat × Obj)) (S' : StkAt w0 w' ((hp, L) :: M) K' sp (l ++ mk :: xs)) => stk_len S'); rw [hl2] at HLE
 have hH : HeldAll L xs := fun o ho hk => by
  obtain ⟨v, rfl⟩ := hx o ho; exact absurd hk (by show ¬ isK 1792 3 = true; decide +kernel)
 have HHE := hid' (fun (w' : World) (g off cap : Nat) (cur : Array Value) (K' : List (Nat × Obj)) (hcap : n ≤ cap) (hc : ∀ m o, xs[m]? = some o → ∀ j, j < 6 → cur[off + m * 6 + j]? = o.cells[j]?) (S' : StkAt w0 w' ((hp, L) :: M) ((g, .cells cur 49) :: K') sp (l ++ mk :: xs)) =>
  hand_held (ops := xs) S' m0 n g cap cur off hn (by omega) hcap m0 hc (fun o ho => by obtain ⟨v, rfl⟩ := hx o ho; exact ⟨by show (0 : Int) ≤ 3; decide, by show (3 : Int) ≤ 12; decide⟩) hH)
 have har := array_a L n h1 h2; have HAR := hid' (fun (w' : World) (K' : List (Nat × Obj)) (S' : StkAt w0 w' ((hp, L) :: M) K' sp (l ++ mk :: xs)) => S'.ask (M' := (hp, L ++ [rowC (filled xs n 0)]) :: M) (r := .tuple #[(arN L.length n).val, .int .i64 0]) (fun K2 A => at_array A n (by rw [filled_none]; exact har)))
 have HSE := hid' (fun (k : Nat) (v : Int) (hk : xs[k]? = some (iO v)) (w' : World) (K' : List (Nat × Obj)) (S' : StkAt w0 w' ((hp, L ++ [rowC (filled xs n k)]) :: M) K' sp (l ++ mk :: xs)) => S'.ask (M' := (hp, L ++ [rowC (filled xs n (k + 1))]) :: M) (r := .int .i64 0) (fun K2 A => at_set A (arN L.length n) k (iO v) (by
  have hkl := (List.getElem?_eq_some_iff.1 hk).1; have := set_a (L := L ++ [rowC (filled xs n k)]) (N := L.length) (is := filled xs n k) (by simp) (by omega) (by rw [filled_length xs n k hn (by omega)]; omega) n (by rw [filled_length xs n k hn (by omega)]) k (by rw [filled_length xs n k hn (by omega)]; omega) (iO v) (may_int _ v (hxm _ (List.mem_of_getElem? hk)))
  rw [this, set_last, filled_set xs n k hn _ hk])))
 have HG := hid' (fun (W : World) (g : Nat) (K' : List (Nat × Obj)) (cur : Array Value) (hc : cur.toList = [arN L.length n].flatMap O.cells) (S' : StkAt w0 W ((hp, L ++ [rowC (filled xs n n)]) :: M) ((g, .cells cur 49) :: K') sp (l ++ mk :: xs)) => giveV S' hc (n + 1) (by simp [hn]) 1 rfl (by omega) (fun o ho => by
  simp only [List.mem_cons, List.not_mem_nil, or_false] at ho
  subst ho; exact mayO_arr _ _ (by omega) (by omega) (by omega) (by omega)))
 have HFA := hid' (filled_all xs n hn)
 have HXV := hid' (fun (k : Nat) (hk : k < n) => (show ∃ v, xs[k]? = some (iO v) by
  have hlt : k < xs.length := by omega
  obtain ⟨v, hv⟩ := hx _ (List.getElem_mem hlt)
  exact ⟨v, by rw [List.getElem?_eq_getElem hlt, hv]⟩))
 have HFL := hid' (fun (m j : Nat) (o : O) (hj : j < 6) (h : xs[m]? = some o) => (show ((l ++ mk :: xs).flatMap O.cells)[(l.length + 1 + m) * 6 + j]? = o.cells[j]? from
  flat_at _ _ j o (by rw [List.getElem?_append_right (by omega), show l.length + 1 + m - l.length = m + 1 by omega, List.getElem?_cons_succ]; exact h) hj))
 have HXN := hid' hn
 obtain ⟨len, hle⟩ : ∃ len : Nat, l.length + 1 = len := ⟨_, rfl⟩
 rw [hle] at HIT HLE HFL
 have hq : len + n ≤ 200 := by omega
 have hq0 : 0 < len := by omega
 have e1 : ((len + n : Nat) : Int) - n = len := by omega
 have e2 : (len : Int) + n - n = len := by omega
 have v1 := IntWalk.i64_in ((n : Int) + 1) (by omega)
 have i1 : (n : Int) ≤ 200 := by omega
 generalize (L.length : Int) = NL at *; clear hlen hl2 hmay hxm hH har h1 h2 hx hn hm hle; generalize hlo : l ++ mk :: xs = lo at *; clear hlo; go_enter Tryz.func158, Tryz.ntmps158
 go_wp2_with fail
 refine (HTM.out _ _ S).mono ?_; rintro r w2 ⟨rfl, S2⟩; clear S HTM; go_wp2_with fail
 refine (HIT.out _ _ S2).mono ?_; rintro r w3 ⟨g, cap, cur, rfl, hcap, S3, hcur⟩; clear S2 HIT; obtain ⟨off, hsl, hoff⟩ := cut_fromV g (len + n) cap len (by omega); rw [show len + n - len = n by omega] at hsl
 have hc2 : ∀ m o, xs[m]? = some o → ∀ j, j < 6 → cur[off + m * 6 + j]? = o.cells[j]? := fun m o h j hj => by
  have hmn : m < n := by rw [← HXN.out]; exact (List.getElem?_eq_some_iff.1 h).1
  rw [hoff (by omega), show len * 6 + m * 6 + j = (len + m) * 6 + j by omega, hcur _ (by omega)]; exact HFL.out m j o hj h
 have HC2 := hid' hc2; have HCP := hid' (show n ≤ cap - len by omega); clear hc2 hcur hoff HFL HXN hcap; go_wp2_with fail
 refine (HLE.out _ _ S3).mono ?_; rintro r w4 ⟨rfl, rfl⟩; go_wp2_with fail
 refine (HHE.out _ _ _ _ _ _ HCP.out HC2.out S3).mono ?_; rintro r w5 ⟨rfl, S4⟩; clear S3 hsl HHE HLE; go_wp2_with fail
 refine (HAR.out _ _ S4).mono ?_; rintro r w6 ⟨rfl, S5⟩; have S6 := S5.alloc (.cells #[.int .i64 9, .bool false, .int .i64 NL, .int .i64 0, .int .i64 n, .string ⟨#[]⟩] 49); generalize hg : w6.heap.size = g6 at *; clear S4 HAR
 go_upto_region 11 with (fail)
 generalize hW : w6.alloc _ = w7 at *; clear hW hg S5
 obtain ⟨KB, hKB⟩ : ∃ KB, KB = (g6, Obj.cells #[.int .i64 9, .bool false, .int .i64 NL, .int .i64 0, .int .i64 n, .string ⟨#[]⟩] 49) :: (g, Obj.cells cur 49) :: K := ⟨_, rfl⟩
 have nO : (g6, Obj.cells #[.int .i64 9, .bool false, .int .i64 NL, .int .i64 0, .int .i64 n, .string ⟨#[]⟩] 49) ∈ KB := by rw [hKB]; exact m0
 have nG : (g, Obj.cells cur 49) ∈ KB := by rw [hKB]; exact m1
 rw [← hKB] at S6; have HKB := hid' hKB; clear hKB; go_wp2_with fail
 go_loopw [43] (fun cv wr => ∃ k : Nat, k ≤ n ∧ cv = .int .i64 k ∧ StkAt w0 wr ((hp, L ++ [rowC (filled xs n k)]) :: M) KB sp lo) (fun cv _ => n - (intOf cv).toNat)
 case atStart => exact ⟨0, Nat.zero_le _, rfl, S6⟩
 case round =>
  obtain ⟨k, hk, rfl, S7⟩ := hrel; clear S6
  by_cases hlt : k < n
  · obtain ⟨v, hv⟩ := HXV.out k hlt; have HSV := hid' (HSE.out k v hv); have q0 := HC2.out k _ hv 0 (by decide); have q1 := HC2.out k _ hv 1 (by decide); have q2 := HC2.out k _ hv 2 (by decide); have q3 := HC2.out k _ hv 3 (by decide); have q4 := HC2.out k _ hv 4 (by decide); have q5 := HC2.out k _ hv 5 (by decide); simp only [O.cells, List.getElem?_cons_zero, List.getElem?_cons_succ, Nat.add_zero] at q0 q1 q2 q3 q4 q5
    have dl : (k : Int) < n := by omega
    have RG := cells_of (S7.box _ nG); have RO := cells_of (S7.box _ nO); have lG := blk_lt (S7.box _ nG); have lO := blk_lt (S7.box _ nO); simp only at RG RO lG lO; clear hv HSE HG; go_wp2_with fail
    refine (HSV.out _ _ (S7.alloc _)).mono ?_; rintro r w9 ⟨rfl, S8⟩; go_wp2_with fail
    go_roundw
    case rel => exact ⟨k + 1, by omega, by go_num, S8.keep (List.sublist_cons_self _ _)⟩
    case measure => simp [intOf]; omega
  · obtain rfl : k = n := by omega
    have RO := cells_of (S7.box _ nO); have lO := blk_lt (S7.box _ nO); simp only at RO lO; clear HSE; go_wp2_with fail
    refine (HG.out _ _ _ _ ?_ (S7.alloc _)).mono ?_
    · rfl
    rintro r w9 ⟨rfl, S8⟩; go_wp2_with fail
    go_ret; rw [HFA.out] at S8; exact ⟨rfl, S8.keep (by rw [HKB.out]; exact ((List.sublist_cons_self _ _).trans (List.sublist_cons_self _ _)))⟩
section
set_option maxRecDepth 100000 in
set_option maxHeartbeats 4000000 in
theorem m_where9 {cp wb g : Nat} {ds : List O} {d : O} {cur : Array Value} (S : TabAt w0 w M ((wb, wkBox hp cp sp (.slice (some ⟨g, 0, none⟩) 1 1) (.slice none 0 0)) :: K) cp hp sp ds l) (hg : (g, .cells cur 49) ∈ K) (hc : cur.toList = [a].flatMap O.cells)
 (H : ∀ w' K', TabAt w0 w' M K' cp hp sp ds l → Calls Tryz.prog 69 #[ptr cp, a.val] w' fun r w2 => r = .returned (.tuple #[v.val, d.val, .int .i64 9]) ∧ TabAt w0 w2 M K' cp hp sp ds l) :
 Calls Tryz.prog 168 #[ptr wb] w (Gave w0 M K cp hp sp ds l wb 1 [bO false] 0) := by
 obtain ⟨q0, q1, q2, q3, q4, q5⟩ := at6a hc; obtain ⟨ak, ax, an, ap, al, aS⟩ := a; obtain ⟨vk, vx, vn, vp, vl, vs⟩ := v; obtain ⟨uk, ux, un, up, ul, us⟩ := d; simp only at q0 q1 q2 q3 q4 q5
 obtain ⟨KB, hKB⟩ : ∃ KB, KB = (wb, wkBox hp cp sp (.slice (some ⟨g, 0, none⟩) 1 1) (.slice none 0 0)) :: K := ⟨_, rfl⟩
 have hw : (wb, wkBox hp cp sp (.slice (some ⟨g, 0, none⟩) 1 1) (.slice none 0 0)) ∈ KB := by rw [hKB]; exact m0
 have hg' : (g, Obj.cells cur 49) ∈ KB := by rw [hKB]; exact List.mem_cons_of_mem _ hg
 rw [← hKB] at S; have HKB := hid' hKB; have HH := hid' H; have HS := hid' S; have HA1 : Hid (∀ o, TabAt w0 (w.alloc o).drew M ((w.heap.size, o) :: KB) cp hp sp ds l) := hid' (fun o => (S.alloc o).drew)
 have HA2 : Hid (∀ o o', TabAt w0 ((w.alloc o).alloc o').drew M ((w.heap.size + 1, o') :: (w.heap.size, o) :: KB) cp hp sp ds l) := hid' (fun o o' => by
  have h := ((S.alloc o).alloc o').drew
  rwa [World.size_alloc] at h)
 have RW := TB.cells (w0 := w0) (cp := cp) (hp := hp) (sp := sp) hw; have RG := TB.cells (w0 := w0) (cp := cp) (hp := hp) (sp := sp) hg'; have lw := blk_lt (S.box _ hw); have lg := blk_lt (S.box _ hg'); simp only at lw lg; have hS1 := TB.of S; clear H hw hg hg' S hc hKB; go_enter Tryz.func168, Tryz.ntmps168
 go_wp2_with fail
 go_cut [3, 4, 5] (fun s3 s4 s5 wx => LC w0 M KB cp hp sp ds l ⟨vk, vx, vn, vp, vl, vs⟩ ⟨uk, ux, un, up, ul, us⟩ 9 s3 s4 s5 wx)
 case first =>
  go_region_held3 (fun W' => TB w0 cp hp sp KB W') (first | (with_reducible assumption) | (with_reducible exact TB.of S4) | (with_reducible exact TB.more S4) | (with_reducible exact TB.more2 S4) | (with_reducible exact TB.drew (by with_reducible assumption)) | (with_reducible exact TB.alloc (by with_reducible assumption) _) | (with_reducible exact TB.alloc (TB.of S4) _) | (with_reducible exact TB.alloc (TB.more S4) _) | (with_reducible exact TB.alloc (TB.alloc (TB.of S4) _) _) | (with_reducible exact TB.drew (TB.alloc (by with_reducible assumption) _)) | (with_reducible exact TB.drew (TB.alloc (TB.alloc (by with_reducible assumption) _) _)))
   ((go_at_call 69; refine (HH.out _ _ (by first | (with_reducible exact HS.out.drew) | (with_reducible exact HA1.out _) | (with_reducible exact HA2.out _ _) | (with_reducible exact HS.out))).mono ?_; rintro r w4 ⟨rfl, S4⟩; (try (with_reducible have yz : w.heap.size < w4.heap.size := blk_lt (S4.box _ m0))); (try (with_reducible have Rz : ∀ i, w4.cell? ⟨w.heap.size, i, none⟩ = #[Value.int .i64 0, .bool false, .int .i64 0, .int .i64 0, .int .i64 0, .string ⟨#[]⟩][i]? := cells_of (S4.box _ m0))); (try (with_reducible have Zz : ∀ i, w4.frozen? ⟨w.heap.size, i, none⟩ = false := free_of (S4.box _ m0))); (try (with_reducible have yz : w.heap.size < w4.heap.size := blk_lt (S4.box _ m1))); (try (with_reducible have Rz : ∀ i, w4.cell? ⟨w.heap.size, i, none⟩ = #[Value.int .i64 0, .bool false, .int .i64 0, .int .i64 0, .int .i64 0, .string ⟨#[]⟩][i]? := cells_of (S4.box _ m1))); (try (with_reducible have Zz : ∀ i, w4.frozen? ⟨w.heap.size, i, none⟩ = false := free_of (S4.box _ m1))); (try (with_reducible have yx : w.heap.size + 1 < w4.heap.size := blk_lt (S4.box _ m0))); (try (with_reducible have Rx : ∀ i, w4.cell? ⟨w.heap.size + 1, i, none⟩ = #[Value.int .i64 0, .bool false, .int .i64 0, .int .i64 0, .int .i64 0, .string ⟨#[]⟩][i]? := cells_of (S4.box _ m0))); (try (with_reducible have Zx : ∀ i, w4.frozen? ⟨w.heap.size + 1, i, none⟩ = false := free_of (S4.box _ m0))); (try (with_reducible have t1 := TB.more (S4.putO vk vx vn vp vl vs))); (try (with_reducible have t2 := TB.more (S4.putO uk ux un up ul us))); (try (with_reducible have t3 := TB.more2 ((S4.perm (List.Perm.swap _ _ _)).putO vk vx vn vp vl vs))); (try (with_reducible have t4 := TB.more2 (S4.two_old vk vx vn vp vl vs uk ux un up ul us))); (try (with_reducible have t5 := TB.more2 (S4.putO vk vx vn vp vl vs))); (try (with_reducible have t6 := TB.more2 (S4.two_new vk vx vn vp vl vs uk ux un up ul us)))))
  all_goals
   go_wp2_with fail
   go_meet
  · have S5 := (S4.alloc (Obj.cells #[.int .i64 vk, .bool vx, .int .i64 vn, .int .i64 vp, .int .i64 vl, .string vs] 49)).alloc (Obj.cells #[.int .i64 uk, .bool ux, .int .i64 un, .int .i64 up, .int .i64 ul, .string us] 49); simp only [World.size_alloc] at S5; exact ⟨rfl, _, _, rfl, rfl, S5.perm (List.Perm.swap _ _ _)⟩
  · have S5 := (S4.alloc (Obj.cells #[.int .i64 uk, .bool ux, .int .i64 un, .int .i64 up, .int .i64 ul, .string us] 49)).alloc (Obj.cells #[.int .i64 vk, .bool vx, .int .i64 vn, .int .i64 vp, .int .i64 vl, .string vs] 49); simp only [World.size_alloc] at S5; exact ⟨rfl, _, _, rfl, rfl, S5⟩
  · have S5 := (S4.putO vk vx vn vp vl vs).alloc (Obj.cells #[.int .i64 uk, .bool ux, .int .i64 un, .int .i64 up, .int .i64 ul, .string us] 49); simp only [World.size_setCell] at S5; exact ⟨rfl, _, _, rfl, rfl, S5.perm (List.Perm.swap _ _ _)⟩
  · exact ⟨rfl, _, _, rfl, rfl, S4.two_old vk vx vn vp vl vs uk ux un up ul us⟩
  · have S5 := (S4.putO uk ux un up ul us).alloc (Obj.cells #[.int .i64 vk, .bool vx, .int .i64 vn, .int .i64 vp, .int .i64 vl, .string vs] 49); simp only [World.size_setCell] at S5; exact ⟨rfl, _, _, rfl, rfl, S5⟩
  · exact ⟨rfl, _, _, rfl, rfl, S4.two_new vk vx vn vp vl vs uk ux un up ul us⟩
 case rest =>
  obtain ⟨rfl, q, p, rfl, rfl, S4⟩ := hcut; have S4 : TabAt w0 _ M ((q, Obj.cells #[.int .i64 vk, .bool vx, .int .i64 vn, .int .i64 vp, .int .i64 vl, .string vs] 49) :: (p, Obj.cells #[.int .i64 uk, .bool ux, .int .i64 un, .int .i64 up, .int .i64 ul, .string us] 49) :: KB) cp hp sp ds l := S4; rw [HKB.out] at S4; clear HH HS HA1 HA2 RW RG lw lg hS1; go_wp2_with fail
  refine (truth20 false _).mono ?_; rintro r w5 ⟨rfl, X5⟩; have S5 := S4.pure X5; have S6 := (S5.alloc (.cells (bO false).cells.toArray 49)).perm (List.perm_middle (l₁ := [_, _, _])); clear S5 X5; go_wp2_with fail
  refine (give_any S6 _ 1 1).mono ?_; rintro r w6 ⟨rfl, S7⟩; go_wp2_with fail
  go_ret; exact ⟨rfl, _, _, _, [_, _, _], S7, .inr ⟨_, _, 1, rfl, m0, rfl, rfl⟩⟩
section
variable {p : MP} {x y : MX} {F G : List Fr}
theorem mc_where9 (Q : List DQ) (X : List C) (n : Nat) (hL : x.L = hQ Q ++ X) (hds : x.ds = dsQ n) (h : OKQ Q) (h0 : 0 < n) (hn : n ≤ Q.length) (s : ByteArray) (hs : s.size ≤ 100) {v d : O} (hlk : lookN Q (nameO s) n = (v, d, 9)) (l0 : List O) (hl : x.l = l0 ++ [nameO s]) :
 Mc p 121 #[ptr p.mp, .int .i64 67] (.int .i64 0) x F { x with l := l0 ++ [bO false] } F :=
 do_3 67 0 (fam_of (i := 66) (f := 3) (by decide +kernel)) fun w0 K w S => S.tab (L' := x.L) (ds' := x.ds) (l' := l0 ++ [bO false]) fun _ K' T => by
  rw [hL, hds, hl] at T; rw [hL, hds]; have hlen := T.len; simp only [List.length_append, List.length_cons, List.length_nil] at hlen
  exact tdo_67 (gv := [bO false]) T m0 rfl (kindsA (kN_name s _ (.inl rfl))) (hN_one (hN_name s)) (fun w' K2 wb g cur hc hg S' => m_where9 (v := v) (d := d) S' hg hc (fun w2 K3 S2 => S2.scp fun K4 S4 => by
   have := scp_find S4 (List.mem_cons_self ..) (by rw [dsQ_length]; have := h.2; omega) (by rw [dsQ_length]; exact h0) (nameO s) (key_self _ s hs) (getQ Q (nameO s)) (x_gets Q h n hn s hs); rw [find_look, hlk] at this
   exact this)) (.inr ⟨rfl, rfl, by simp; omega, fun o ho => by rw [List.mem_singleton.1 ho]; decide +kernel⟩)
theorem mc_mark (hl : x.l.length + 1 ≤ 200) :
 Mc p 121 #[ptr p.mp, .int .i64 37] (.int .i64 0) x F { x with l := x.l ++ [mkO] } F :=
 do_1 37 0 (fam_of (i := 36) (f := 1) (by decide +kernel)) fun w0 K w S => S.tab (L' := x.L) (ds' := x.ds) fun _ K' T => T.stk fun K2 S2 => ar_mark 37 (.inl rfl) S2 (fam_of (i := 36) (f := 1) (by decide +kernel)) hl
theorem mc_bracket (l0 xs : List O) (hl : x.l = l0 ++ mkO :: xs) (hx : ∀ o ∈ xs, ∃ v, o = iO v) (n : Nat) (hn : xs.length = n) (h1 : x.L.length < 2000) (h2 : used x.L + n ≤ 40000) :
 Mc p 121 #[ptr p.mp, .int .i64 57] (.int .i64 0) x F { x with L := x.L ++ [rowC xs], l := l0 ++ [arN x.L.length n] } F :=
 do_2 57 0 (fam_of (i := 56) (f := 2) (by decide +kernel)) fun w0 K w S => S.tab (ds' := x.ds) fun _ K' T => T.stk fun K2 S2 => by
  rw [hl] at S2; exact sdn_57 (fam_of (i := 56) (f := 2) (by decide +kernel)) S2 fun w' S3 => bracketV S3 rfl hx n hn h1 h2
theorem mc_put_row (a : O) (i : Int) (v : O) (ha : a.kind = 8 ∨ a.kind = 9) (l0 : List O) (hl : x.l = l0 ++ [a, iO i, v]) (hma : mayH x.L a = true) (hmv : isK 1792 v.kind = true → mayH x.L v = true) {L' : List C} (hs : setH x.L a i v = (L', 0)) :
 Mc p 121 #[ptr p.mp, .int .i64 50] (.int .i64 0) x F { x with L := L', l := l0 } F :=
 do_2 50 0 (fam_of (i := 49) (f := 2) (by decide +kernel)) fun w0 K w S => S.tab (ds' := x.ds) fun _ K' T => T.stk fun K2 S2 => by
  rw [hl] at S2
  exact sdn_50 (fam_of (i := 49) (f := 2) (by decide +kernel)) S2 fun w' S3 => seq_put_row a (iO i) v S3 ha rfl (fun o ho hk => by
   simp only [List.mem_cons, List.not_mem_nil, or_false] at ho
   rcases ho with rfl | rfl | rfl
   · exact hma
   · exact absurd hk (by show ¬ isK 1792 3 = true; decide +kernel)
   · exact hmv hk) (fun W K' A => at_set A a i v hs)
theorem mc_get_row (a : O) (i : Int) (v : O) (ha : a.kind = 8 ∨ a.kind = 9) (l0 : List O) (hl : x.l = l0 ++ [a, iO i]) (hma : mayH x.L a = true) (hmv : mayO v = true) (hs : getH x.L a i = (v, 0)) :
 Mc p 121 #[ptr p.mp, .int .i64 49] (.int .i64 0) x F { x with l := l0 ++ [v] } F :=
 do_2 49 0 (fam_of (i := 48) (f := 2) (by decide +kernel)) fun w0 K w S => S.tab (L' := x.L) (ds' := x.ds) fun _ K' T => T.stk fun K2 S2 => by
  rw [hl] at S2
  exact sdn_49 (fam_of (i := 48) (f := 2) (by decide +kernel)) S2 fun w' S3 => seq_get_row a (iO i) S3 v hmv ha rfl (fun o ho hk => by
   simp only [List.mem_cons, List.not_mem_nil, or_false] at ho
   rcases ho with rfl | rfl
   · exact hma
   · exact absurd hk (by show ¬ isK 1792 3 = true; decide +kernel)) (fun W K' A => at_get A a i hs (List.mem_cons_self ..))
theorem mc_put_dic (a k v : O) (ha : a.kind = 10) (l0 : List O) (hl : x.l = l0 ++ [a, k, v]) (hma : mayH x.L a = true) (hmk : isK 1792 k.kind = true → mayH x.L k = true) (hmv : isK 1792 v.kind = true → mayH x.L v = true) {L' : List C}
 (hs : ∀ w0 W M K', Ats w0 W ((p.hp, x.L) :: M) K' → Calls Tryz.prog 38 #[ptr p.hp, a.val, k.val, v.val] W fun r w' => r = .returned (.int .i64 0) ∧ Ats w0 w' ((p.hp, L') :: M) K') :
 Mc p 121 #[ptr p.mp, .int .i64 50] (.int .i64 0) x F { x with L := L', l := l0 } F :=
 do_2 50 0 (fam_of (i := 49) (f := 2) (by decide +kernel)) fun w0 K w S => S.tab (ds' := x.ds) fun _ K' T => T.stk fun K2 S2 => by
  rw [hl] at S2
  exact sdn_50 (fam_of (i := 49) (f := 2) (by decide +kernel)) S2 fun w' S3 => seq_put_dic a k v S3 ha (fun o ho hk => by
   simp only [List.mem_cons, List.not_mem_nil, or_false] at ho
   rcases ho with rfl | rfl | rfl
   · exact hma
   · exact hmk hk
   · exact hmv hk) (fun W K' A => hs _ _ _ _ A)
theorem mc_get_dic (a k v : O) (ha : a.kind = 10) (l0 : List O) (hl : x.l = l0 ++ [a, k]) (hma : mayH x.L a = true) (hmk : isK 1792 k.kind = true → mayH x.L k = true) (hmv : mayO v = true)
 (hs : ∀ w0 W M K', Ats w0 W ((p.hp, x.L) :: M) K' → Calls Tryz.prog 100 #[ptr p.hp, a.val, k.val] W fun r w' => r = .returned (.tuple #[v.val, .int .i64 0]) ∧ Ats w0 w' ((p.hp, x.L) :: M) K') :
 Mc p 121 #[ptr p.mp, .int .i64 49] (.int .i64 0) x F { x with l := l0 ++ [v] } F :=
 do_2 49 0 (fam_of (i := 48) (f := 2) (by decide +kernel)) fun w0 K w S => S.tab (L' := x.L) (ds' := x.ds) fun _ K' T => T.stk fun K2 S2 => by
  rw [hl] at S2
  exact sdn_49 (fam_of (i := 48) (f := 2) (by decide +kernel)) S2 fun w' S3 => seq_get_dic a k S3 v hmv ha (fun o ho hk => by
   simp only [List.mem_cons, List.not_mem_nil, or_false] at ho
   rcases ho with rfl | rfl
   · exact hma
   · exact hmk hk) (fun W K' A => hs _ _ _ _ A)
end
end
noncomputable def qU (ps : List (O × O)) : List DQ := [(sysK 162, 162, true), (ps, 200, false)]
noncomputable def LU (ps : List (O × O)) (X : List C) : List C := hQ (qU ps) ++ X
theorem qU_ok (ps : List (O × O)) (h : ps.length ≤ 200) : OKQ (qU ps) := by
 refine ⟨fun q hq => ?_, by simp [qU]⟩; simp only [qU, List.mem_cons, List.not_mem_nil, or_false] at hq
 rcases hq with rfl | rfl
 · simp only [sysK_length]; decide
 · simp only; omega
theorem hQU_len (ps : List (O × O)) : (hQ (qU ps)).length = 2 := by rw [hQ, List.length_map]; rfl
theorem LU_len (ps : List (O × O)) (X : List C) : (LU ps X).length = 2 + X.length := by rw [LU, List.length_append, hQU_len]
theorem LU_at (ps : List (O × O)) (X : List C) (j : Nat) : (LU ps X)[2 + j]? = X[j]? := by
 rw [LU, List.getElem?_append_right (by rw [hQU_len]; omega), hQU_len, Nat.add_sub_cancel_left]
theorem LU_set (ps : List (O × O)) (X : List C) (j : Nat) (c : C) : (LU ps X).set (2 + j) c = LU ps (X.set j c) := by
 rw [LU, List.set_append_right _ _ (by rw [hQU_len]; omega), hQU_len, Nat.add_sub_cancel_left]; rfl
theorem LU_app (ps : List (O × O)) (X : List C) (c : C) : LU ps X ++ [c] = LU ps (X ++ [c]) := by rw [LU, List.append_assoc]; rfl
theorem LU_used (ps : List (O × O)) (X : List C) (h : ps.length ≤ 200) : used (LU ps X) = 726 + used X := by
 have h1 : hQ (qU ps) = [dcellk true (sysK 162) 162] ++ [dcellk false ps 200] := by simp [hQ, qU]
 rw [LU, used_cat', h1, used_cat', used_dc _ _ _ (by rw [sysK_length]; decide), used_dc _ _ _ h]
theorem look_U (ps : List (O × O)) (s : ByteArray) (v : O) (h : getK ps (nameO s) = some v) : lookN (qU ps) (nameO s) 2 = (v, dcn 1, 0) := by
 show (match getK ps (nameO s) with | some v => (v, dcn 1, (0 : Int)) | none => lookN (qU ps) (nameO s) 1) = _; rw [h]
theorem look_Uop (ps : List (O × O)) (s : ByteArray) (i : Nat) (hi : i < 162) (hs : s = opN ((i : Int) + 1)) (h : getK ps (nameO s) = none) : lookN (qU ps) (nameO s) 2 = (opO ((i : Int) + 1), dcn 0, 0) := by
 show (match getK ps (nameO s) with | some v => (v, dcn 1, (0 : Int)) | none => lookN (qU ps) (nameO s) 1) = _; rw [h]; show (match getK (sysK 162) (nameO s) with | some v => (v, dcn 0, (0 : Int)) | none => lookN (qU ps) (nameO s) 0) = _; rw [hs, sysK_get 162 i hi (Nat.le_refl _)]
theorem look_U0 (ps : List (O × O)) (s : ByteArray) (h : getK ps (nameO s) = none) (h2 : getK (sysK 162) (nameO s) = none) : lookN (qU ps) (nameO s) 2 = (O.nil, O.nil, 9) := by
 show (match getK ps (nameO s) with | some v => (v, dcn 1, (0 : Int)) | none => lookN (qU ps) (nameO s) 1) = _; rw [h]; show (match getK (sysK 162) (nameO s) with | some v => (v, dcn 0, (0 : Int)) | none => lookN (qU ps) (nameO s) 0) = _; rw [h2]; rfl
theorem getK_none' (ps : List (O × O)) (k : O) (h : ∀ p ∈ ps, sameO p.1 k = false) : getK ps k = none := by
 induction ps with
 | nil => rfl
 | cons p ps ih =>
  unfold getK; rw [if_neg (by rw [h p (List.mem_cons_self ..)]; decide), ih fun x hx => h x (List.mem_cons_of_mem _ hx)]
theorem sysK_miss' (bs : List UInt8) (h : opT.all (fun p => !(p.2 == bs)) = true) : getK (sysK 162) (nameO ⟨bs.toArray⟩) = none := by
 refine getK_none' _ _ fun p hp => ?_; obtain ⟨i, hi, rfl⟩ := List.mem_map.1 hp; have hi := List.mem_range.1 hi; simp only; rw [same_name]; refine decide_eq_false fun e => ?_
 have hl : i < opT.length := by rw [opT_length]; exact hi
 have h1 := List.all_eq_true.1 h opT[i] (List.getElem_mem _)
 have e2 : opT[i].2 = bs := by
  rw [opN_nat, ByteArray.mk.injEq] at e; have := congrArg Array.toList e
  simpa [List.getD_eq_getElem?_getD, hl] using this
 rw [e2] at h1; simp at h1
theorem get_row {is : List O} (hc : L[N]? = some (rowC is)) (hN : N ≤ 40000) (hs : is.length ≤ 40000) (ex : Bool) (z : Int) (hz : z = is.length) (i : Nat) (v : O) (hv : is[i]? = some v) : getH L ⟨9, ex, N, 0, z, ⟨#[]⟩⟩ i = (v, 0) := by
 have hi := (List.getElem?_eq_some_iff.1 hv).1
 have hm : mayH L ⟨9, ex, N, 0, z, ⟨#[]⟩⟩ = true := by
  cases ex
  · exact may_a hc hN hs z hz
  · exact may_arX hc hN hs z hz
 unfold getH
 have hf : findE L ⟨9, ex, N, 0, z, ⟨#[]⟩⟩ = 0 := by simp [findE, hm, held]
 rw [hf]; simp only [ne_eq, not_true_eq_false, if_false, Int.toNat_natCast, hc, lenOf, atOf]
 have e9 : (9 : Int) = 10 ↔ False := by decide
 simp only [e9, if_false, if_neg (show ¬ ((i : Int) < 0 ∨ z ≤ i) by omega), Bool.false_eq_true, Int.zero_add, Int.toNat_natCast]; rw [List.getD_eq_getElem?_getD, hv]; rfl
theorem may_strU {bs : List UInt8} (hc : L[N]? = some (txt bs)) (hN : N ≤ 40000) (hs : bs.length ≤ 40000) (z : Int) (hz : z = bs.length) : mayH L ⟨8, false, N, 0, z, ⟨#[]⟩⟩ = true := by
 have hl := (List.getElem?_eq_some_iff.1 hc).1; unfold mayH
 have hm : mayO ⟨8, false, N, 0, z, ⟨#[]⟩⟩ = true := by simp [mayO, eqO, bareO, O.nil]; omega
 rw [hm]; simp [held, hc, C.kind, C.size]
 omega
theorem set_strU {bs : List UInt8} (hc : L[N]? = some (txt bs)) (hN : N ≤ 40000) (hs : bs.length ≤ 40000) (z : Int) (hz : z = bs.length) (i : Nat) (hi : i < bs.length) (u : Nat) (hu : u < 256) : setH L ⟨8, false, N, 0, z, ⟨#[]⟩⟩ i (iO u) = (L.set N (txt (bs.set i (UInt8.ofNat u))), 0) := by
 unfold setH
 have hf : findE L ⟨8, false, N, 0, z, ⟨#[]⟩⟩ = 0 := by simp [findE, may_strU hc hN hs z hz, held]
 rw [hf]; simp only [ne_eq, not_true_eq_false, if_false, Int.toNat_natCast, hc, lenOf, atOf]
 have e8 : (8 : Int) = 10 ↔ False := by decide
 simp only [e8, if_false, if_neg (show ¬ ((i : Int) < 0 ∨ z ≤ i) by omega), Bool.false_eq_true, Int.zero_add, Int.toNat_natCast, if_true]; rw [if_neg (by omega)]
end Go.Proofs.YtpiomapnmempoaaGreat
