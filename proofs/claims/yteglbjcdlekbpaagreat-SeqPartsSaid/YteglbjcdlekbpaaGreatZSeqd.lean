/- Pap, Spa, Spb -/
import Derived.Test.YteglbjcdlekbpaaGreatZSeqb
import Derived.Test.YteglbjcdlekbpaaGreatZSeqa
/- Plain: SeqParts. -/
namespace Go.Proofs.YteglbjcdlekbpaaGreat
open Go.RowKit Go.Lib

theorem put_s {L : List C} {N M : Nat} {bs ds : List UInt8} (hc : L[N]? = some (txt bs)) (hd : L[M]? = some (txt ds)) (hN : N ≤ 40000) (hM : M ≤ 40000) (hs : bs.length ≤ 40000) (hs' : ds.length ≤ 40000) (x y : Bool) (p z i r m : Int) (hp : 0 ≤ p) (hz : 0 ≤ z) (h : p + z ≤ bs.length) (hr : 0 ≤ r) (hm : 0 ≤ m) (h' : r + m ≤ ds.length) (hi : 0 ≤ i) (h2 : i + m ≤ z) :
    putH L (strN N x p z) i (strN M y r m) = (L.set N (txt (splice bs (p + i).toNat ((ds.drop r.toNat).take m.toNat))), 0) := by
  unfold putH
  rw [find_s hc hN hs x p z hp hz h, find_s hd hM hs' y r m hr hm h']
  simp only [ne_eq, not_true_eq_false, if_false, or_false]
  rw [if_neg (by decide)]
  simp only [Int.toNat_natCast, hc, hd]
  have e8 : (8 : Int) = 10 ↔ False := by decide
  simp only [lenOf, atOf, e8, if_false]
  rw [if_neg (by omega)]
  simp
theorem put_sE {L : List C} {N M : Nat} {bs ds : List UInt8} (hc : L[N]? = some (txt bs)) (hd : L[M]? = some (txt ds)) (hN : N ≤ 40000) (hM : M ≤ 40000) (hs : bs.length ≤ 40000) (hs' : ds.length ≤ 40000) (x y : Bool) (p z i r m : Int) (hp : 0 ≤ p) (hz : 0 ≤ z) (h : p + z ≤ bs.length) (hr : 0 ≤ r) (hm : 0 ≤ m) (h' : r + m ≤ ds.length) (h2 : ¬ (i + m ≤ z)) :
    putH L (strN N x p z) i (strN M y r m) = (L, 12) := by
  unfold putH
  rw [find_s hc hN hs x p z hp hz h, find_s hd hM hs' y r m hr hm h']
  simp only [ne_eq, not_true_eq_false, if_false, or_false]
  rw [if_neg (by decide)]
  simp only [Int.toNat_natCast, hc, hd]
  have e8 : (8 : Int) = 10 ↔ False := by decide
  simp only [lenOf, atOf, e8, if_false]
  rw [if_pos (by omega)]
/-- SeqParts's heap behind putinterval. -/
abbrev pL (s t : ByteArray) (a : Nat) : List C := [txt (splice s.toList a t.toList), txt t.toList]
theorem p_put (s t : ByteArray) (sx : s.size ≤ 40000) (st : t.size ≤ 40000) (a m : Nat) (h : a + m ≤ s.size) (h2 : t.size ≤ m) :
    putH (fL s t) (strN 0 false a m) 0 (strN 1 false 0 t.size) = (pL s t a, 0) := by
  have := put_s (L := fL s t) (N := 0) (M := 1) (bs := s.toList) (ds := t.toList) rfl rfl (by omega) (by omega) (by rw [ba_len]; omega) (by rw [ba_len]; omega) false false a m 0 0 t.size (by omega) (by omega) (by rw [ba_len]; omega) (by omega) (by omega) (by rw [ba_len]; omega) (by omega) (by omega)
  rw [Int.add_zero, Int.toNat_natCast, Int.toNat_natCast, Int.toNat_zero, List.drop_zero, List.take_of_length_le (by rw [ba_len]; omega)] at this
  exact this
theorem p_putE (s t : ByteArray) (sx : s.size ≤ 40000) (st : t.size ≤ 40000) (a m : Nat) (h : a + m ≤ s.size) (h2 : ¬ t.size ≤ m) :
    putH (fL s t) (strN 0 false a m) 0 (strN 1 false 0 t.size) = (fL s t, 12) :=
  put_sE (L := fL s t) (N := 0) (M := 1) (bs := s.toList) (ds := t.toList) rfl rfl (by omega) (by omega) (by rw [ba_len]; omega) (by rw [ba_len]; omega) false false a m 0 0 t.size (by omega) (by omega) (by rw [ba_len]; omega) (by omega) (by omega) (by rw [ba_len]; omega) (by omega)
theorem p_spl (s t : ByteArray) (a : Nat) (h : a + t.size ≤ s.size) : (splice s.toList a t.toList).length = s.size := by
  simp [splice, ba_len]; omega
theorem p_bytes (s t : ByteArray) (sx : s.size ≤ 40000) (a : Nat) (h : a + t.size ≤ s.size) : bytesH (pL s t a) (strN 0 false 0 s.size) = (s.extract 0 a ++ t ++ s.extract (a + t.size) s.size, 0) := by
  have := bytes_s (L := pL s t a) (bs := splice s.toList a t.toList) (N := 0) rfl (by omega) (by rw [p_spl s t a h]; omega) false 0 s.size (by omega) (by omega) (by rw [p_spl s t a h]; omega)
  rw [Int.toNat_zero, List.drop_zero, Int.toNat_natCast, List.take_of_length_le (by rw [p_spl s t a h]; omega)] at this
  refine this.trans (congrArg (·, (0 : Int)) ?_)
  apply ba_inj
  have e1 := ext_lst s 0 a
  have e2 := ext_lst s (a + t.size) (s.size - (a + t.size))
  rw [Nat.zero_add] at e1
  rw [show a + t.size + (s.size - (a + t.size)) = s.size by omega] at e2
  rw [ba_app, ba_app, e1, e2, List.drop_zero, ByteArray.toList_eq, List.toList_toArray, splice, ba_len, List.take_of_length_le (i := s.size - (a + t.size)) (by rw [List.length_drop, ba_len]; omega), List.append_assoc]
end Go.Proofs.YteglbjcdlekbpaaGreat
/- Walks: seq.Do at getinterval and putinterval. -/
namespace Go.Proofs.YteglbjcdlekbpaaGreat
open Go.RowKit

theorem int3 {v : Int} : isK 8 (iO v).kind = true := by
  show isK 8 3 = true
  decide +kernel
theorem BS.more {w0 W : World} {M : List (Nat × List C)} {sp : Nat} {l : List O} {KB : List (Nat × Obj)} {q : Nat × Obj} (S : StkAt w0 W M (q :: KB) sp l) : BS w0 M sp KB W := ⟨l, [q], S⟩
def GI (w0 : World) (M : List (Nat × List C)) (KB : List (Nat × Obj)) (sp : Nat) (l : List O) (p : O) (s10 s11 : Value) (wx : World) : Prop := s10 = .int .i64 0 ∧ ∃ q, s11 = ptr q ∧ StkAt w0 wx M ((q, .cells p.cells.toArray 38) :: KB) sp l
set_option maxRecDepth 100000 in
set_option maxHeartbeats 4000000 in
theorem sdo_51 {w0 w : World} {M : List (Nat × List C)} {K : List (Nat × Obj)} {sp hp : Nat} {l : List O} {L : List C} {a p : O} {i n : Int} (S : StkAt w0 w M K sp (l ++ [a, iO i, iO n])) (hm : (hp, L) ∈ M) (ka : a.kind = 8) (hH : HeldAll L [a, iO i, iO n]) (hp1 : partH L a i n = (p, 0)) (mp : mayO p = true) (hl : l.length + 1 ≤ 200) :
    Calls Tryz.prog 59 #[ptr hp, ptr sp, .int .i64 51] w fun r w' => r = .returned (.int .i64 0) ∧ StkAt w0 w' M K sp (l ++ [p]) := by
  obtain ⟨bs, hbs⟩ := fam_is (i := 50) (f := 2) (by decide +kernel)
  have HFA := hid' (fun w' => family_at 50 2 bs hbs w')
  have HF := hid' (fun (w' : World) (g : Nat) (K' : List (Nat × Obj)) (S' : StkAt w0 w' M ((g, .cells #[.int .i64 768, .int .i64 8, .int .i64 8] 3) :: K') sp (l ++ [a, iO i, iO n])) => hand_from S' hm [768, 8, 8] g m0 rfl (fun j k o h1 h2 => by
    rcases j with _ | _ | _ | j
    · simp at h1 h2; subst h1 h2; rw [ka]; decide +kernel
    · simp at h1 h2; subst h1 h2; exact int3
    · simp at h1 h2; subst h1 h2; exact int3
    · simp at h1) hH 3 rfl)
  have HP := hid' (fun (w' : World) (K' : List (Nat × Obj)) (S' : StkAt w0 w' M K' sp (l ++ [a, iO i, iO n])) => S'.ask (r := .tuple #[p.val, .int .i64 0]) (fun K2 A => at_part A a i n hp1 hm))
  have HG := hid' (fun (W : World) (g : Nat) (K' : List (Nat × Obj)) (cur : Array Value) (hc : cur.toList = [p].flatMap O.cells) (S' : StkAt w0 W M ((g, .cells cur 38) :: K') sp (l ++ [a, iO i, iO n])) => giveB S' hc 3 rfl 1 rfl hl (fun o ho => by
    simp only [List.mem_cons, List.not_mem_nil, or_false] at ho
    subst ho; exact mp))
  obtain ⟨uk, ux, un, up, ul, us⟩ := a
  obtain ⟨rk, rx, rn, rp, rl, rs⟩ := p
  clear ka hH hp1 mp hl hbs hm
  go_enter Tryz.func59, Tryz.ntmps59
  go_wp2_with fail
  refine (HFA.out _).mono ?_
  rintro r w1 ⟨rfl, X1⟩
  have S1 := (S.pure X1).alloc (.cells #[.int .i64 768, .int .i64 8, .int .i64 8] 3)
  clear S X1
  go_wp2_with fail
  refine (HF.out _ _ _ S1).mono ?_
  rintro r w2 ⟨g, cur, rfl, hc, S2⟩
  obtain ⟨q0, q1, q2, q3, q4, q5⟩ := at6 hc (m := 0) rfl
  obtain ⟨p0, p1, p2, p3, p4, p5⟩ := at6 hc (m := 1) rfl
  obtain ⟨r0, r1, r2, r3, r4, r5⟩ := at6 hc (m := 2) rfl
  simp only [Nat.zero_mul, Nat.zero_add, Nat.one_mul, Nat.reduceAdd, Nat.reduceMul] at q0 q1 q2 q3 q4 q5 p0 p1 p2 p3 p4 p5 r0 r1 r2 r3 r4 r5
  clear hc S1
  (try clear Rg); (try clear yg); (try clear Zg)
  have Rg := cells_of (S2.box _ m0)
  have yg := blk_lt (S2.box _ m0)
  (try simp only at Rg yg)
  go_upto_region 30 with (fail)
  generalize w1.heap.size = b1 at *
  obtain ⟨KB, hKB⟩ : ∃ KB, KB = (g, Obj.cells cur 38) :: (b1, Obj.cells #[.int .i64 768, .int .i64 8, .int .i64 8] 3) :: K := ⟨_, rfl⟩
  have nG : (g, Obj.cells cur 38) ∈ KB := by rw [hKB]; exact m0
  rw [← hKB] at S2
  have HKB := hid' hKB
  clear Rg yg hKB
  have QG := BS.cells (w0 := w0) (M := M) (sp := sp) nG
  go_cut [10, 11] (fun s10 s11 wx => GI w0 M KB sp (l ++ [⟨uk, ux, un, up, ul, us⟩, iO i, iO n]) ⟨rk, rx, rn, rp, rl, rs⟩ s10 s11 wx)
  case first =>
    have hS1 := BS.of S2
    have HS := hid' S2
    clear S2 HG HFA HF nG
    go_region_held3 (fun W' => BS w0 M sp KB W') (first | (with_reducible assumption) | (with_reducible exact BS.of S4) | (with_reducible exact BS.more S4) | (with_reducible exact BS.drew (by with_reducible assumption)) | (with_reducible exact BS.alloc (by with_reducible assumption) _) | (with_reducible exact BS.alloc (BS.of S4) _) | (with_reducible exact BS.drew (BS.alloc (by with_reducible assumption) _)) | (with_reducible exact BS.drew (BS.alloc (BS.of S4) _)) | (with_reducible exact BS.drew (BS.more S4)) | exact BS.more (S4.putO rk rx rn rp rl rs) | exact BS.more ((S4.alloc _).putO rk rx rn rp rl rs) | exact BS.drew (BS.more (S4.putO rk rx rn rp rl rs)) | exact BS.drew (BS.more ((S4.alloc _).putO rk rx rn rp rl rs)))
      (first | (go_at_call 108; refine (HP.out _ _ (by first | exact HS.out | exact HS.out.drew | exact HS.out.alloc _ | exact (HS.out.alloc _).drew | exact HS.out.drew.alloc _)).mono ?_; rintro r w4 ⟨rfl, S4⟩; try have Rz := cells_of (S4.box _ m0); try have Zz := free_of (S4.box _ m0); try have yz := blk_lt (S4.box _ m0)))
    all_goals
      go_wp2_with fail
      go_meet
      refine ⟨rfl, _, rfl, ?_⟩
      show StkAt w0 _ M ((_, Obj.cells #[.int .i64 rk, .bool rx, .int .i64 rn, .int .i64 rp, .int .i64 rl, .string rs] 38) :: KB) sp _
      first
        | (with_reducible exact S4.alloc _)
        | (with_reducible exact (S4.alloc _).drew)
        | exact S4.putO rk rx rn rp rl rs
        | exact (S4.putO rk rx rn rp rl rs).drew
  case rest =>
    obtain ⟨rfl, q, rfl, S4⟩ := hcut
    have S4 : StkAt w0 _ M ((q, Obj.cells #[.int .i64 rk, .bool rx, .int .i64 rn, .int .i64 rp, .int .i64 rl, .string rs] 38) :: KB) sp (l ++ [⟨uk, ux, un, up, ul, us⟩, iO i, iO n]) := S4
    (try clear Rz); (try clear yz); (try clear Zz)
    have Rz := cells_of (S4.box _ m0)
    have yz := blk_lt (S4.box _ m0)
    (try simp only at Rz yz)
    clear S2 HFA HF QG nG HP
    have S5 := S4.alloc (Obj.cells #[.int .i64 rk, .bool rx, .int .i64 rn, .int .i64 rp, .int .i64 rl, .string rs] 38)
    go_wp2_with fail
    refine (HG.out _ _ _ _ rfl S5).mono ?_
    rintro r w6 ⟨rfl, S6⟩
    go_wp2_with fail
    go_ret
    exact ⟨rfl, S6.keep (by rw [HKB.out]; exact (((List.sublist_cons_self _ _).trans (List.sublist_cons_self _ _)).trans (List.sublist_cons_self _ _)))⟩
end Go.Proofs.YteglbjcdlekbpaaGreat
/- Walk: seq.Do at putinterval. -/
namespace Go.Proofs.YteglbjcdlekbpaaGreat
open Go.RowKit

theorem give0 {w0 w : World} {M : List (Nat × List C)} {K : List (Nat × Obj)} {sp : Nat} {l ops : List O} (S : StkAt w0 w M K sp (l ++ ops)) (n : Nat) (hn : ops.length = n) :
    Calls Tryz.prog 92 #[ptr sp, .int .i64 n, .slice none 0 0] w fun e w' => e = .returned (.int .i64 0) ∧ StkAt w0 w' M K sp l :=
  (hand_give (gv := []) S n hn 0 rfl (by have := S.len; simp at this; omega) (fun _ h => absurd h (by simp)) none 0 (Nat.le_refl _) (fun m o h => absurd h (by simp))).mono fun _ _ h => ⟨h.1, by have := h.2; rwa [List.append_nil] at this⟩
set_option maxRecDepth 100000 in
set_option maxHeartbeats 4000000 in
theorem sdo_52 {w0 w : World} {M : List (Nat × List C)} {K : List (Nat × Obj)} {sp hp : Nat} {l l' : List O} {L L' : List C} {a b : O} {i e : Int} (S : StkAt w0 w ((hp, L) :: M) K sp (l ++ [a, iO i, b])) (ka : a.kind = 8) (kb : b.kind = 8) (hH : HeldAll L [a, iO i, b]) (hr : putH L a i b = (L', e)) (hl' : (e = 0 ∧ l' = l) ∨ (e ≠ 0 ∧ l' = l ++ [a, iO i, b])) :
    Calls Tryz.prog 59 #[ptr hp, ptr sp, .int .i64 52] w fun r w' => r = .returned (.int .i64 e) ∧ StkAt w0 w' ((hp, L') :: M) K sp l' := by
  obtain ⟨bs, hbs⟩ := fam_is (i := 51) (f := 2) (by decide +kernel)
  have HFA := hid' (fun w' => family_at 51 2 bs hbs w')
  have HF := hid' (fun (w' : World) (g : Nat) (K' : List (Nat × Obj)) (S' : StkAt w0 w' ((hp, L) :: M) ((g, .cells #[.int .i64 768, .int .i64 8, .int .i64 768] 3) :: K') sp (l ++ [a, iO i, b])) => hand_take S' [768, 8, 768] g m0 rfl (fun j k o h1 h2 => by
    rcases j with _ | _ | _ | j
    · simp at h1 h2; subst h1 h2; rw [ka]; decide +kernel
    · simp at h1 h2; subst h1 h2; exact int3
    · simp at h1 h2; subst h1 h2; rw [kb]; decide +kernel
    · simp at h1) 3 rfl)
  have HK : ∀ o ∈ [a, iO i, b], 0 ≤ o.kind ∧ o.kind ≤ 12 := fun o ho => by
    simp only [List.mem_cons, List.not_mem_nil, or_false] at ho
    rcases ho with rfl | rfl | rfl
    · rw [ka]; decide
    · exact ⟨by show (0 : Int) ≤ 3; decide, by show (3 : Int) ≤ 12; decide⟩
    · rw [kb]; decide
  have HH := hid' (fun (w' : World) (g : Nat) (cur : Array Value) (K' : List (Nat × Obj)) (hc : cur.toList = [a, iO i, b].flatMap O.cells) (S' : StkAt w0 w' ((hp, L) :: M) ((g, .cells cur 38) :: K') sp (l ++ [a, iO i, b])) => hand_held (ops := [a, iO i, b]) S' m0 3 g 3 cur 0 rfl (by decide) (by decide) m0 (reads_of hc) HK hH)
  have HP := hid' (fun (w' : World) (K' : List (Nat × Obj)) (S' : StkAt w0 w' ((hp, L) :: M) K' sp (l ++ [a, iO i, b])) => S'.ask (M' := (hp, L') :: M) (r := .int .i64 e) (fun K2 A => at_put A a i b hr))
  have HG := hid' (fun (W : World) (K' : List (Nat × Obj)) (S' : StkAt w0 W ((hp, L') :: M) K' sp (l ++ [a, iO i, b])) => give0 S' 3 rfl)
  generalize hops : l ++ [a, iO i, b] = lo at *
  have HLO := hid' hl'
  obtain ⟨uk, ux, un, up, ul, us⟩ := a
  obtain ⟨vk, vx, vn, vp, vl, vs⟩ := b
  simp only at ka kb
  subst ka kb
  clear hH hr hl' hbs HK hops
  go_enter Tryz.func59, Tryz.ntmps59
  go_wp2_with fail
  refine (HFA.out _).mono ?_
  rintro r w1 ⟨rfl, X1⟩
  have S1 := (S.pure X1).alloc (.cells #[.int .i64 768, .int .i64 8, .int .i64 768] 3)
  clear S X1
  go_wp2_with fail
  refine (HF.out _ _ _ S1).mono ?_
  rintro r w2 ⟨g, cur, rfl, hc, S2⟩
  obtain ⟨q0, q1, q2, q3, q4, q5⟩ := at6 hc (m := 0) rfl
  obtain ⟨p0, p1, p2, p3, p4, p5⟩ := at6 hc (m := 1) rfl
  obtain ⟨r0, r1, r2, r3, r4, r5⟩ := at6 hc (m := 2) rfl
  simp only [Nat.zero_mul, Nat.zero_add, Nat.one_mul, Nat.reduceAdd, Nat.reduceMul] at q0 q1 q2 q3 q4 q5 p0 p1 p2 p3 p4 p5 r0 r1 r2 r3 r4 r5
  clear S1
  (try clear Rg); (try clear yg); (try clear Zg)
  have Rg := cells_of (S2.box _ m0)
  have yg := blk_lt (S2.box _ m0)
  (try simp only at Rg yg)
  go_upto_region 36 with (fail)
  go_quiet (fail)
  have S3 := S2.pure ((Chg.refl NoB w2).drewN nq)
  generalize w2.drewN nq = w3 at *
  clear S2 Rg yg
  (try clear Rg); (try clear yg); (try clear Zg)
  have Rg := cells_of (S3.box _ m0)
  have yg := blk_lt (S3.box _ m0)
  (try simp only at Rg yg)
  go_wp2_with fail
  refine (HH.out _ _ _ _ hc S3).mono ?_
  rintro r w4 ⟨rfl, S4⟩
  clear S3 Rg yg
  (try clear Rg); (try clear yg); (try clear Zg)
  have Rg := cells_of (S4.box _ m0)
  have yg := blk_lt (S4.box _ m0)
  (try simp only at Rg yg)
  go_upto_region 41 with (fail)
  go_still_tail 11, (by kernel_rfl)
  have S5 := S4.drew
  clear S4 Rg yg
  go_wp2_with fail
  refine (HP.out _ _ S5).mono ?_
  rintro r w6 ⟨rfl, S6⟩
  rcases HLO.out with ⟨rfl, h⟩ | ⟨he, h⟩
  · have HE := hid' h
    clear h HLO
    go_wp2_with fail
    refine (HG.out _ _ S6).mono ?_
    rintro r w7 ⟨rfl, S7⟩
    go_wp2_with fail
    go_ret
    exact ⟨rfl, by rw [HE.out]; exact S7.keep ((List.sublist_cons_self _ _).trans (List.sublist_cons_self _ _))⟩
  · have d0 : (e == 0) = false := by simpa using he
    have HE := hid' h
    clear h HLO he
    go_wp2_with fail
    go_ret
    exact ⟨rfl, by rw [HE.out]; exact S6.keep ((List.sublist_cons_self _ _).trans (List.sublist_cons_self _ _))⟩
end Go.Proofs.YteglbjcdlekbpaaGreat
