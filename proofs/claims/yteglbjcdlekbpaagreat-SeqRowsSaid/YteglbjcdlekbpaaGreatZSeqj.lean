/- Sri, Arp, Srl, Srm, Srb, Srs -/
import Derived.Test.YteglbjcdlekbpaaGreatZStack
import Derived.Test.YteglbjcdlekbpaaGreatZTxgs
import Derived.Test.YteglbjcdlekbpaaGreatZRefg
import Derived.Maps.AppendAt
import Derived.Test.YteglbjcdlekbpaaGreatZSeqa
import Derived.Test.YteglbjcdlekbpaaGreatZSeqb
import Derived.Test.YteglbjcdlekbpaaGreatZSeqf
/- Walks: stack.Items, stack.ToMark. -/
namespace Go.Proofs.YteglbjcdlekbpaaGreat
open Go.RowKit

set_option maxRecDepth 100000 in
theorem stk_items {w0 w : World} {M : List (Nat × List C)} {K : List (Nat × Obj)} {sp : Nat} {l : List O} (S : StkAt w0 w M K sp l) (hl : 0 < l.length) (n : Nat) (hn : l.length = n) :
    Calls Tryz.prog 20 #[ptr sp] w fun e w' => ∃ g cap cur, e = .returned (.slice (some ⟨g, 0, none⟩) n cap) ∧ n ≤ cap ∧ StkAt w0 w' M ((g, .cells cur 38) :: K) sp l ∧ ∀ i, i < n * 6 → cur[i]? = (l.flatMap O.cells)[i]? := by
  subst hn
  obtain ⟨i0, hi, hz0, hz1, hz2⟩ := info_parts Tryz.infoObj
  have HS := hid' S
  have hlen := S.len
  obtain ⟨-, R, lv, hR, A⟩ := S
  obtain ⟨g, cap, cur, rfl, rfl, hcur⟩ := hR.shape hl
  have Rs := cells_of (A.box (sp, stkBox (.slice (some ⟨g, 0, none⟩) l.length cap)) (List.mem_append_right _ (List.mem_cons_self ..)))
  have hbox := A.box (g, .cells cur 38) (List.mem_append_left _ (List.mem_cons_self ..))
  simp only at Rs hbox
  have HN := hid' (fun j u (hj : (l.flatMap O.cells)[j]? = some u) => (show w.cell? ((⟨g, 0, none⟩ : Addr).add j) = some u by
    have hjl : j < l.length * 6 := by rw [← flat_length O.cells 6 cells_length]; exact (List.getElem?_eq_some_iff.1 hj).1
    exact World.news_of_block hbox j u (by rw [← hj, ← hcur j hjl]; simp)))
  have HL := hid' hl
  clear hR A hbox hcur hl
  go_enter Tryz.func20, Tryz.ntmps20
  go_wp2_with (at_builtin; refine wpList_append_own _ rfl _ _ 48 rfl w.heap.size 38 i0 O.nil.val 6 56 Tryz.underObjs hi hz0 hz1 hz2 rfl (by decide) (.slice none 0 0) 0 [] rfl (World.ownsRow_nil _ _ _ _) ⟨g, 0, none⟩ l.length cap (l.flatMap O.cells) rfl (flat_length O.cells 6 cells_length l) (fun j u hj => HN.out j u hj) (flat_one l) ?_ ?_ ?_ ?_; (unfold maxLen; omega); omega; (simp; try omega); intro v' w2 hown hgr _)
  have X : Chg NoB w w2 := Chg.grown (Chg.refl _ _) hgr (fun k hk => by simp [Value.ownBlock] at hk)
  go_ret
  simp only [Nat.zero_add, List.nil_append] at hown
  obtain ⟨hl2, ⟨rfl, h0⟩ | ⟨g', cap', cur', rfl, hg0, hg', c1, c2, c3, c4⟩⟩ := hown
  · have := HL.out; omega
  · exact ⟨g', cap', rfl, c1, cur', HS.out.got X hg' hg0, fun i hi => by rw [← c4, List.getElem?_take_of_lt hi, Array.getElem?_toList]⟩
set_option maxRecDepth 100000 in
theorem stk_tomark {w0 w : World} {M : List (Nat × List C)} {K : List (Nat × Obj)} {sp : Nat} {l xs : List O} {mk : O} (S : StkAt w0 w M K sp (l ++ mk :: xs)) (hm : mk.kind = 6) (hx : ∀ o ∈ xs, o.kind ≠ 6) (n : Nat) (hn : xs.length = n) :
    Calls Tryz.prog 140 #[ptr sp] w fun e w' => e = .returned (.tuple #[.int .i64 n, .int .i64 0]) ∧ StkAt w0 w' M K sp (l ++ mk :: xs) := by
  have hlen := S.len
  have hl2 : (l ++ mk :: xs).length = l.length + 1 + n := by simp [hn]; omega
  have HP := hid' (fun (w' : World) (K' : List (Nat × Obj)) (S' : StkAt w0 w' M K' sp (l ++ mk :: xs)) (i m : Nat) (o : O) (h1 : m + 1 + i = (l ++ mk :: xs).length) (h2 : (l ++ mk :: xs)[m]? = some o) => stk_peek S' i m o h1 h2)
  have HXS := hid' (fun (i : Nat) (hi : i < n) => (show ∃ o, (l ++ mk :: xs)[l.length + 1 + (n - 1 - i)]? = some o ∧ o.kind ≠ 6 by
    have hlt : n - 1 - i < xs.length := by omega
    refine ⟨xs[n - 1 - i], ?_, hx _ (List.getElem_mem hlt)⟩
    rw [List.getElem?_append_right (by omega), show l.length + 1 + (n - 1 - i) - l.length = (n - 1 - i) + 1 by omega, List.getElem?_cons_succ, List.getElem?_eq_getElem hlt]))
  have hmk : (l ++ mk :: xs)[l.length]? = some mk := by rw [List.getElem?_append_right (Nat.le_refl _), Nat.sub_self]; rfl
  have HMK := hid' hmk
  have HL2 := hid' hl2
  have HMM := hid' hm
  obtain ⟨len, hlen2⟩ : ∃ len : Nat, l.length = len := ⟨_, rfl⟩
  have hll : ((l ++ mk :: xs).length : Int) = len + 1 + n := by rw [hl2]; omega
  have hq : len + 1 + n ≤ 200 := by omega
  have HS := hid' S
  obtain ⟨-, R, lv, hR, A⟩ := S
  obtain ⟨a, c, rfl, hac⟩ := rowG_slice hR
  have Rs := cells_of (A.box (sp, stkBox (.slice a (l ++ mk :: xs).length c)) (List.mem_append_right _ (List.mem_cons_self ..)))
  rw [hl2] at Rs
  simp only at Rs
  rw [hlen2] at HXS HMK HL2 Rs
  clear hR A hac hx hn hm hmk hl2 hlen hll hlen2
  generalize l ++ mk :: xs = lo at *
  go_enter Tryz.func140, Tryz.ntmps140
  go_wp2_with fail
  go_loopw [14] (fun cv wr => ∃ k : Nat, k ≤ n ∧ cv = .int .i64 k ∧ StkAt w0 wr M K sp lo) (fun cv _ => n - (intOf cv).toNat)
  case atStart => exact ⟨0, Nat.zero_le _, rfl, HS.out⟩
  case round =>
    obtain ⟨k, hk, rfl, S2⟩ := hrel
    by_cases hlt : k < n
    · obtain ⟨o, ho, hko⟩ := HXS.out k hlt
      have HPK := hid' (fun (w' : World) (K' : List (Nat × Obj)) (S' : StkAt w0 w' M K' sp lo) => HP.out w' K' S' k _ o (by rw [HL2.out]; omega) ho)
      obtain ⟨kk, kx, kn, kp, kl, ks⟩ := o
      have d6 : (kk == 6) = false := by simpa using hko
      have dl : decide ((k : Int) < (len + 1 + n : Nat)) = true := by simp; omega
      have dl' : (k : Int) < (len : Int) + 1 + n := by omega
      clear ho hko Rs
      go_wp2_with fail
      refine (HPK.out _ _ S2).mono ?_
      rintro r w3 ⟨rfl, S3⟩
      have S4 := S3.alloc (Obj.cells #[.int .i64 kk, .bool kx, .int .i64 kn, .int .i64 kp, .int .i64 kl, .string ks] 38)
      go_wp2_with fail
      go_roundw
      case rel => exact ⟨k + 1, by omega, by go_num, S4.keep (List.sublist_cons_self _ _)⟩
      case measure => simp [intOf]; omega
    · obtain rfl : k = n := by omega
      have HPK := hid' (fun (w' : World) (K' : List (Nat × Obj)) (S' : StkAt w0 w' M K' sp lo) => HP.out w' K' S' k len mk (by have := HL2.out; omega) HMK.out)
      have hmm := HMM.out
      obtain ⟨kk, kx, kn, kp, kl, ks⟩ := mk
      simp only at hmm
      subst hmm
      have dl : decide ((k : Int) < (len + 1 + k : Nat)) = true := by simp; omega
      have dl' : (k : Int) < (len : Int) + 1 + k := by omega
      clear Rs
      go_wp2_with fail
      refine (HPK.out _ _ S2).mono ?_
      rintro r w3 ⟨rfl, S3⟩
      have S4 := S3.alloc (.cells #[.int .i64 6, .bool kx, .int .i64 kn, .int .i64 kp, .int .i64 kl, .string ks] 38)
      go_wp2_with fail
      go_ret2
      exact ⟨rfl, S4.keep (List.sublist_cons_self _ _)⟩
end Go.Proofs.YteglbjcdlekbpaaGreat
/- Plain: arrays anywhere in a heap: Array, Set, Items. -/
namespace Go.Proofs.YteglbjcdlekbpaaGreat
open Go.RowKit

abbrev rowC (is : List O) : C := ⟨false, false, false, is, []⟩
abbrev arN (N z : Int) : O := ⟨9, false, N, 0, z, ⟨#[]⟩⟩
theorem mayO_arr (N z : Int) (h0 : 0 ≤ N) (h1 : N ≤ 40000) (hz : 0 ≤ z) (hz' : z ≤ 40000) : mayO (arN N z) = true := by
  simp [mayO, eqO, bareO, O.nil]; omega
theorem may_a {L : List C} {N : Nat} {is : List O} (hc : L[N]? = some (rowC is)) (hN : N ≤ 40000) (hs : is.length ≤ 40000) (z : Int) (hz : z = is.length) : mayH L (arN N z) = true := by
  have hl := (List.getElem?_eq_some_iff.1 hc).1
  unfold mayH
  rw [mayO_arr N z (by omega) (by omega) (by omega) (by omega)]
  simp [held, hc, C.kind, C.size]
  omega
theorem find_a {L : List C} {N : Nat} {is : List O} (hc : L[N]? = some (rowC is)) (hN : N ≤ 40000) (hs : is.length ≤ 40000) (z : Int) (hz : z = is.length) : findE L (arN N z) = 0 := by
  simp [findE, may_a hc hN hs z hz, held]
theorem items_a {L : List C} {N : Nat} {is : List O} (hc : L[N]? = some (rowC is)) (hN : N ≤ 40000) (hs : is.length ≤ 40000) (z : Int) (hz : z = is.length) : itemsH L (arN N z) = (is, 0) := by
  subst hz
  unfold itemsH
  rw [find_a hc hN hs _ rfl]
  simp [lenOf, atOf, hc]
theorem set_a {L : List C} {N : Nat} {is : List O} (hc : L[N]? = some (rowC is)) (hN : N ≤ 40000) (hs : is.length ≤ 40000) (z : Int) (hz : z = is.length) (i : Nat) (hi : i < is.length) (x : O) (hx : mayH L x = true) : setH L (arN N z) i x = (L.set N (rowC (is.set i x)), 0) := by
  unfold setH
  rw [find_a hc hN hs z hz]
  simp only [ne_eq, not_true_eq_false, if_false, Int.toNat_natCast, hc, lenOf, atOf]
  have e9 : (9 : Int) = 10 ↔ False := by decide
  simp only [e9, if_false, if_neg (show ¬ ((i : Int) < 0 ∨ z ≤ i) by omega), Bool.false_eq_true, hx, Int.zero_add, Int.toNat_natCast]
  simp
theorem array_a (L : List C) (n : Nat) (h1 : L.length < 2000) (h2 : used L + n ≤ 40000) : arrayH L n = (L ++ [rowC (List.replicate n nullO)], arN L.length n, 0) := by
  unfold arrayH
  rw [if_neg (by omega), if_neg (by omega), add_fits _ _ h1 (by simp [C.size]; omega)]
  simp [objOf, C.kind, C.size]
theorem set_last (L : List C) (c d : C) : (L ++ [c]).set L.length d = L ++ [d] := by
  rw [List.set_append_right _ _ (Nat.le_refl _), Nat.sub_self]; rfl
theorem may_int (L : List C) (v : Int) (h : mayO (iO v) = true) : mayH L (iO v) = true := by
  unfold mayH; rw [h]; rfl
/-- A row that is filled from the left. -/
def filled (xs : List O) (n k : Nat) : List O := xs.take k ++ List.replicate (n - k) nullO
theorem filled_length (xs : List O) (n k : Nat) (h : xs.length = n) (hk : k ≤ n) : (filled xs n k).length = n := by
  simp [filled]; omega
theorem filled_set (xs : List O) (n k : Nat) (h : xs.length = n) (o : O) (ho : xs[k]? = some o) : (filled xs n k).set k o = filled xs n (k + 1) := by
  have hk : k < xs.length := (List.getElem?_eq_some_iff.1 ho).1
  have e : xs.take (k + 1) = xs.take k ++ [o] := by rw [List.take_add_one, ho]; rfl
  unfold filled
  rw [List.set_append_right _ _ (by simp; omega), e, show n - k = (n - (k + 1)) + 1 by omega, List.replicate_succ, List.append_assoc]
  have hm : min k xs.length = k := Nat.min_eq_left (Nat.le_of_lt hk)
  simp [hm]
theorem filled_all (xs : List O) (n : Nat) (h : xs.length = n) : filled xs n n = xs := by
  simp [filled, ← h]
theorem filled_none (xs : List O) (n : Nat) : filled xs n 0 = List.replicate n nullO := by simp [filled]
end Go.Proofs.YteglbjcdlekbpaaGreat
/- Walk: seq.load at aload. -/
namespace Go.Proofs.YteglbjcdlekbpaaGreat
open Go.RowKit

theorem stk_row {R E K : List (Nat × Obj)} {q : Nat × Obj} : (R ++ q :: (E ++ K)).Perm (E ++ (R ++ q :: K)) := by
  classical refine List.perm_iff_count.2 fun x => ?_
  simp only [List.count_append, List.count_cons]
  omega
theorem StkAt.ownsG {w0 w : World} {M : List (Nat × List C)} {R K : List (Nat × Obj)} {sp : Nat} {l : List O} {T : TypeId} {sz : Nat} {v : Value} {n : Nat} {xs : List Value} (S : StkAt w0 w M (R ++ K) sp l) (h : RowG T sz R v n xs) : w.ownsRow w0.heap.size T sz v n xs := by
  obtain ⟨-, R0, lv, -, A⟩ := S
  exact (A.perm stk_row).ownsG h
theorem StkAt.grownG {w0 w w' : World} {M : List (Nat × List C)} {R K : List (Nat × Obj)} {sp : Nat} {l : List O} {T : TypeId} {sz : Nat} {v v' : Value} {n m : Nat} {xs xs' : List Value} (S : StkAt w0 w M (R ++ K) sp l) (h : RowG T sz R v n xs)
    (hown : w'.ownsRow w0.heap.size T sz v' (n + m) xs') (hgr : w.grownBy w' v.ownBlock) (hob : v'.ownBlock = v.ownBlock ∨ v'.ownBlock = some w.heap.size) (hm : 0 < m) :
    ∃ R', RowG T sz R' v' (n + m) xs' ∧ StkAt w0 w' M (R' ++ K) sp l := by
  obtain ⟨hl, R0, lv, hr, A⟩ := S
  obtain ⟨R', h1, h2⟩ := (A.perm stk_row).grownG h hown hgr hob hm
  exact ⟨R', h1, hl, R0, lv, hr, h2.perm stk_row.symm⟩
theorem stk_hitems {w0 w : World} {M : List (Nat × List C)} {K : List (Nat × Obj)} {sp hp : Nat} {l : List O} {L : List C} (S : StkAt w0 w M K sp l) (hm : (hp, L) ∈ M) (o : O) {xs : List O} {e : Int} (hr : itemsH L o = (xs, e)) (n : Nat) (hn : xs.length = n) :
    Calls Tryz.prog 40 #[ptr hp, o.val] w fun r w' => ∃ R v, r = .returned (.tuple #[v, .int .i64 e]) ∧ RowG 38 6 R v n (xs.flatMap O.cells) ∧ StkAt w0 w' M (R ++ K) sp l := by
  have HS := S
  obtain ⟨hl, R0, lv, hr0, A⟩ := S
  obtain ⟨h, rfl, rfl, H⟩ := A.rep hm
  refine (items_any h o w H).mono ?_
  rintro r w' ⟨v, rfl, X, own⟩
  rw [hr] at own ⊢
  simp only [hn] at own
  obtain ⟨h1, ⟨rfl, h2⟩ | ⟨g, cap, cur, rfl, h3, h4, h5, h6, h7, h8⟩⟩ := own
  · refine ⟨[], _, rfl, .inl ⟨rfl, h2, ?_, rfl⟩, HS.pure X⟩
    have : xs = [] := List.eq_nil_of_length_eq_zero (by omega)
    rw [this]; rfl
  · exact ⟨[(g, .cells cur 38)], _, rfl, .inr ⟨g, cap, cur, rfl, rfl, h5, h6, h7, h8, h1⟩, HS.got X h4 h3⟩
set_option maxRecDepth 100000 in
set_option maxHeartbeats 2000000 in
theorem aload_any {w0 w : World} {M : List (Nat × List C)} {K : List (Nat × Obj)} {sp hp : Nat} {l xs : List O} {L : List C} {N n : Nat} (S : StkAt w0 w M K sp (l ++ [arN N n])) (hm : (hp, L) ∈ M) (hc : L[N]? = some (rowC xs)) (hN : N ≤ 2000) (hn : xs.length = n) (hx : ∀ o ∈ xs, mayO o = true) (hl : l.length + n + 1 ≤ 200) :
    Calls Tryz.prog 112 #[ptr hp, ptr sp, .int .i64 53] w fun r w' => r = .returned (.int .i64 0) ∧ StkAt w0 w' M K sp (l ++ (xs ++ [arN N n])) := by
  have HF := hid' (fun (w' : World) (g : Nat) (K' : List (Nat × Obj)) (S' : StkAt w0 w' M ((g, .cells #[.int .i64 512] 3) :: K') sp (l ++ [arN N n])) => hand_from S' hm [512] g m0 rfl (fun i k o h1 h2 => by
    rcases i with _ | i
    · simp at h1 h2; subst h1 h2; show isK 512 9 = true; decide +kernel
    · simp at h1) (fun o ho _ => by
      simp only [List.mem_cons, List.not_mem_nil, or_false] at ho
      subst ho
      exact may_a hc (by omega) (by omega) n (by rw [hn])) 1 rfl)
  have HI := hid' (fun (w' : World) (K' : List (Nat × Obj)) (S' : StkAt w0 w' M K' sp (l ++ [arN N n])) => stk_hitems S' hm (arN N n) (items_a hc (by omega) (by omega) n (by rw [hn])) n hn)
  have HG := hid' (fun (W : World) (g cap : Nat) (cur : Array Value) (K' : List (Nat × Obj)) (hcap : n + 1 ≤ cap) (hcur : ∀ i, i < (n + 1) * 6 → cur[i]? = (xs.flatMap O.cells ++ (arN N n).cells)[i]?) (S' : StkAt w0 W M ((g, .cells cur 38) :: K') sp (l ++ [arN N n])) => hand_give (gv := xs ++ [arN N n]) S' 1 rfl (n + 1) (by simp [hn]) (by omega) (fun o ho => by
    rcases List.mem_append.1 ho with h | h
    · exact hx o h
    · simp only [List.mem_cons, List.not_mem_nil, or_false] at h
      subst h
      exact mayO_arr _ _ (by omega) (by omega) (by omega) (by omega)) (some ⟨g, 0, none⟩) cap hcap (fun m o ho => ⟨g, 0, cur, _, rfl, m0, fun j hj => by
        have hml : m < n + 1 := by have := (List.getElem?_eq_some_iff.1 ho).1; simp [hn] at this; omega
        have := flat_at (xs ++ [arN N n]) m j o ho hj
        rw [List.flatMap_append, List.flatMap_singleton] at this
        rw [Nat.zero_add, hcur _ (by omega)]
        exact this⟩))
  obtain ⟨i0, hi, hz0, hz1, hz2⟩ := info_parts Tryz.infoObj
  have S1 := S.alloc (.cells #[.int .i64 512] 3)
  have v1 := IntWalk.i64_in ((n : Int) + 1) (by omega)
  have hn200 : n ≤ 200 := by omega
  have HFL := hid' (flat_one (xs ++ [arN N n]))
  clear S hm hc hl hx
  generalize (N : Int) = NL at *
  go_enter Tryz.func112, Tryz.ntmps112
  go_wp2_with fail
  refine (HF.out _ _ _ S1).mono ?_
  rintro r w2 ⟨g, cur, rfl, hc, S2⟩
  obtain ⟨q0, q1, q2, q3, q4, q5⟩ := at6 hc (m := 0) rfl
  simp only [Nat.zero_mul, Nat.zero_add] at q0 q1 q2 q3 q4 q5
  clear S1 hc
  (try clear Rg); (try clear yg); (try clear Zg)
  have Rg := cells_of (S2.box _ m0)
  have yg := blk_lt (S2.box _ m0)
  (try simp only at Rg yg)
  have S3 := S2.alloc (.cells #[.int .i64 9, .bool false, .int .i64 NL, .int .i64 0, .int .i64 n, .string ⟨#[]⟩] 38)
  go_upto_region 5 with (fail)
  generalize hW : w2.alloc _ = w3 at *
  generalize w2.heap.size = b2 at *
  clear hW S2 Rg yg q0 q1 q2 q3 q4 q5
  (try clear Ra); (try clear ya); (try clear Za)
  have Ra := cells_of (S3.box _ m0)
  have ya := blk_lt (S3.box _ m0)
  (try simp only at Ra ya)
  go_wp2_with fail
  refine (HI.out _ _ S3).mono ?_
  rintro r w4 ⟨R, v, rfl, hR, S4⟩
  clear S3 Ra ya
  have hma : (b2, Obj.cells #[.int .i64 9, .bool false, .int .i64 NL, .int .i64 0, .int .i64 n, .string ⟨#[]⟩] 38) ∈ R ++ (b2, Obj.cells #[.int .i64 9, .bool false, .int .i64 NL, .int .i64 0, .int .i64 n, .string ⟨#[]⟩] 38) :: (g, Obj.cells cur 38) :: (w.heap.size, Obj.cells #[.int .i64 512] 3) :: K := List.mem_append_right _ (List.mem_cons_self ..)
  (try clear Ra); (try clear ya); (try clear Za)
  have Ra := cells_of (S4.box _ hma)
  have ya := blk_lt (S4.box _ hma)
  (try simp only at Ra ya)
  go_upto_region 7 with (fail)
  obtain ⟨a, c, rfl, hac⟩ := rowG_slice hR
  have S5 := (S4.alloc (.cells (arN NL n).cells.toArray 38)).perm List.perm_middle.symm
  have HS5 := hid' S5
  have HR := hid' hR
  clear S4 S5 hR hac
  go_wp2_with (at_builtin; refine wpList_append_own_at _ rfl (.tmp 39) (.tmp 41) 48 rfl w0.heap.size 38 i0 O.nil.val 6 56 Tryz.underObjs hi hz0 hz1 hz2 rfl (by decide) (.slice a n c) n (xs.flatMap O.cells) rfl (HS5.out.ownsG HR.out) ⟨w4.heap.size, 0, none⟩ 1 1 (arN NL n).cells rfl rfl (fun j u hj => World.news_of_block (w := w4.alloc (.cells (arN NL n).cells.toArray 38)) (B := w4.heap.size) (cs := (arN NL n).cells.toArray) (t := 38) (fr := (0, 0)) (blk_new w4 _) j u (by simpa using hj)) (one6' (arN NL n)) ?_ ?_ ?_ ?_; (unfold maxLen; omega); omega; (have := HS5.out.chg.size; exact this); intro v' w5 hown hgr _ hob)
  obtain ⟨R', hR', S6⟩ := HS5.out.grownG HR.out hown hgr (by
    rcases hob with e | e
    · exact .inl e
    · exact .inr e) (by decide)
  have hcap : ∃ g' cap' cur', v' = .slice (some ⟨g', 0, none⟩) (n + 1) cap' ∧ R' = [(g', .cells cur' 38)] ∧ n + 1 ≤ cap' ∧ ∀ i, i < (n + 1) * 6 → cur'[i]? = (xs.flatMap O.cells ++ (arN NL n).cells)[i]? := by
    rcases hR' with ⟨-, h0, -⟩ | ⟨g', cap', cur', h1, h2, h3, -, -, h4, -⟩
    · omega
    · exact ⟨g', cap', cur', h1, h2, h3, fun i hi => by rw [← h4, List.getElem?_take_of_lt hi, Array.getElem?_toList]⟩
  obtain ⟨g', cap', cur', rfl, rfl, hc1, hc2⟩ := hcap
  clear hown hgr hob HR HS5 hR'
  go_wp2_with fail
  refine (HG.out _ _ _ _ _ hc1 hc2 S6).mono ?_
  rintro r w7 ⟨rfl, S7⟩
  go_wp2_with fail
  go_ret
  exact ⟨rfl, S7.keep (((((List.sublist_cons_self _ _).trans (List.sublist_cons_self _ _)).trans (List.sublist_cons_self _ _)).trans (List.sublist_cons_self _ _)).trans (List.sublist_cons_self _ _))⟩
end Go.Proofs.YteglbjcdlekbpaaGreat
/- Walk: seq.load at astore. -/
namespace Go.Proofs.YteglbjcdlekbpaaGreat
open Go.RowKit

set_option maxRecDepth 100000 in
set_option maxHeartbeats 2000000 in
theorem astore_any {w0 w : World} {M : List (Nat × List C)} {K : List (Nat × Obj)} {sp hp : Nat} {l xs : List O} {L : List C} {N n : Nat} (S : StkAt w0 w ((hp, L) :: M) K sp (l ++ (xs ++ [arN N n]))) (hc : L[N]? = some (rowC (List.replicate n nullO))) (hN : N ≤ 2000) (hn : xs.length = n) (hx : ∀ o ∈ xs, ∃ v, o = iO v) :
    Calls Tryz.prog 112 #[ptr hp, ptr sp, .int .i64 54] w fun r w' => r = .returned (.int .i64 0) ∧ StkAt w0 w' ((hp, L.set N (rowC xs)) :: M) K sp (l ++ [arN N n]) := by
  have hlen := S.len
  have hmay := S.may
  have hll : (l ++ (xs ++ [arN N n])).length = l.length + n + 1 := by simp [hn]; omega
  have hn200 : n ≤ 200 := by omega
  have hNl := (List.getElem?_eq_some_iff.1 hc).1
  have hxm : ∀ o ∈ xs, mayO o = true := fun o ho => hmay o (List.mem_append_right _ (List.mem_append_left _ ho))
  have h0 : L.set N (rowC (filled xs n 0)) = L := by
    rw [filled_none]
    apply List.ext_getElem?
    intro j
    rw [List.getElem?_set]
    by_cases hj : N = j
    · subst hj; rw [if_pos rfl, if_pos hNl]; exact hc.symm
    · rw [if_neg hj]
  have eq1 : l ++ (xs ++ [arN N n]) = (l ++ xs) ++ [arN N n] := (List.append_assoc _ _ _).symm
  have HF := hid' (fun (w' : World) (g : Nat) (K' : List (Nat × Obj)) (S' : StkAt w0 w' ((hp, L) :: M) ((g, .cells #[.int .i64 512] 3) :: K') sp (l ++ (xs ++ [arN N n]))) => hand_from (l := l ++ xs) (ops := [arN N n]) (eq1 ▸ S') m0 [512] g m0 rfl (fun i k o h1 h2 => by
    rcases i with _ | i
    · simp at h1 h2; subst h1 h2; show isK 512 9 = true; decide +kernel
    · simp at h1) (fun o ho _ => by
      simp only [List.mem_cons, List.not_mem_nil, or_false] at ho
      subst ho
      exact may_a hc (by omega) (by simp; omega) n (by simp)) 1 rfl)
  rw [← eq1] at HF
  have HI := hid' (fun (w' : World) (K' : List (Nat × Obj)) (S' : StkAt w0 w' ((hp, L) :: M) K' sp (l ++ (xs ++ [arN N n]))) => stk_hitems S' m0 (arN N n) (items_a hc (by omega) (by simp; omega) n (by simp)) n (by simp))
  have HLE := hid' (fun (w' : World) (K' : List (Nat × Obj)) (S' : StkAt w0 w' ((hp, L) :: M) K' sp (l ++ (xs ++ [arN N n]))) => stk_len S')
  rw [hll] at HLE
  have HPK := hid' (fun (k : Nat) (v : Int) (hk : xs[k]? = some (iO v)) (w' : World) (K' : List (Nat × Obj)) (S' : StkAt w0 w' ((hp, L.set N (rowC (filled xs n k))) :: M) K' sp (l ++ (xs ++ [arN N n]))) => stk_peek S' (n - k) (l.length + k) (iO v) (by have := (List.getElem?_eq_some_iff.1 hk).1; rw [hll]; omega) (by
    have := (List.getElem?_eq_some_iff.1 hk).1
    rw [List.getElem?_append_right (by omega), show l.length + k - l.length = k by omega, List.getElem?_append_left this]
    exact hk))
  have HSE := hid' (fun (k : Nat) (v : Int) (hk : xs[k]? = some (iO v)) (w' : World) (K' : List (Nat × Obj)) (S' : StkAt w0 w' ((hp, L.set N (rowC (filled xs n k))) :: M) K' sp (l ++ (xs ++ [arN N n]))) => S'.ask (M' := (hp, L.set N (rowC (filled xs n (k + 1)))) :: M) (r := .int .i64 0) (fun K2 A => at_set A (arN N n) k (iO v) (by
    have hkl := (List.getElem?_eq_some_iff.1 hk).1
    have := set_a (L := L.set N (rowC (filled xs n k))) (N := N) (is := filled xs n k) (by rw [List.getElem?_set_self hNl]) (by omega) (by rw [filled_length xs n k hn (by omega)]; omega) n (by rw [filled_length xs n k hn (by omega)]) k (by rw [filled_length xs n k hn (by omega)]; omega) (iO v) (may_int _ v (hxm _ (List.mem_of_getElem? hk)))
    rw [this, List.set_set, filled_set xs n k hn _ hk])))
  have HG := hid' (fun (W : World) (g : Nat) (K' : List (Nat × Obj)) (cur : Array Value) (hc : cur.toList = [arN N n].flatMap O.cells) (S' : StkAt w0 W ((hp, L.set N (rowC (filled xs n n))) :: M) ((g, .cells cur 38) :: K') sp (l ++ (xs ++ [arN N n]))) => giveB S' hc (n + 1) (by simp [hn]) 1 rfl (by omega) (fun o ho => by
    simp only [List.mem_cons, List.not_mem_nil, or_false] at ho
    subst ho; exact mayO_arr _ _ (by omega) (by omega) (by omega) (by omega)))
  have HFA := hid' (filled_all xs n hn)
  have HXV := hid' (fun (k : Nat) (hk : k < n) => (show ∃ v, xs[k]? = some (iO v) by
    have hlt : k < xs.length := by omega
    obtain ⟨v, hv⟩ := hx _ (List.getElem_mem hlt)
    exact ⟨v, by rw [List.getElem?_eq_getElem hlt, hv]⟩))
  have HH0 := hid' h0
  obtain ⟨len, hle⟩ : ∃ len : Nat, l.length = len := ⟨_, rfl⟩
  rw [hle] at HLE
  have hq : len + n + 1 ≤ 200 := by omega
  have e1 : ((len + n + 1 : Nat) : Int) - 1 = len + n := by omega
  have e3 : (len : Int) + n + 1 - 1 = len + n := by omega
  have e2 : decide ((len : Int) + n < n) = false := by simp; omega
  have v1 := IntWalk.i64_in ((n : Int) + 1) (by omega)
  have S1 := S.alloc (.cells #[.int .i64 512] 3)
  generalize hNL : (N : Int) = NL at *
  generalize hlo : l ++ (xs ++ [arN NL n]) = lo at *
  clear S hc hx hn hN hlen hmay hll hNl hxm h0 eq1 hle hlo hNL
  go_enter Tryz.func112, Tryz.ntmps112
  go_wp2_with fail
  refine (HF.out _ _ _ S1).mono ?_
  rintro r w2 ⟨g, cur, rfl, hc, S2⟩
  have S2 : StkAt w0 w2 ((hp, L) :: M) ((g, Obj.cells cur 38) :: (w.heap.size, Obj.cells #[.int .i64 512] 3) :: K) sp lo := S2
  obtain ⟨q0, q1, q2, q3, q4, q5⟩ := at6 hc (m := 0) rfl
  simp only [Nat.zero_mul, Nat.zero_add] at q0 q1 q2 q3 q4 q5
  clear S1 hc HF
  (try clear Rg); (try clear yg); (try clear Zg)
  have Rg := cells_of (S2.box _ m0)
  have yg := blk_lt (S2.box _ m0)
  (try simp only at Rg yg)
  have S3 := S2.alloc (.cells #[.int .i64 9, .bool false, .int .i64 NL, .int .i64 0, .int .i64 n, .string ⟨#[]⟩] 38)
  go_upto_region 5 with (fail)
  generalize hW : w2.alloc _ = w3 at *
  generalize w2.heap.size = b2 at *
  clear hW S2 Rg yg q0 q1 q2 q3 q4 q5
  (try clear Ra); (try clear ya); (try clear Za)
  have Ra := cells_of (S3.box _ m0)
  have ya := blk_lt (S3.box _ m0)
  (try simp only at Ra ya)
  go_wp2_with fail
  refine (HI.out _ _ S3).mono ?_
  rintro r w4 ⟨R, v, rfl, hR, S4⟩
  obtain ⟨a, c, rfl, hac⟩ := rowG_slice hR
  clear S3 Ra ya hR HI hac
  have hma : (b2, Obj.cells #[.int .i64 9, .bool false, .int .i64 NL, .int .i64 0, .int .i64 n, .string ⟨#[]⟩] 38) ∈ R ++ (b2, Obj.cells #[.int .i64 9, .bool false, .int .i64 NL, .int .i64 0, .int .i64 n, .string ⟨#[]⟩] 38) :: (g, Obj.cells cur 38) :: (w.heap.size, Obj.cells #[.int .i64 512] 3) :: K := List.mem_append_right _ (List.mem_cons_self ..)
  go_wp2_with fail
  refine (HLE.out _ _ S4).mono ?_
  rintro r w5 ⟨rfl, rfl⟩
  rw [← HH0.out] at S4
  clear HLE HH0
  generalize hKB : R ++ (b2, Obj.cells #[.int .i64 9, .bool false, .int .i64 NL, .int .i64 0, .int .i64 n, .string ⟨#[]⟩] 38) :: (g, Obj.cells cur 38) :: (w.heap.size, Obj.cells #[.int .i64 512] 3) :: K = KB at *
  have HKB := hid' hKB
  clear hKB
  go_upto_region 12 with (fail)
  go_loopw [52] (fun cv wr => ∃ k : Nat, k ≤ n ∧ cv = .int .i64 k ∧ StkAt w0 wr ((hp, L.set N (rowC (filled xs n k))) :: M) KB sp lo) (fun cv _ => n - (intOf cv).toNat)
  case atStart => exact ⟨0, Nat.zero_le _, rfl, S4⟩
  case round =>
    obtain ⟨k, hk, rfl, S5⟩ := hrel
    clear S4
    by_cases hlt : k < n
    · obtain ⟨v, hv⟩ := HXV.out k hlt
      have HPV := hid' (HPK.out k v hv)
      have HSV := hid' (HSE.out k v hv)
      have dl : (k : Int) < n := by omega
      have ek : ((n - k : Nat) : Int) = n - k := by omega
      rw [ek] at HPV
      clear hv HPK HSE HG ek
      go_wp2_with fail
      refine (HPV.out _ _ S5).mono ?_
      rintro r w6 ⟨rfl, S6⟩
      have RA := cells_of (S6.box _ hma)
      have lA := blk_lt (S6.box _ hma)
      simp only at RA lA
      clear S5
      go_wp2_with fail
      refine (HSV.out _ _ (S6.alloc _)).mono ?_
      rintro r w7 ⟨rfl, S7⟩
      go_wp2_with fail
      go_roundw
      case rel => exact ⟨k + 1, by omega, by go_num, S7.keep (List.sublist_cons_self _ _)⟩
      case measure => simp [intOf]; omega
    · obtain rfl : k = n := by omega
      have RA := cells_of (S5.box _ hma)
      have lA := blk_lt (S5.box _ hma)
      simp only at RA lA
      clear HPK HSE
      go_wp2_with fail
      refine (HG.out _ _ _ _ ?_ (S5.alloc _)).mono ?_
      · rfl
      rintro r w7 ⟨rfl, S7⟩
      go_wp2_with fail
      go_ret
      rw [HFA.out] at S7
      exact ⟨rfl, S7.keep (by rw [← HKB.out]; exact ((((List.sublist_cons_self _ _).trans (List.sublist_cons_self _ _)).trans (List.sublist_cons_self _ _)).trans (List.sublist_append_right _ _)))⟩
end Go.Proofs.YteglbjcdlekbpaaGreat
/- Walk: seq.bracket. -/
namespace Go.Proofs.YteglbjcdlekbpaaGreat
open Go.RowKit

theorem cut_from (g N cap i : Nat) (hi : i ≤ N) :
    ∃ off, (∀ W, (Instr.slice 48 (.slice (some ⟨g, 0, none⟩) N cap) (some (.int .i64 i)) none none).run Tryz.prog W = .ok (.slice (some ⟨g, off, none⟩) (N - i) (cap - i)) W) ∧ (cap ≠ i → off = i * 6) := by
  refine ⟨if cap = i then 0 else i * 6, fun W => ?_, fun h => if_neg h⟩
  rw [run_slice_l (w := W) 48 (some ⟨g, 0, none⟩) N cap (by rw [Tryz.elemObjs]; exact Tryz.underObjs) .i64 i (by omega) (by omega), Tryz.elemObjs, sizeOf_obj]
  simp only [Result.andThen_ok, sliced, Option.map_some, Int.toNat_natCast]
  split
  · rfl
  · simp [Addr.add]
    exact fun h => h.symm
set_option maxRecDepth 100000 in
set_option maxHeartbeats 2000000 in
theorem bracket_any {w0 w : World} {M : List (Nat × List C)} {K : List (Nat × Obj)} {sp hp : Nat} {l xs : List O} {mk : O} {L : List C} (S : StkAt w0 w ((hp, L) :: M) K sp (l ++ mk :: xs)) (hm : mk.kind = 6) (hx : ∀ o ∈ xs, ∃ v, o = iO v) (n : Nat) (hn : xs.length = n) (h1 : L.length < 2000) (h2 : used L + n ≤ 40000) :
    Calls Tryz.prog 114 #[ptr hp, ptr sp] w fun r w' => r = .returned (.int .i64 0) ∧ StkAt w0 w' ((hp, L ++ [rowC xs]) :: M) K sp (l ++ [arN L.length n]) := by
  have hlen := S.len
  have hl2 : (l ++ mk :: xs).length = l.length + 1 + n := by simp [hn]; omega
  have hmay := S.may
  have hxm : ∀ o ∈ xs, mayO o = true := fun o ho => hmay o (List.mem_append_right _ (List.mem_cons_of_mem _ ho))
  have HTM := hid' (fun (w' : World) (K' : List (Nat × Obj)) (S' : StkAt w0 w' ((hp, L) :: M) K' sp (l ++ mk :: xs)) => stk_tomark S' hm (fun o ho => by obtain ⟨v, rfl⟩ := hx o ho; show ¬ (3 : Int) = 6; decide) n hn)
  have HIT := hid' (fun (w' : World) (K' : List (Nat × Obj)) (S' : StkAt w0 w' ((hp, L) :: M) K' sp (l ++ mk :: xs)) => stk_items S' (by omega) (l.length + 1 + n) hl2)
  have HLE := hid' (fun (w' : World) (K' : List (Nat × Obj)) (S' : StkAt w0 w' ((hp, L) :: M) K' sp (l ++ mk :: xs)) => stk_len S')
  rw [hl2] at HLE
  have hH : HeldAll L xs := fun o ho hk => by
    obtain ⟨v, rfl⟩ := hx o ho
    exact absurd hk (by show ¬ isK 1792 3 = true; decide +kernel)
  have HHE := hid' (fun (w' : World) (g off cap : Nat) (cur : Array Value) (K' : List (Nat × Obj)) (hcap : n ≤ cap) (hc : ∀ m o, xs[m]? = some o → ∀ j, j < 6 → cur[off + m * 6 + j]? = o.cells[j]?) (S' : StkAt w0 w' ((hp, L) :: M) ((g, .cells cur 38) :: K') sp (l ++ mk :: xs)) =>
    hand_held (ops := xs) S' m0 n g cap cur off hn (by omega) hcap m0 hc (fun o ho => by obtain ⟨v, rfl⟩ := hx o ho; exact ⟨by show (0 : Int) ≤ 3; decide, by show (3 : Int) ≤ 12; decide⟩) hH)
  have har := array_a L n h1 h2
  have HAR := hid' (fun (w' : World) (K' : List (Nat × Obj)) (S' : StkAt w0 w' ((hp, L) :: M) K' sp (l ++ mk :: xs)) => S'.ask (M' := (hp, L ++ [rowC (filled xs n 0)]) :: M) (r := .tuple #[(arN L.length n).val, .int .i64 0]) (fun K2 A => at_array A n (by rw [filled_none]; exact har)))
  have HSE := hid' (fun (k : Nat) (v : Int) (hk : xs[k]? = some (iO v)) (w' : World) (K' : List (Nat × Obj)) (S' : StkAt w0 w' ((hp, L ++ [rowC (filled xs n k)]) :: M) K' sp (l ++ mk :: xs)) => S'.ask (M' := (hp, L ++ [rowC (filled xs n (k + 1))]) :: M) (r := .int .i64 0) (fun K2 A => at_set A (arN L.length n) k (iO v) (by
    have hkl := (List.getElem?_eq_some_iff.1 hk).1
    have := set_a (L := L ++ [rowC (filled xs n k)]) (N := L.length) (is := filled xs n k) (by simp) (by omega) (by rw [filled_length xs n k hn (by omega)]; omega) n (by rw [filled_length xs n k hn (by omega)]) k (by rw [filled_length xs n k hn (by omega)]; omega) (iO v) (may_int _ v (hxm _ (List.mem_of_getElem? hk)))
    rw [this, set_last, filled_set xs n k hn _ hk])))
  have HG := hid' (fun (W : World) (g : Nat) (K' : List (Nat × Obj)) (cur : Array Value) (hc : cur.toList = [arN L.length n].flatMap O.cells) (S' : StkAt w0 W ((hp, L ++ [rowC (filled xs n n)]) :: M) ((g, .cells cur 38) :: K') sp (l ++ mk :: xs)) => giveB S' hc (n + 1) (by simp [hn]) 1 rfl (by omega) (fun o ho => by
    simp only [List.mem_cons, List.not_mem_nil, or_false] at ho
    subst ho; exact mayO_arr _ _ (by omega) (by omega) (by omega) (by omega)))
  have HFA := hid' (filled_all xs n hn)
  have HXV := hid' (fun (k : Nat) (hk : k < n) => (show ∃ v, xs[k]? = some (iO v) by
    have hlt : k < xs.length := by omega
    obtain ⟨v, hv⟩ := hx _ (List.getElem_mem hlt)
    exact ⟨v, by rw [List.getElem?_eq_getElem hlt, hv]⟩))
  have HFL := hid' (fun (m j : Nat) (o : O) (hj : j < 6) (h : xs[m]? = some o) => (show ((l ++ mk :: xs).flatMap O.cells)[(l.length + 1 + m) * 6 + j]? = o.cells[j]? from
    flat_at _ _ j o (by rw [List.getElem?_append_right (by omega), show l.length + 1 + m - l.length = m + 1 by omega, List.getElem?_cons_succ]; exact h) hj))
  have HXN := hid' hn
  obtain ⟨len, hle⟩ : ∃ len : Nat, l.length + 1 = len := ⟨_, rfl⟩
  rw [hle] at HIT HLE HFL
  have hq : len + n ≤ 200 := by omega
  have hq0 : 0 < len := by omega
  have e1 : ((len + n : Nat) : Int) - n = len := by omega
  have e2 : (len : Int) + n - n = len := by omega
  have v1 := IntWalk.i64_in ((n : Int) + 1) (by omega)
  have i1 : (n : Int) ≤ 200 := by omega
  generalize (L.length : Int) = NL at *
  clear hlen hl2 hmay hxm hH har h1 h2 hx hn hm hle
  generalize hlo : l ++ mk :: xs = lo at *
  clear hlo
  go_enter Tryz.func114, Tryz.ntmps114
  go_wp2_with fail
  refine (HTM.out _ _ S).mono ?_
  rintro r w2 ⟨rfl, S2⟩
  clear S HTM
  go_wp2_with fail
  refine (HIT.out _ _ S2).mono ?_
  rintro r w3 ⟨g, cap, cur, rfl, hcap, S3, hcur⟩
  clear S2 HIT
  obtain ⟨off, hsl, hoff⟩ := cut_from g (len + n) cap len (by omega)
  rw [show len + n - len = n by omega] at hsl
  have hc2 : ∀ m o, xs[m]? = some o → ∀ j, j < 6 → cur[off + m * 6 + j]? = o.cells[j]? := fun m o h j hj => by
    have hmn : m < n := by rw [← HXN.out]; exact (List.getElem?_eq_some_iff.1 h).1
    rw [hoff (by omega), show len * 6 + m * 6 + j = (len + m) * 6 + j by omega, hcur _ (by omega)]
    exact HFL.out m j o hj h
  have HC2 := hid' hc2
  have HCP := hid' (show n ≤ cap - len by omega)
  clear hc2 hcur hoff HFL HXN hcap
  go_wp2_with fail
  refine (HLE.out _ _ S3).mono ?_
  rintro r w4 ⟨rfl, rfl⟩
  go_wp2_with fail
  refine (HHE.out _ _ _ _ _ _ HCP.out HC2.out S3).mono ?_
  rintro r w5 ⟨rfl, S4⟩
  clear S3 hsl HHE HLE
  go_wp2_with fail
  refine (HAR.out _ _ S4).mono ?_
  rintro r w6 ⟨rfl, S5⟩
  have S6 := S5.alloc (.cells #[.int .i64 9, .bool false, .int .i64 NL, .int .i64 0, .int .i64 n, .string ⟨#[]⟩] 38)
  generalize hg : w6.heap.size = g6 at *
  clear S4 HAR
  go_upto_region 11 with (fail)
  generalize hW : w6.alloc _ = w7 at *
  clear hW hg S5
  obtain ⟨KB, hKB⟩ : ∃ KB, KB = (g6, Obj.cells #[.int .i64 9, .bool false, .int .i64 NL, .int .i64 0, .int .i64 n, .string ⟨#[]⟩] 38) :: (g, Obj.cells cur 38) :: K := ⟨_, rfl⟩
  have nO : (g6, Obj.cells #[.int .i64 9, .bool false, .int .i64 NL, .int .i64 0, .int .i64 n, .string ⟨#[]⟩] 38) ∈ KB := by rw [hKB]; exact m0
  have nG : (g, Obj.cells cur 38) ∈ KB := by rw [hKB]; exact m1
  rw [← hKB] at S6
  have HKB := hid' hKB
  clear hKB
  go_wp2_with fail
  go_loopw [43] (fun cv wr => ∃ k : Nat, k ≤ n ∧ cv = .int .i64 k ∧ StkAt w0 wr ((hp, L ++ [rowC (filled xs n k)]) :: M) KB sp lo) (fun cv _ => n - (intOf cv).toNat)
  case atStart => exact ⟨0, Nat.zero_le _, rfl, S6⟩
  case round =>
    obtain ⟨k, hk, rfl, S7⟩ := hrel
    clear S6
    by_cases hlt : k < n
    · obtain ⟨v, hv⟩ := HXV.out k hlt
      have HSV := hid' (HSE.out k v hv)
      have q0 := HC2.out k _ hv 0 (by decide)
      have q1 := HC2.out k _ hv 1 (by decide)
      have q2 := HC2.out k _ hv 2 (by decide)
      have q3 := HC2.out k _ hv 3 (by decide)
      have q4 := HC2.out k _ hv 4 (by decide)
      have q5 := HC2.out k _ hv 5 (by decide)
      simp only [O.cells, List.getElem?_cons_zero, List.getElem?_cons_succ, Nat.add_zero] at q0 q1 q2 q3 q4 q5
      have dl : (k : Int) < n := by omega
      have RG := cells_of (S7.box _ nG)
      have RO := cells_of (S7.box _ nO)
      have lG := blk_lt (S7.box _ nG)
      have lO := blk_lt (S7.box _ nO)
      simp only at RG RO lG lO
      clear hv HSE HG
      go_wp2_with fail
      refine (HSV.out _ _ (S7.alloc _)).mono ?_
      rintro r w9 ⟨rfl, S8⟩
      go_wp2_with fail
      go_roundw
      case rel => exact ⟨k + 1, by omega, by go_num, S8.keep (List.sublist_cons_self _ _)⟩
      case measure => simp [intOf]; omega
    · obtain rfl : k = n := by omega
      have RO := cells_of (S7.box _ nO)
      have lO := blk_lt (S7.box _ nO)
      simp only at RO lO
      clear HSE
      go_wp2_with fail
      refine (HG.out _ _ _ _ ?_ (S7.alloc _)).mono ?_
      · rfl
      rintro r w9 ⟨rfl, S8⟩
      go_wp2_with fail
      go_ret
      rw [HFA.out] at S8
      exact ⟨rfl, S8.keep (by rw [HKB.out]; exact ((List.sublist_cons_self _ _).trans (List.sublist_cons_self _ _)))⟩
end Go.Proofs.YteglbjcdlekbpaaGreat
/- Walk: tympanhelp.Same of two rows of objects that are alike; more of the law's steps. -/
namespace Go.Proofs.YteglbjcdlekbpaaGreat
open Go.RowKit

/-- A slice of objects that w holds. -/
def RowOf (w : World) (v : Value) (n : Nat) (xs : List O) : Prop :=
  ∃ a c, v = .slice a n c ∧ n ≤ c ∧ (0 < n → ∃ g cur fz, a = some ⟨g, 0, none⟩ ∧ w.heap[g]? = some (.cells cur 38 fz) ∧ ∀ m o, xs[m]? = some o → ∀ j, j < 6 → cur[m * 6 + j]? = o.cells[j]?)
set_option maxRecDepth 100000 in
theorem same_rows (w : World) (va vb : Value) (n : Nat) (xs : List O) (hn : xs.length = n) (hn9 : n ≤ 100000) (ha : RowOf w va n xs) (hb : RowOf w vb n xs) :
    Calls Tryz.prog 21 #[va, vb] w fun e w' => e = .returned (.bool true) ∧ Chg NoB w w' := by
  obtain ⟨a, c, rfl, hac, hra⟩ := ha
  obtain ⟨b, d, rfl, hbd, hrb⟩ := hb
  have HRA := hid' hra
  have HRB := hid' hrb
  have HN := hid' hn
  clear hra hrb hn
  go_enter Tryz.func21, Tryz.ntmps21
  go_wp2_with fail
  go_loopw [5] (fun cv wr => ∃ k : Nat, k ≤ n ∧ cv = .int .i64 k ∧ Chg NoB w wr) (fun cv _ => n - (intOf cv).toNat)
  case atStart => exact ⟨0, Nat.zero_le _, rfl, Chg.refl _ _⟩
  case round =>
    obtain ⟨k, hk, rfl, X⟩ := hrel
    by_cases hlt : k < n
    · obtain ⟨g, cur, fz, rfl, hg, hc⟩ := HRA.out (by omega)
      obtain ⟨g', cur', fz', rfl, hg', hc'⟩ := HRB.out (by omega)
      have hkl : k < xs.length := by rw [HN.out]; exact hlt
      have ho : xs[k]? = some xs[k] := List.getElem?_eq_getElem hkl
      have Q := hc k _ ho
      have Q' := hc' k _ ho
      have R1 := cells_of (X.blk hg id)
      have R2 := cells_of (X.blk hg' id)
      have l1 := blk_lt (X.blk hg id)
      have l2 := blk_lt (X.blk hg' id)
      generalize xs[k] = o at *
      have qe : eqO o o = true := eqO_self _
      obtain ⟨kk, kx, kn, kp, kl, ks⟩ := o
      have q0 := Q 0 (by decide)
      have q1 := Q 1 (by decide)
      have q2 := Q 2 (by decide)
      have q3 := Q 3 (by decide)
      have q4 := Q 4 (by decide)
      have q5 := Q 5 (by decide)
      have p0 := Q' 0 (by decide)
      have p1 := Q' 1 (by decide)
      have p2 := Q' 2 (by decide)
      have p3 := Q' 3 (by decide)
      have p4 := Q' 4 (by decide)
      have p5 := Q' 5 (by decide)
      simp only [O.cells, List.getElem?_cons_zero, List.getElem?_cons_succ, Nat.add_zero] at q0 q1 q2 q3 q4 q5 p0 p1 p2 p3 p4 p5
      have vk := IntWalk.i64_in ((k : Int) + 1) (by omega)
      have dl : (k : Int) < n := by omega
      have dc : (n : Int) ≤ c := by omega
      have dd : (n : Int) ≤ d := by omega
      clear Q Q' hc hc' ho hg hg'
      go_wp2_with fail
      go_quiet (fail)
      go_wp2_with fail
      go_roundw
      case rel => exact ⟨k + 1, by omega, by go_num, X.drewN _⟩
      case measure => simp [intOf]; omega
    · obtain rfl : k = n := by omega
      go_wp2_with fail
      go_ret
      exact ⟨rfl, X⟩
section
variable {w0 : World} {hp sp gp tp : Nat} {KB : List (Nat × Obj)}
theorem FQ.array {x y : QX} (n : Int) {L' : List C} {o : O} {e : Int} (hr : arrayH x.1 n = (L', o, e)) (hy : (L', x.2.1, x.2.2.1, x.2.2.2) = y) (W : World) (S : FQ w0 hp sp gp tp KB x W) :
    Calls Tryz.prog 38 #[ptr hp, .int .i64 n] W fun r w' => r = .returned (.tuple #[o.val, .int .i64 e]) ∧ FQ w0 hp sp gp tp KB y w' := by
  subst hy
  exact SeqAt.stk (L' := L') (l' := x.2.2.1) (r := .tuple #[o.val, .int .i64 e]) S (fun _ S2 => S2.ask (M' := [(hp, L')]) (fun _ A => at_array A n hr))
theorem FQ.pop {x y : QX} (l : List O) (o : O) (hl : x.2.2.1 = l ++ [o]) (hy : (x.1, x.2.1, l, x.2.2.2) = y) (W : World) (S : FQ w0 hp sp gp tp KB x W) :
    Calls Tryz.prog 39 #[ptr sp] W fun r w' => r = .returned (.tuple #[o.val, .int .i64 0]) ∧ FQ w0 hp sp gp tp KB y w' := by
  subst hy
  refine SeqAt.stk (L' := x.1) (l' := l) (r := .tuple #[o.val, .int .i64 0]) S (fun _ S2 => ?_)
  rw [hl] at S2
  exact stk_pop S2
theorem FQ.spush {x y : QX} (o : O) (hm : mayO o = true) (h1 : x.2.2.1.length < 200) (hy : (x.1, x.2.1, x.2.2.1 ++ [o], x.2.2.2) = y) (W : World) (S : FQ w0 hp sp gp tp KB x W) :
    Calls Tryz.prog 19 #[ptr sp, o.val] W fun r w' => r = .returned (.int .i64 0) ∧ FQ w0 hp sp gp tp KB y w' := by
  subst hy
  exact SeqAt.stk (L' := x.1) (l' := x.2.2.1 ++ [o]) (r := .int .i64 0) S (fun _ S2 => stk_push S2 o hm h1)
theorem seq_row {R E F K : List (Nat × Obj)} : (R ++ (E ++ (F ++ K))).Perm (E ++ (F ++ (R ++ K))) := by
  classical refine List.perm_iff_count.2 fun x => ?_
  simp only [List.count_append]
  omega
theorem FQ.hitems {x : QX} (o : O) {xs : List O} {e : Int} (hr : itemsH x.1 o = (xs, e)) (n : Nat) (hn : xs.length = n) (W : World) (S : FQ w0 hp sp gp tp KB x W) :
    Calls Tryz.prog 40 #[ptr hp, o.val] W fun r w' => ∃ R v, r = .returned (.tuple #[v, .int .i64 e]) ∧ RowG 38 6 R v n (xs.flatMap O.cells) ∧ FQ w0 hp sp gp tp (R ++ KB) x w' := by
  obtain ⟨E, F, HE, HF, S⟩ := S
  exact (stk_hitems S m0 o hr n hn).mono fun r w' ⟨R, v, h1, h2, h3⟩ => ⟨R, v, h1, h2, E, F, HE, HF, h3.perm seq_row⟩
theorem FQ.sitems {x : QX} (hl : 0 < x.2.2.1.length) (n : Nat) (hn : x.2.2.1.length = n) (W : World) (S : FQ w0 hp sp gp tp KB x W) :
    Calls Tryz.prog 20 #[ptr sp] W fun r w' => ∃ g cap cur, r = .returned (.slice (some ⟨g, 0, none⟩) n cap) ∧ n ≤ cap ∧ FQ w0 hp sp gp tp ((g, .cells cur 38) :: KB) x w' ∧ ∀ m o, x.2.2.1[m]? = some o → ∀ j, j < 6 → cur[m * 6 + j]? = o.cells[j]? := by
  obtain ⟨E, F, HE, HF, S⟩ := S
  refine (stk_items S hl n hn).mono fun r w' ⟨g, cap, cur, h1, h2, h3, h4⟩ => ⟨g, cap, cur, h1, h2, ⟨E, F, HE, HF, ?_⟩, fun m o ho j hj => ?_⟩
  · exact h3.perm (seq_row (R := [(g, .cells cur 38)]))
  · have hml : m < n := by rw [← hn]; exact (List.getElem?_eq_some_iff.1 ho).1
    rw [h4 _ (by omega)]
    exact flat_at _ m j o ho hj
theorem RowOf.of {R : List (Nat × Obj)} {v : Value} {n : Nat} {xs : List O} {W : World} (h : RowG 38 6 R v n (xs.flatMap O.cells)) (hn : xs.length = n) (hb : ∀ q ∈ R, W.heap[q.1]? = some q.2) : RowOf W v n xs := by
  rcases h with ⟨rfl, rfl, -, -⟩ | ⟨g, cap, cur, rfl, rfl, h1, -, -, h2, -⟩
  · exact ⟨none, 0, rfl, Nat.le_refl _, fun h => absurd h (by omega)⟩
  · refine ⟨_, cap, rfl, h1, fun _ => ⟨g, cur, _, rfl, hb _ (List.mem_cons_self ..), fun m o ho j hj => ?_⟩⟩
    have hml : m < n := by rw [← hn]; exact (List.getElem?_eq_some_iff.1 ho).1
    have := flat_at xs m j o ho hj
    rw [← h2, List.getElem?_take_of_lt (by omega), Array.getElem?_toList] at this
    exact this
end
end Go.Proofs.YteglbjcdlekbpaaGreat
