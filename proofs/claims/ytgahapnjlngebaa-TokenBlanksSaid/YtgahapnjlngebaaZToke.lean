/- Pra, Prh, Pri, Prj, Prk -/
import Derived.Test.YtgahapnjlngebaaZPrg
import Derived.Test.YtgahapnjlngebaaZTokc
import Derived.Test.YtgahapnjlngebaaZTxw
import Derived.Test.YtgahapnjlngebaaZSayc
/- Walk: token.Print. -/
namespace Go.Proofs.Ytgahapnjlngebaa
open Go.RowKit

set_option maxRecDepth 100000 in
set_option maxHeartbeats 1000000 in
/-- Where a word that may not be stands among them. -/
theorem print_bad {w : World} {v : Value} {l : List Tok} (hv : ToksAt w v l) (hn : l.length ≤ 9223372036854775807) (i : Nat) (t : Tok) (hi : l[i]? = some t) (hm : mayT t = false) (hb : ∀ j u, j < i → l[j]? = some u → mayT u = true)
    (HMAY : ∀ t ∈ l, ∀ w, Calls Try.prog 16 #[t.val] w fun r w' => r = .returned (.bool (mayT t)) ∧ Chg NoB w w') :
    Calls Try.prog 15 #[v] w fun r w' => r = .returned (.tuple #[.string ⟨#[]⟩, .int .i64 1]) ∧ Chg NoB w w' := by
  obtain ⟨a, c, rfl, hc, hv⟩ := hv
  obtain ⟨hlt, hi'⟩ := List.getElem?_eq_some_iff.1 hi
  obtain ⟨b, off, rfl, hbl, hv⟩ := hv (by omega)
  have HV := hid' hv
  have HB := hid' hb
  have HM := hid' HMAY
  have HI := hid' hi
  have HT := hid' hm
  clear hv hb HMAY hi hi' hm
  go_enter Try.func15, Try.ntmps15
  go_wp2_with fail
  go_loopw [11] (fun iv wr => ∃ j : Nat, j ≤ i ∧ iv = .int .i64 j ∧ Chg NoB w wr) (fun iv _ => i + 1 - (intOf iv).toNat)
  case atStart => exact ⟨0, Nat.zero_le _, rfl, Chg.refl _ _⟩
  case round =>
    obtain ⟨j, hj, rfl, X⟩ := hrel
    have hlt' : (j : Int) < l.length := by omega
    have h0j : (0 : Int) ≤ j := by omega
    obtain ⟨x, hx⟩ : ∃ x, l[j]? = some x := ⟨l[j]'(by omega), List.getElem?_eq_getElem _⟩
    have hxm := HM.out x (List.mem_of_getElem? hx)
    obtain ⟨c1, c2, c3, c4⟩ := (HV.out j x hx).pure X
    have bl : b < wr.heap.size := Nat.lt_of_lt_of_le hbl X.size
    obtain ⟨xv, hxv⟩ : ∃ xv, mayT x = xv := ⟨_, rfl⟩
    rw [hxv] at hxm
    have hcase : xv = true ∧ j < i ∨ xv = false ∧ j = i := by
      by_cases e : j < i
      · exact .inl ⟨by rw [← hxv]; exact HB.out j x e hx, e⟩
      · obtain rfl : j = i := by omega
        have := HI.out.symm.trans hx
        injection this with this
        subst this
        exact .inr ⟨by rw [← hxv]; exact HT.out, rfl⟩
    have HX := hid' hxm
    have X1 := X.alloc (tokBox x.kind x.n x.s x.pos)
    obtain ⟨xk, xn, xs, xp⟩ := x
    simp only at c1 c2 c3 c4 X1
    clear hx hxm hxv
    go_wp2_with fail
    refine (HX.out _).mono ?_
    rintro r w2 ⟨rfl, X2⟩
    have X3 := X1.trans X2
    clear X X1 X2 c1 c2 c3 c4
    rcases hcase with ⟨rfl, e⟩ | ⟨rfl, rfl⟩
    · go_wp2_with fail
      go_roundw
      case rel => exact ⟨j + 1, by omega, by go_num, X3⟩
      case measure => simp [intOf]; omega
    · go_wp2_with fail
      exact bodyPost_ret (v := .tuple #[.string ⟨#[]⟩, .int .i64 1]) (by simp [results, Try.results15, go_sem]) rfl ⟨rfl, X3⟩
end Go.Proofs.Ytgahapnjlngebaa
/- Walk: token.Print where all words may be. -/
namespace Go.Proofs.Ytgahapnjlngebaa
open Go.RowKit

set_option maxRecDepth 100000 in
set_option maxHeartbeats 1000000 in
/-- No word at all. -/
theorem print_none {w : World} {v : Value} (hv : ToksAt w v []) :
    Calls Try.prog 15 #[v] w fun r w' => r = .returned (.tuple #[.string ⟨#[]⟩, .int .i64 0]) ∧ Chg NoB w w' := by
  obtain ⟨a, c, rfl, hc, hv⟩ := hv
  clear hv
  have HCV : ∀ w, (convert 35 9 (.slice none 0 0)).run Try.prog w = .ok (.string ⟨#[]⟩) w := fun w => own_strF (B := 0) (b := []) (World.ownsRow_nil _ _ _ _)
  go_enter Try.func15, Try.ntmps15
  go_wp2_with fail
  go_loopw [11] (fun iv wr => iv = .int .i64 0 ∧ Chg NoB w wr) (fun iv _ => 1 - (intOf iv).toNat)
  case atStart => exact ⟨rfl, Chg.refl _ _⟩
  case round =>
    obtain ⟨rfl, X⟩ := hrel
    go_wp2_with fail
    go_loopw [24, 6] (fun iv ov wr => iv = .int .i64 0 ∧ ov = .slice none 0 0 ∧ Chg NoB w wr) (fun iv _ _ => 1 - (intOf iv).toNat)
    case atStart => exact ⟨rfl, rfl, X⟩
    case round =>
      obtain ⟨rfl, rfl, X2⟩ := hrel
      go_wp2_with fail
      refine bodyPost_ret (v := .tuple #[.string ⟨#[]⟩, .int .i64 0]) (by simp [results, Try.results15, go_sem]) rfl ?_
      exact ⟨rfl, X2⟩
end Go.Proofs.Ytgahapnjlngebaa
/- Walk: token.Print where all words may be (the first loop, and more than 4000 words). -/
namespace Go.Proofs.Ytgahapnjlngebaa
open Go.RowKit

set_option maxRecDepth 100000 in
set_option maxHeartbeats 1000000 in
theorem print_many {w : World} {v : Value} {l : List Tok} (hv : ToksAt w v l) (hn : l.length ≤ 9223372036854775807) (h4 : 4000 < l.length) (hm : ∀ t ∈ l, mayT t = true)
    (HMAY : ∀ t ∈ l, ∀ w, Calls Try.prog 16 #[t.val] w fun r w' => r = .returned (.bool (mayT t)) ∧ Chg NoB w w') :
    Calls Try.prog 15 #[v] w fun r w' => r = .returned (.tuple #[.string ⟨#[]⟩, .int .i64 5]) ∧ Chg NoB w w' := by
  obtain ⟨a, c, rfl, hc, hv⟩ := hv
  obtain ⟨b, off, rfl, hbl, hv⟩ := hv (by omega)
  have HV := hid' hv
  have HM := hid' (fun t ht w => by have := HMAY t ht w; rwa [hm t ht] at this : ∀ t ∈ l, ∀ w, Calls Try.prog 16 #[t.val] w fun r w' => r = .returned (.bool true) ∧ Chg NoB w w')
  have h4' : 4000 < (l.length : Int) := by omega
  clear hv HMAY hm
  go_enter Try.func15, Try.ntmps15
  go_wp2_with fail
  go_loopw [11] (fun iv wr => ∃ j : Nat, j ≤ l.length ∧ iv = .int .i64 j ∧ Chg NoB w wr) (fun iv _ => l.length - (intOf iv).toNat)
  case atStart => exact ⟨0, Nat.zero_le _, rfl, Chg.refl _ _⟩
  case round =>
    obtain ⟨j, hj, rfl, X⟩ := hrel
    by_cases hlt : j < l.length
    · have hlt' : (j : Int) < l.length := by omega
      have h0j : (0 : Int) ≤ j := by omega
      obtain ⟨x, hx⟩ : ∃ x, l[j]? = some x := ⟨l[j]'(by omega), List.getElem?_eq_getElem _⟩
      have HX := hid' (HM.out x (List.mem_of_getElem? hx))
      obtain ⟨c1, c2, c3, c4⟩ := (HV.out j x hx).pure X
      have bl : b < wr.heap.size := Nat.lt_of_lt_of_le hbl X.size
      have X1 := X.alloc (tokBox x.kind x.n x.s x.pos)
      obtain ⟨xk, xn, xs, xp⟩ := x
      simp only at c1 c2 c3 c4 X1
      clear hx
      go_wp2_with fail
      refine (HX.out _).mono ?_
      rintro r w2 ⟨rfl, X2⟩
      have X3 := X1.trans X2
      clear X X1 X2 c1 c2 c3 c4
      go_wp2_with fail
      go_roundw
      case rel => exact ⟨j + 1, by omega, by go_num, X3⟩
      case measure => simp [intOf]; omega
    · obtain rfl : j = l.length := by omega
      go_wp2_with fail
      exact bodyPost_ret (v := .tuple #[.string ⟨#[]⟩, .int .i64 5]) (by simp [results, Try.results15, go_sem]) rfl ⟨rfl, X⟩
end Go.Proofs.Ytgahapnjlngebaa
/- Plain: how long a printed word is; a row of bytes that grows by a blank, by a text. -/
namespace Go.Proofs.Ytgahapnjlngebaa
open Go.RowKit

theorem print_len (t : Tok) (hm : mayT t = true) : (printL t).length ≤ 17000 := by
  obtain ⟨k, n, s, p⟩ := t
  unfold mayT at hm
  unfold printL
  simp only at hm ⊢
  have hs := size_lst s
  by_cases h1 : k = 1
  · rw [if_pos h1] at hm ⊢
    simp only [Bool.and_eq_true, decide_eq_true_eq] at hm
    have := decL_short n (by omega) (by omega)
    omega
  rw [if_neg h1] at hm ⊢
  by_cases h2 : k = 2
  · rw [if_pos h2] at hm ⊢
    simp only [Bool.and_eq_true, decide_eq_true_eq] at hm
    have := fix_len n (by omega) (by omega)
    omega
  rw [if_neg h2] at hm ⊢
  by_cases hn : n ≠ 0
  · rw [if_pos hn] at hm; exact absurd hm (by decide)
  rw [if_neg hn] at hm
  by_cases h3 : k = 3
  · rw [if_pos h3] at hm ⊢
    simp only [Bool.and_eq_true, decide_eq_true_eq] at hm
    omega
  rw [if_neg h3] at hm ⊢
  by_cases h4 : k = 4
  · rw [if_pos h4]; rw [if_pos (.inl h4)] at hm
    simp only [Bool.and_eq_true, decide_eq_true_eq] at hm
    rw [List.length_cons]; omega
  rw [if_neg h4]
  by_cases h5 : k = 5
  · rw [if_pos h5]; rw [if_pos (.inr h5)] at hm
    simp only [Bool.and_eq_true, decide_eq_true_eq] at hm
    rw [List.length_cons, List.length_cons]; omega
  rw [if_neg (fun h => h.elim h4 h5)] at hm
  rw [if_neg h5]
  by_cases h6 : k = 6
  · rw [if_pos h6] at hm ⊢
    simp only [decide_eq_true_eq] at hm
    have := quote_len s.toList
    show (40 :: (quoteQ s.toList ++ [41])).length ≤ 17000
    simp; omega
  rw [if_neg h6]
  unfold signL
  repeat' split
  all_goals simp
end Go.Proofs.Ytgahapnjlngebaa
/- Walk: token.Print where all words may be: the second loop. -/
namespace Go.Proofs.Ytgahapnjlngebaa
open Go.RowKit

theorem QOwn.txt {w0 w w2 w3 : World} {v v' : Value} {b m : List UInt8} (A : QOwn w0 w v b) (X : Chg NoB w w2)
    (hown : w3.ownsRow w0.heap.size 5 1 v' (b.length + m.length) (u8L b ++ u8L m)) (hgr : w2.grownBy w3 v.ownBlock) : QOwn w0 w3 v' (b ++ m) := by
  refine ⟨Chg.grown (A.1.pure X) hgr (fun k hk => .inr (own_ge A.2 k (by rw [hk]; simp)).1), ?_⟩
  rw [List.length_append]
  have e : u8L (b ++ m) = u8L b ++ u8L m := by simp [u8L]
  rw [e]
  exact hown
theorem QOwn.blank {w0 w w2 w3 : World} {v v' : Value} {b : List UInt8} (A : QOwn w0 w v b) (X : Chg NoB w w2)
    (hown : w3.ownsRow w0.heap.size 5 1 v' (b.length + 1) (u8L b ++ [u8V 32])) (hgr : w2.grownBy w3 v.ownBlock) : QOwn w0 w3 v' (b ++ [32]) := by
  refine ⟨Chg.grown (A.1.pure X) hgr (fun k hk => .inr (own_ge A.2 k (by rw [hk]; simp)).1), ?_⟩
  rw [List.length_append]
  have e : u8L (b ++ [32]) = u8L b ++ [u8V 32] := by simp [u8L]
  rw [e]
  exact hown
theorem QOwn.txt2 {w0 w w2 w3 : World} {v v' : Value} {b m : List UInt8} (A : QOwn w0 w v (b ++ [32])) (X : Chg NoB w w2)
    (hown : w3.ownsRow w0.heap.size 5 1 v' (b.length + 1 + m.length) (List.map u8V b ++ u8V 32 :: u8L m)) (hgr : w2.grownBy w3 v.ownBlock) : QOwn w0 w3 v' (b ++ [32] ++ m) := by
  refine QOwn.txt A X ?_ hgr
  have e : u8L (b ++ [32]) ++ u8L m = List.map u8V b ++ u8V 32 :: u8L m := by simp [u8L]
  rw [e, List.length_append]
  exact hown
theorem QOwn.pure {w0 w w2 : World} {v : Value} {b : List UInt8} (A : QOwn w0 w v b) (X : Chg NoB w w2) : QOwn w0 w2 v b := ⟨A.1.pure X, ownB A.2 X (fun _ _ e => e)⟩

set_option maxRecDepth 100000 in
set_option maxHeartbeats 2000000 in
theorem print_good {w : World} {v : Value} {l : List Tok} (hv : ToksAt w v l) (h4 : l.length ≤ 4000) (h1 : 0 < l.length) (hm : ∀ t ∈ l, mayT t = true) (R : List UInt8 × Int)
    (hR : (if 20000 < (printsL l).length then ([], 5) else (printsL l, 0)) = R)
    (HMAY : ∀ t ∈ l, ∀ w, Calls Try.prog 16 #[t.val] w fun r w' => r = .returned (.bool (mayT t)) ∧ Chg NoB w w') :
    Calls Try.prog 15 #[v] w fun r w' => r = .returned (.tuple #[.string (bytesB R.1), .int .i64 R.2]) ∧ Chg NoB w w' := by
  obtain ⟨a, c, rfl, hc, hv⟩ := hv
  obtain ⟨b, off, rfl, hbl, hv⟩ := hv (by omega)
  obtain ⟨i0, hi0, hz0, hz1, hz2⟩ := info_parts tq_info
  have HV := hid' hv
  have HM := hid' (fun t ht w => by have := HMAY t ht w; rwa [hm t ht] at this : ∀ t ∈ l, ∀ w, Calls Try.prog 16 #[t.val] w fun r w' => r = .returned (.bool true) ∧ Chg NoB w w')
  have HT := hid' (fun t (ht : t ∈ l) w => text_any t (hm t ht) w)
  have HL := hid' (fun t (ht : t ∈ l) => print_len t (hm t ht))
  have HR := hid' hR
  have h4' : (l.length : Int) ≤ 4000 := by omega
  clear hv HMAY hm hR
  go_enter Try.func15, Try.ntmps15
  go_wp2_with fail
  go_loopw [11] (fun iv wr => ∃ j : Nat, j ≤ l.length ∧ iv = .int .i64 j ∧ Chg NoB w wr) (fun iv _ => l.length - (intOf iv).toNat)
  case atStart => exact ⟨0, Nat.zero_le _, rfl, Chg.refl _ _⟩
  case round =>
    obtain ⟨j, hj, rfl, X⟩ := hrel
    by_cases hlt : j < l.length
    · have hlt' : (j : Int) < l.length := by omega
      have h0j : (0 : Int) ≤ j := by omega
      obtain ⟨x, hx⟩ : ∃ x, l[j]? = some x := ⟨l[j]'(by omega), List.getElem?_eq_getElem _⟩
      have HX := hid' (HM.out x (List.mem_of_getElem? hx))
      obtain ⟨c1, c2, c3, c4⟩ := (HV.out j x hx).pure X
      have bl : b < wr.heap.size := Nat.lt_of_lt_of_le hbl X.size
      have X1 := X.alloc (tokBox x.kind x.n x.s x.pos)
      obtain ⟨xk, xn, xs, xp⟩ := x
      simp only at c1 c2 c3 c4 X1
      clear hx
      go_wp2_with fail
      refine (HX.out _).mono ?_
      rintro r w2 ⟨rfl, X2⟩
      have X3 := X1.trans X2
      clear X X1 X2 c1 c2 c3 c4
      go_wp2_with fail
      go_roundw
      case rel => exact ⟨j + 1, by omega, by go_num, X3⟩
      case measure => simp [intOf]; omega
    · obtain rfl : j = l.length := by omega
      clear HM hj hlt
      go_wp2_with fail
      go_loopw [24, 6] (fun iv ov wr => ∃ i : Nat, i ≤ l.length ∧ iv = .int .i64 i ∧ QOwn w wr ov (printsL (l.take i)) ∧ (printsL (l.take i)).length ≤ 20000) (fun iv _ _ => l.length - (intOf iv).toNat)
      case atStart => exact ⟨0, Nat.zero_le _, rfl, ⟨X, World.ownsRow_nil _ _ _ _⟩, Nat.zero_le _⟩
      case round =>
        obtain ⟨i, hi, rfl, A, hlen⟩ := hrel
        clear X
        by_cases hlt : i < l.length
        · have hlt' : (i : Int) < l.length := by omega
          have h0i : (0 : Int) ≤ i := by omega
          obtain ⟨x, hx⟩ : ∃ x, l[i]? = some x := ⟨l[i]'(by omega), List.getElem?_eq_getElem _⟩
          have HX := hid' (HT.out x (List.mem_of_getElem? hx))
          have hpl := HL.out x (List.mem_of_getElem? hx)
          have HS := hid' (prints_take l i x hx)
          have HO := hid' (prints_mono l (i + 1))
          obtain ⟨c1, c2, c3, c4⟩ := (HV.out i x hx).pure A.1
          have bl : b < wr.heap.size := Nat.lt_of_lt_of_le hbl A.1.size
          have hsz : (bytesB (printL x)).size = (printL x).length := rfl
          have hcl : Lib.strCells (bytesB (printL x)) = u8L (printL x) := by rw [strCells_eq, bytesB_lst]
          have hb := blk_new wr (tokBox x.kind x.n x.s x.pos)
          have XB := (Chg.refl NoB wr).alloc (tokBox x.kind x.n x.s x.pos)
          generalize bytesB (printL x) = TX at *
          generalize hPX : printL x = px at *
          obtain ⟨xk, xn, xs, xp⟩ := x
          simp only at c1 c2 c3 c4 XB hb
          have HA := hid' A
          clear hx A hPX
          by_cases z : i = 0
          · subst z
            simp only [Nat.zero_mul, Nat.add_zero] at c1 c2 c3 c4
            go_wp2_with fail
            refine (HX.out _).mono ?_
            rintro r w2 ⟨rfl, X2⟩
            have hown := ownB HA.out.2 (XB.trans X2) (fun _ _ e => e)
            go_wp2_with (at_builtin; refine Lib.wpList_append_own_string _ rfl _ _ 35 9 rfl w.heap.size 5 i0 Try.underBytes Try.underStr hi0 hz0 hz1 hz2 _ _ _ rfl hown TX rfl (by unfold maxLen; rw [hsz]; omega) (by rw [hsz]; omega) (Nat.le_trans HA.out.1.size (XB.trans X2).size) ?_)
            intro v' w3 hown3 hgr3 _
            have A4 := QOwn.txt HA.out (XB.trans X2) hown3 hgr3
            rw [show printsL (l.take 0) ++ px = printsL (l.take (0 + 1)) by rw [HS.out]; simp] at A4
            clear hown3 hgr3 hown X2 XB hb
            by_cases big : 20000 < (printsL (l.take (0 + 1))).length
            · have hbig : (20000 < ((printsL (l.take (0 + 1))).length : Int)) := by omega
              have hr := HR.out
              rw [if_pos (by have := HO.out; omega)] at hr
              subst hr
              obtain ⟨a4, k4, rfl, -⟩ := own_val A4.2
              have HC := hid' A4.1
              clear A4
              generalize (printsL (l.take (0 + 1))).length = N4 at *
              go_wp2_with fail
              exact bodyPost_ret (v := .tuple #[.string ⟨#[]⟩, .int .i64 5]) (by simp [results, Try.results15, go_sem]) rfl ⟨rfl, HC.out⟩
            · have hbig : ¬ (20000 < ((printsL (l.take (0 + 1))).length : Int)) := by omega
              obtain ⟨a4, k4, rfl, -⟩ := own_val A4.2
              have HC := hid' A4
              clear A4
              generalize hN4 : (printsL (l.take (0 + 1))).length = N4 at *
              go_wp2_with fail
              go_roundw
              case rel =>
                have A5 := HC.out
                exact ⟨0 + 1, by omega, by go_num, A5, by omega⟩
              case measure => simp [intOf]; omega
          · have hz : 0 < (i : Int) := by omega
            have hownA := ownB HA.out.2 (XB.alloc (.cells #[u8V 32] 5)) (fun _ _ e => e)
            go_wp2_with (at_builtin; refine wpList_append_own_at _ rfl _ _ 35 rfl w.heap.size 5 i0 (.int .u8 0) 1 1 tq_under hi0 hz0 hz1 hz2 rfl (by decide) _ _ _ rfl hownA _ 1 1 [u8V 32] rfl rfl (fun j u hj => cells_newT _ _ _ _ j u hj) (fun u hu => by simp only [List.mem_singleton] at hu; subst hu; rfl) (by unfold maxLen; omega) (by omega) (by have := HA.out.1.size; simp; omega) ?_)
            intro v1 w1 hown1 hgr1 _ _
            have A1 := QOwn.blank HA.out (XB.alloc _) hown1 hgr1
            have X1 : Chg (fun k => k < wr.heap.size) (wr.alloc (tokBox xk xn xs xp)) w1 := Chg.grown (((Chg.refl _ _).alloc _)) hgr1 (fun k hk => .inl (own_ge HA.out.2 k (by rw [hk]; simp)).2)
            have hb1 := X1.blk hb (by simp)
            have RB := cells_of hb1
            have yb := blk_lt hb1
            obtain ⟨a1, k1, rfl, -⟩ := own_val A1.2
            have hlen1 : (printsL (l.take i) ++ [32]).length = (printsL (l.take i)).length + 1 := by simp
            clear hown1 hgr1 hownA
            go_wp2_with fail
            refine (HX.out _).mono ?_
            rintro r w2 ⟨rfl, X2⟩
            have hown := ownB A1.2 X2 (fun _ _ e => e)
            rw [hlen1] at hown
            go_wp2_with (at_builtin; refine Lib.wpList_append_own_string _ rfl _ _ 35 9 rfl w.heap.size 5 i0 Try.underBytes Try.underStr hi0 hz0 hz1 hz2 _ _ _ rfl hown TX rfl (by unfold maxLen; rw [hsz]; omega) (by rw [hsz]; omega) (Nat.le_trans A1.1.size X2.size) ?_)
            intro v' w3 hown3 hgr3 _
            have A4 := QOwn.txt2 A1 X2 hown3 (by rw [hlen1]; exact hgr3)
            rw [show printsL (l.take i) ++ [32] ++ px = printsL (l.take (i + 1)) by rw [HS.out, if_neg z]; simp] at A4
            clear hown3 hgr3 hown X2 XB hb A1 X1 hb1 hlen1
            by_cases big : 20000 < (printsL (l.take (i + 1))).length
            · have hbig : (20000 < ((printsL (l.take (i + 1))).length : Int)) := by omega
              have hr := HR.out
              rw [if_pos (by have := HO.out; omega)] at hr
              subst hr
              obtain ⟨a4, k4, rfl, -⟩ := own_val A4.2
              have HC := hid' A4.1
              clear A4
              generalize (printsL (l.take (i + 1))).length = N4 at *
              go_wp2_with fail
              exact bodyPost_ret (v := .tuple #[.string ⟨#[]⟩, .int .i64 5]) (by simp [results, Try.results15, go_sem]) rfl ⟨rfl, HC.out⟩
            · have hbig : ¬ (20000 < ((printsL (l.take (i + 1))).length : Int)) := by omega
              obtain ⟨a4, k4, rfl, -⟩ := own_val A4.2
              have HC := hid' A4
              clear A4
              generalize hN4 : (printsL (l.take (i + 1))).length = N4 at *
              go_wp2_with fail
              go_roundw
              case rel =>
                have A5 := HC.out
                exact ⟨i + 1, by omega, by go_num, A5, by omega⟩
              case measure => simp [intOf]; omega
        · obtain rfl : i = l.length := by omega
          rw [List.take_length] at A hlen
          have hr := HR.out
          rw [if_neg (by omega)] at hr
          subst hr
          have hcv := own_strF A.2
          have HC := hid' A.1
          clear A
          go_wp2_with fail
          refine bodyPost_ret (v := .tuple #[.string (bytesB (printsL l)), .int .i64 0]) (by simp [results, Try.results15, go_sem]) rfl ?_
          exact ⟨rfl, HC.out⟩
end Go.Proofs.Ytgahapnjlngebaa
