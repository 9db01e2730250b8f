/- Walks: stack.Items, stack.ToMark. -/
import Derived.Test.YtpgkjgceldleaaaGreatZStack
namespace Go.Proofs.YtpgkjgceldleaaaGreat
open Go.RowKit

set_option maxRecDepth 100000 in
theorem stk_items {w0 w : World} {M : List (Nat × List C)} {K : List (Nat × Obj)} {sp : Nat} {l : List O} (S : StkAt w0 w M K sp l) (hl : 0 < l.length) (n : Nat) (hn : l.length = n) :
    Calls Tryz.prog 16 #[ptr sp] w fun e w' => ∃ g cap cur, e = .returned (.slice (some ⟨g, 0, none⟩) n cap) ∧ n ≤ cap ∧ StkAt w0 w' M ((g, .cells cur 38) :: K) sp l ∧ ∀ i, i < n * 6 → cur[i]? = (l.flatMap O.cells)[i]? := by
  subst hn
  obtain ⟨i0, hi, hz0, hz1, hz2⟩ := info_parts Tryz.infoObj
  have HS := hid' S
  have hlen := S.len
  obtain ⟨-, R, lv, hR, A⟩ := S
  obtain ⟨g, cap, cur, rfl, rfl, hcur⟩ := hR.shape hl
  have Rs := cells_of (A.box (sp, stkBox (.slice (some ⟨g, 0, none⟩) l.length cap)) (List.mem_append_right _ (List.mem_cons_self ..)))
  have hbox := A.box (g, .cells cur 38) (List.mem_append_left _ (List.mem_cons_self ..))
  simp only at Rs hbox
  have HN := hid' (fun j u (hj : (l.flatMap O.cells)[j]? = some u) => (show w.cell? ((⟨g, 0, none⟩ : Addr).add j) = some u by
    have hjl : j < l.length * 6 := by rw [← flat_length O.cells 6 cells_length]; exact (List.getElem?_eq_some_iff.1 hj).1
    exact World.news_of_block hbox j u (by rw [← hj, ← hcur j hjl]; simp)))
  have HL := hid' hl
  clear hR A hbox hcur hl
  go_enter Tryz.func16, Tryz.ntmps16
  go_wp2_with (at_builtin; refine wpList_append_own _ rfl _ _ 48 rfl w.heap.size 38 i0 O.nil.val 6 56 Tryz.underObjs hi hz0 hz1 hz2 rfl (by decide) (.slice none 0 0) 0 [] rfl (World.ownsRow_nil _ _ _ _) ⟨g, 0, none⟩ l.length cap (l.flatMap O.cells) rfl (flat_length O.cells 6 cells_length l) (fun j u hj => HN.out j u hj) (flat_one l) ?_ ?_ ?_ ?_; (unfold maxLen; omega); omega; (simp; try omega); intro v' w2 hown hgr _)
  have X : Chg NoB w w2 := Chg.grown (Chg.refl _ _) hgr (fun k hk => by simp [Value.ownBlock] at hk)
  go_ret
  simp only [Nat.zero_add, List.nil_append] at hown
  obtain ⟨hl2, ⟨rfl, h0⟩ | ⟨g', cap', cur', rfl, hg0, hg', c1, c2, c3, c4⟩⟩ := hown
  · have := HL.out; omega
  · exact ⟨g', cap', rfl, c1, cur', HS.out.got X hg' hg0, fun i hi => by rw [← c4, List.getElem?_take_of_lt hi, Array.getElem?_toList]⟩
set_option maxRecDepth 100000 in
theorem stk_tomark {w0 w : World} {M : List (Nat × List C)} {K : List (Nat × Obj)} {sp : Nat} {l xs : List O} {mk : O} (S : StkAt w0 w M K sp (l ++ mk :: xs)) (hm : mk.kind = 6) (hx : ∀ o ∈ xs, o.kind ≠ 6) (n : Nat) (hn : xs.length = n) :
    Calls Tryz.prog 154 #[ptr sp] w fun e w' => e = .returned (.tuple #[.int .i64 n, .int .i64 0]) ∧ StkAt w0 w' M K sp (l ++ mk :: xs) := by
  have hlen := S.len
  have hl2 : (l ++ mk :: xs).length = l.length + 1 + n := by simp [hn]; omega
  have HP := hid' (fun (w' : World) (K' : List (Nat × Obj)) (S' : StkAt w0 w' M K' sp (l ++ mk :: xs)) (i m : Nat) (o : O) (h1 : m + 1 + i = (l ++ mk :: xs).length) (h2 : (l ++ mk :: xs)[m]? = some o) => stk_peek S' i m o h1 h2)
  have HXS := hid' (fun (i : Nat) (hi : i < n) => (show ∃ o, (l ++ mk :: xs)[l.length + 1 + (n - 1 - i)]? = some o ∧ o.kind ≠ 6 by
    have hlt : n - 1 - i < xs.length := by omega
    refine ⟨xs[n - 1 - i], ?_, hx _ (List.getElem_mem hlt)⟩
    rw [List.getElem?_append_right (by omega), show l.length + 1 + (n - 1 - i) - l.length = (n - 1 - i) + 1 by omega, List.getElem?_cons_succ, List.getElem?_eq_getElem hlt]))
  have hmk : (l ++ mk :: xs)[l.length]? = some mk := by rw [List.getElem?_append_right (Nat.le_refl _), Nat.sub_self]; rfl
  have HMK := hid' hmk
  have HL2 := hid' hl2
  have HMM := hid' hm
  obtain ⟨len, hlen2⟩ : ∃ len : Nat, l.length = len := ⟨_, rfl⟩
  have hll : ((l ++ mk :: xs).length : Int) = len + 1 + n := by rw [hl2]; omega
  have hq : len + 1 + n ≤ 200 := by omega
  have HS := hid' S
  obtain ⟨-, R, lv, hR, A⟩ := S
  obtain ⟨a, c, rfl, hac⟩ := rowG_slice hR
  have Rs := cells_of (A.box (sp, stkBox (.slice a (l ++ mk :: xs).length c)) (List.mem_append_right _ (List.mem_cons_self ..)))
  rw [hl2] at Rs
  simp only at Rs
  rw [hlen2] at HXS HMK HL2 Rs
  clear hR A hac hx hn hm hmk hl2 hlen hll hlen2
  generalize l ++ mk :: xs = lo at *
  go_enter Tryz.func154, Tryz.ntmps154
  go_wp2_with fail
  go_loopw [14] (fun cv wr => ∃ k : Nat, k ≤ n ∧ cv = .int .i64 k ∧ StkAt w0 wr M K sp lo) (fun cv _ => n - (intOf cv).toNat)
  case atStart => exact ⟨0, Nat.zero_le _, rfl, HS.out⟩
  case round =>
    obtain ⟨k, hk, rfl, S2⟩ := hrel
    by_cases hlt : k < n
    · obtain ⟨o, ho, hko⟩ := HXS.out k hlt
      have HPK := hid' (fun (w' : World) (K' : List (Nat × Obj)) (S' : StkAt w0 w' M K' sp lo) => HP.out w' K' S' k _ o (by rw [HL2.out]; omega) ho)
      obtain ⟨kk, kx, kn, kp, kl, ks⟩ := o
      have d6 : (kk == 6) = false := by simpa using hko
      have dl : decide ((k : Int) < (len + 1 + n : Nat)) = true := by simp; omega
      have dl' : (k : Int) < (len : Int) + 1 + n := by omega
      clear ho hko Rs
      go_wp2_with fail
      refine (HPK.out _ _ S2).mono ?_
      rintro r w3 ⟨rfl, S3⟩
      have S4 := S3.alloc (Obj.cells #[.int .i64 kk, .bool kx, .int .i64 kn, .int .i64 kp, .int .i64 kl, .string ks] 38)
      go_wp2_with fail
      go_roundw
      case rel => exact ⟨k + 1, by omega, by go_num, S4.keep (List.sublist_cons_self _ _)⟩
      case measure => simp [intOf]; omega
    · obtain rfl : k = n := by omega
      have HPK := hid' (fun (w' : World) (K' : List (Nat × Obj)) (S' : StkAt w0 w' M K' sp lo) => HP.out w' K' S' k len mk (by have := HL2.out; omega) HMK.out)
      have hmm := HMM.out
      obtain ⟨kk, kx, kn, kp, kl, ks⟩ := mk
      simp only at hmm
      subst hmm
      have dl : decide ((k : Int) < (len + 1 + k : Nat)) = true := by simp; omega
      have dl' : (k : Int) < (len : Int) + 1 + k := by omega
      clear Rs
      go_wp2_with fail
      refine (HPK.out _ _ S2).mono ?_
      rintro r w3 ⟨rfl, S3⟩
      have S4 := S3.alloc (.cells #[.int .i64 6, .bool kx, .int .i64 kn, .int .i64 kp, .int .i64 kl, .string ks] 38)
      go_wp2_with fail
      go_ret2
      exact ⟨rfl, S4.keep (List.sublist_cons_self _ _)⟩
end Go.Proofs.YtpgkjgceldleaaaGreat
