/- Rf7, Rg7 -/
import Derived.Test.YtgahapnjlngebaaZRefd
import Derived.Test.YtgahapnjlngebaaZTokb
/- Walk: layer 7's reference: group. -/
namespace Go.Proofs.Ytgahapnjlngebaa
open Go.RowKit

/-- Digits to 85 as integers. -/
def iL (l : List UInt8) : List Value := l.map fun c => .int .i64 ((c.toNat : Int) - 33)
theorem iL_len (l : List UInt8) : (iL l).length = l.length := by simp [iL]
theorem iL_snoc (l : List UInt8) (c : UInt8) : iL (l ++ [c]) = iL l ++ [.int .i64 ((c.toNat : Int) - 33)] := by simp [iL]
theorem int_info7 : (Try.prog.info? 3).map (fun i => (i.zero, i.size, i.bytes)) = some (some (.int .i64 0), 1, 8) := by kernel_rfl
theorem int_under7 : Try.prog.underlying 97 = some (.slice 3) := by kernel_rfl
/-- A group in a row of its own, apart from what was taken. -/
def Rg (w : World) (bt : Nat) (v gv : Value) (l : List UInt8) : Prop := w.ownsRow (bt + 1) 3 1 gv l.length (iL l) ∧ ∀ k, gv.ownBlock = some k → ¬ v.ownBlock = some k
theorem Rg.nil (w : World) (bt : Nat) (v : Value) : Rg w bt v (.slice none 0 0) [] := ⟨World.ownsRow_nil _ _ _ _, fun k hk => by simp [Value.ownBlock] at hk⟩
theorem Rg.pure {w w' : World} {bt : Nat} {v gv : Value} {l : List UInt8} (G : Rg w bt v gv l) (X : Chg NoB w w') : Rg w' bt v gv l := ⟨ownB G.1 X (fun _ _ e => e), G.2⟩
theorem Rg.more {w0 w w1 : World} {bt : Nat} {v gv gv' : Value} {b l l' : List UInt8} {e : Int} (A : Tr w0 w bt v b e) (G : Rg w bt v gv l) (hown : w1.ownsRow (bt + 1) 3 1 gv' l'.length (iL l')) (hgr : w.grownBy w1 gv.ownBlock)
    (hat : gv'.ownBlock = gv.ownBlock ∨ gv'.ownBlock = some w.heap.size) : Tr w0 w1 bt v b e ∧ Rg w1 bt v gv' l' := by
  have C : Chg (fun k => gv.ownBlock = some k) w w1 := Chg.grown (Chg.refl _ w) hgr (fun k hk => .inl hk)
  have hn : ∀ k, gv.ownBlock = some k → bt + 1 ≤ k := fun k hk => (own_ge G.1 k (by simp [hk])).1
  have hge := A.ge
  refine ⟨⟨A.chg.trans' C (fun i hi h => by have := hn i h; omega), A.ge, C.blk A.box (fun h => by have := hn bt h; omega), ownB A.own C (fun k hk h => G.2 k h (by simpa using hk))⟩, hown, fun k hk hv => ?_⟩
  rcases hat with h | h
  · exact G.2 k (by rw [← h, hk]) hv
  · rw [h] at hk
    have := (own_ge A.own k (by simp [hv])).2
    simp at hk
    omega
theorem Rg.row {w : World} {B : Nat} {gv : Value} {l : List UInt8} (h : w.ownsRow B 3 1 gv l.length (iL l)) (hl : 0 < l.length) : ∃ g cap, gv = .slice (some ⟨g, 0, none⟩) l.length cap ∧ (∀ j, j < l.length → w.cell? ⟨g, j, none⟩ = some (.int .i64 (((l.getD j 0).toNat : Int) - 33))) ∧ g < w.heap.size := by
  rcases h.2 with ⟨-, h0⟩ | ⟨g, cap, cur, rfl, h1, h2, h3, h4, h5, h6⟩
  · omega
  · refine ⟨g, cap, rfl, fun j hj => ?_, blk_lt h2⟩
    rw [cells_of h2 j, ← Array.getElem?_toList]
    have : cur.toList[j]? = (cur.toList.take (l.length * 1))[j]? := by rw [List.getElem?_take, if_pos (by omega)]
    rw [this, h6]
    simp [iL, hj]
/-- What is left of a group: the bytes, the error. -/
def grpF (l b : List UInt8) (n : Nat) : List UInt8 × Int :=
  if 4294967296 ≤ numV (padG l) then (b, 3) else (b ++ (four (numV (padG l))).take n, if 4000 < b.length + n then 5 else 0)
def GrpEnd (w0 : World) (bt : Nat) (R : List UInt8 × Int) (r : Ending) (w' : World) : Prop := r = .returned (.tuple #[]) ∧ ∃ v', Tr w0 w' bt v' R.1 R.2
set_option maxRecDepth 100000 in
set_option maxHeartbeats 4000000 in
theorem rtgroup_any {w0 w : World} {bt : Nat} {v gv : Value} {b l : List UInt8} (A : Tr w0 w bt v b 0) (G : Rg w bt v gv l) (h85 : Okay85 l) (hl : l.length ≤ 5) (n : Nat) (hn : n ≤ 4) (hb : b.length ≤ 4000) :
    Calls Try.prog 80 #[.pointer (some ⟨bt, 0, none⟩), gv, .int .i64 n] w (GrpEnd w0 bt (grpF l b n)) := by
  obtain ⟨R, hR⟩ : ∃ R, grpF l b n = R := ⟨_, rfl⟩
  rw [hR]
  have hr : R = if 4294967296 ≤ numV (padG l) then (b, 3) else (b ++ (four (numV (padG l))).take n, if 4000 < b.length + n then 5 else 0) := hR.symm
  have HR := hid' hr
  obtain ⟨i0, hi0, hz0, hz1, hz2⟩ := info_parts int_info7
  have HO := hid' (show Okay85 (padG l) from fun c hc => by
    unfold padG at hc
    rcases List.mem_append.1 hc with hc | hc
    · exact h85 c hc
    · rw [(List.mem_replicate.1 hc).2]; decide)
  have HPL := hid' (show (padG l).length = 5 by unfold padG; simp; omega)
  have hni : (n : Int) ≤ 4 := by omega
  clear hr hR h85
  go_enter Try.func80, Try.ntmps80
  go_wp2_with fail
  go_loopw [1] (fun gs wr => ∃ m : Nat, l.length + m ≤ 5 ∧ Tr w0 wr bt v b 0 ∧ Rg wr bt v gs (l ++ List.replicate m 117)) (fun gs _ => 6 - (match gs with | .slice _ k _ => k | _ => 0))
  case atStart => exact ⟨0, by omega, A, by rw [List.replicate_zero, List.append_nil]; exact G⟩
  case round =>
    obtain ⟨m, hm, A1, G1⟩ := hrel
    clear A G
    have hlen : (l ++ List.replicate m 117).length = l.length + m := by simp
    have hown1 := G1.1
    rw [hlen] at hown1
    obtain ⟨ga, gc, rfl, -⟩ := own_val hown1
    by_cases c5 : l.length + m < 5
    · have c5' : (l.length : Int) + (m : Int) < 5 := by omega
      have X1 := (Chg.refl NoB wr).alloc (.cells #[.int .i64 84] 3)
      have hownA := ownB hown1 X1 (fun _ _ e => e)
      have HA := hid' A1
      have HG := hid' G1
      have hbt := blk_lt A1.box
      clear A1 G1 hown1
      go_wp2_with (at_builtin; refine wpList_append_own_at _ rfl _ _ 97 rfl (bt + 1) 3 i0 (.int .i64 0) 1 8 int_under7 hi0 hz0 hz1 hz2 rfl (by decide) _ _ _ rfl hownA _ 1 1 [.int .i64 84] rfl rfl (fun j u hj => cells_new _ _ _ j u hj) (fun u hu => by simp only [List.mem_singleton] at hu; subst hu; rfl) (by unfold maxLen; omega) (by omega) (by simp; omega) ?_)
      intro v' w1 hown hgr _ hat
      have hown2 : w1.ownsRow (bt + 1) 3 1 v' (l ++ List.replicate (m + 1) 117).length (iL (l ++ List.replicate (m + 1) 117)) := by
        rw [show l ++ List.replicate (m + 1) 117 = (l ++ List.replicate m 117) ++ [117] by rw [List.replicate_succ', List.append_assoc], iL_snoc, List.length_append, hlen]
        exact hown
      have hap := Rg.more (HA.out.pure X1) (HG.out.pure X1) hown2 hgr (by rcases hat with h | h; exact .inl h; exact .inr (by simpa using h))
      obtain ⟨a2, k2, rfl, -⟩ := own_val hown
      have HAP := hid' hap
      clear hap hown hown2 hgr hat hownA X1
      go_wp2_with fail
      go_roundw
      case rel => exact ⟨m + 1, by omega, HAP.out⟩
      case measure => simp; omega
    · have c5' : ¬ (l.length : Int) + (m : Int) < 5 := by omega
      have hpad : l ++ List.replicate m 117 = padG l := by unfold padG; rw [show 5 - l.length = m by omega]
      rw [hpad] at G1
      obtain ⟨g, cap, hge, hcell, hgl⟩ := Rg.row G1.1 (by rw [HPL.out]; decide)
      injection hge with hg1 hg2 hg3
      subst hg1 hg3
      have e5 : l.length + m = 5 := by omega
      have HA := hid' A1
      have HCL := hid' hcell
      have HGR := hid' G1
      clear A1 G1 hown1 hlen hpad hcell hg2
      rw [e5]
      go_wp2_with fail
      go_loop [6, 7] (fun xv kv => ∃ k : Nat, k ≤ 5 ∧ kv = .int .i64 k ∧ xv = .int .i64 (numV ((padG l).take k))) (fun _ kv => 5 - (intOf kv).toNat)
      case atStart => exact ⟨0, by omega, rfl, rfl⟩
      case round =>
        obtain ⟨k, hk, rfl, rfl⟩ := hrel
        have hbn := numV_le ((padG l).take k) (fun x hx => HO.out x (List.mem_of_mem_take hx))
        have hb2 : (85 : Int) ^ ((padG l).take k).length ≤ 85 ^ 5 := by
          have : ((padG l).take k).length ≤ 5 := by rw [List.length_take]; omega
          have h2 : (85 : Nat) ^ ((padG l).take k).length ≤ 85 ^ 5 := Nat.pow_le_pow_right (by decide) this
          have e : (((85 : Nat) ^ ((padG l).take k).length : Nat) : Int) = (85 : Int) ^ ((padG l).take k).length := by simp
          omega
        have b0 : 0 ≤ numV ((padG l).take k) := hbn.1
        have b1 : numV ((padG l).take k) ≤ 4437053125 := by have := hbn.2; omega
        clear hbn hb2
        by_cases hlt5 : k < 5
        · have hlt5' : (k : Int) < 5 := by omega
          have hcellk := HCL.out k (by rw [HPL.out]; exact hlt5)
          have hT := take_succ' (padG l) k (by rw [HPL.out]; exact hlt5)
          have hc := HO.out ((padG l).getD k 0) (by rw [List.getD_eq_getElem?_getD, List.getElem?_eq_getElem (by rw [HPL.out]; exact hlt5)]; exact List.getElem_mem _)
          have HS := hid' ((congrArg numV hT).trans (numV_snoc _ _))
          clear hT
          generalize (padG l).getD k 0 = c8 at *
          obtain ⟨c0, c1⟩ := hc
          generalize (c8.toNat : Int) = ci at *
          generalize hX : numV ((padG l).take k) = X at *
          obtain ⟨y, hy⟩ : ∃ y : Int, ci - 33 = y := ⟨_, rfl⟩
          rw [hy] at hcellk
          have HY := hid' hy
          have y0 : 0 ≤ y ∧ y ≤ 84 := by omega
          go_wp2_with fail
          go_round
          case rel => exact ⟨k + 1, by omega, by go_num, by rw [HS.out, HY.out, Int.mul_comm]⟩
          case measure => simp [intOf]; omega
        · obtain rfl : k = 5 := by omega
          rw [show (padG l).take 5 = padG l from List.take_of_length_le (Nat.le_of_eq HPL.out)] at b0 b1 ⊢
          generalize hX : numV (padG l) = X at *
          have RB := cells_of HA.out.box
          have ZB := free_of HA.out.box
          have yb := blk_lt HA.out.box
          by_cases big : 4294967296 ≤ X
          · have big' : 4294967295 < X := by omega
            have HF := hid' (HA.out.fail 3)
            have HRR := hid' (HR.out.trans (if_pos big))
            clear HR
            go_wp2_with fail
            go_end0
            unfold GrpEnd
            rw [HRR.out]
            exact ⟨rfl, v, HF.out⟩
          · have big' : ¬ 4294967295 < X := by omega
            have big2 : X ≤ 4294967295 := by omega
            have HRR := hid' (HR.out.trans (if_neg big))
            clear HR
            go_wp2_with fail
            go_loopw [8] (fun kv wr => ∃ (k : Nat) (v2 : Value), k ≤ n ∧ kv = .int .i64 k ∧ Tr w0 wr bt v2 (b ++ (four X).take k) (if 4000 < b.length + k then 5 else 0)) (fun kv _ => 5 - (intOf kv).toNat)
            case atStart => exact ⟨0, v, Nat.zero_le _, rfl, by rw [if_neg (by omega), List.take_zero, List.append_nil]; exact HA.out⟩
            case round =>
              obtain ⟨k, v2, hkn, rfl, A3⟩ := hrel
              clear RB ZB yb
              by_cases hk : k < n
              rotate_left
              · have hk' : ¬ (k : Int) < n := by omega
                obtain rfl : k = n := by omega
                have HB := hid' A3
                clear A3
                go_wp2_with fail
                go_end0
                unfold GrpEnd
                rw [HRR.out]
                exact ⟨rfl, v2, HB.out⟩
              have hk' : (k : Int) < n := by omega
              have h4 : (four X).length = 4 := rfl
              have hlk : (b ++ (four X).take k).length = b.length + k := by rw [List.length_append, List.length_take, h4]; omega
              have hTk := take_succ' (four X) k (by rw [h4]; omega)
              have key : ∀ c : Int, 0 ≤ c → c < 256 → u8of c = (four X).getD k 0 → Calls Try.prog 79 #[.pointer (some ⟨bt, 0, none⟩), .int .u8 c] wr fun r w' => r = .returned (.tuple #[]) ∧ ∃ v', Tr w0 w' bt v' (b ++ (four X).take (k + 1)) (if 4000 < b.length + (k + 1) then 5 else 0) := fun c c0 c1 hc => by
                have := rtput_any A3 c c0 c1 (by rw [hlk]; omega)
                rw [hlk, List.append_assoc, hc, ← hTk] at this
                have he : putE (b.length + k) (if 4000 < b.length + k then 5 else 0) = if 4000 < b.length + (k + 1) then 5 else 0 := by
                  unfold putE
                  by_cases h1 : 4000 < b.length + k
                  · rw [if_pos h1, if_neg (fun h => absurd h.2 (by decide)), if_pos (by omega)]
                  · rw [if_neg h1]
                    by_cases h2 : 4000 ≤ b.length + k
                    · rw [if_pos ⟨h2, rfl⟩, if_pos (by omega)]
                    · rw [if_neg (fun h => h2 h.1), if_neg (by omega)]
                rwa [he] at this
              have KEY := hid' key
              clear key A3 hTk
              have w0' : IntKind.u8.wrap (X / 16777216) = X / 16777216 % 256 := by rw [IntKind.wrap_u8]
              have w1' : IntKind.u8.wrap (X / 65536) = X / 65536 % 256 := by rw [IntKind.wrap_u8]
              have w2' : IntKind.u8.wrap (X / 256) = X / 256 % 256 := by rw [IntKind.wrap_u8]
              have w3' : IntKind.u8.wrap X = X % 256 := by rw [IntKind.wrap_u8]
              have hk4 : k = 0 ∨ k = 1 ∨ k = 2 ∨ k = 3 := by omega
              rcases hk4 with rfl | rfl | rfl | rfl
              · go_wp2_with fail
                refine (KEY.out (X / 16777216 % 256) (by omega) (by omega) rfl).mono ?_
                rintro r w2 ⟨rfl, v', A4⟩
                have HB := hid' A4
                clear A4
                go_wp2_with fail
                go_roundw
                case rel => exact ⟨1, v', by omega, by go_num, HB.out⟩
                case measure => simp [intOf]
              · go_wp2_with fail
                refine (KEY.out (X / 65536 % 256) (by omega) (by omega) rfl).mono ?_
                rintro r w2 ⟨rfl, v', A4⟩
                have HB := hid' A4
                clear A4
                go_wp2_with fail
                go_roundw
                case rel => exact ⟨2, v', by omega, by go_num, HB.out⟩
                case measure => simp [intOf]
              · go_wp2_with fail
                refine (KEY.out (X / 256 % 256) (by omega) (by omega) rfl).mono ?_
                rintro r w2 ⟨rfl, v', A4⟩
                have HB := hid' A4
                clear A4
                go_wp2_with fail
                go_roundw
                case rel => exact ⟨3, v', by omega, by go_num, HB.out⟩
                case measure => simp [intOf]
              · go_wp2_with fail
                refine (KEY.out (X % 256) (by omega) (by omega) rfl).mono ?_
                rintro r w2 ⟨rfl, v', A4⟩
                have HB := hid' A4
                clear A4
                go_wp2_with fail
                go_roundw
                case rel => exact ⟨4, v', by omega, by go_num, HB.out⟩
                case measure => simp [intOf]
end Go.Proofs.Ytgahapnjlngebaa
/- Walk: layer 7's reference: eighty. -/
namespace Go.Proofs.Ytgahapnjlngebaa
open Go.RowKit

theorem padG_5 (l : List UInt8) (h : l.length = 5) : padG l = l := by unfold padG; rw [h]; simp
theorem zeros_num : numV (padG [33, 33, 33, 33, 33]) = 0 ∧ four 0 = [0, 0, 0, 0] := by decide +kernel
theorem Rg.five {w : World} {bt : Nat} (v : Value) (hb : bt < w.heap.size) (hv : ∀ k, v.ownBlock = some k → k < w.heap.size) :
    Rg (w.alloc (.cells #[.int .i64 0, .int .i64 0, .int .i64 0, .int .i64 0, .int .i64 0] 3)) bt v (.slice (some ⟨w.heap.size, 0, none⟩) 5 5) [33, 33, 33, 33, 33] := by
  refine ⟨⟨rfl, .inr ⟨w.heap.size, 5, _, rfl, by omega, blk_new w _, Nat.le_refl _, by decide, rfl, rfl⟩⟩, fun k hk h => ?_⟩
  have := hv k h
  simp [Value.ownBlock] at hk
  omega
set_option maxRecDepth 100000 in
set_option maxHeartbeats 4000000 in
theorem rteighty_any {w0 w : World} {bt : Nat} {v0 : Value} (A : Tr w0 w bt v0 [] 0) (s : ByteArray) (hs : s.size ≤ 1000000) (h1 : 2 ≤ s.size) :
    Calls Try.prog 59 #[.pointer (some ⟨bt, 0, none⟩), .string s] w (TrEnd w0 bt (eightyW (s.toList.drop 2) 2 [] [])) := by
  obtain ⟨R0, hR0⟩ : ∃ R0, eightyW (s.toList.drop 2) 2 [] [] = R0 := ⟨_, rfl⟩
  rw [hR0]
  obtain ⟨i0, hi0, hz0, hz1, hz2⟩ := info_parts int_info7
  go_enter Try.func59, Try.ntmps59
  go_wp2_with fail
  go_loopw [5, 6] (fun gs iv wr => ∃ (j : Nat) (g b : List UInt8) (v : Value) (e : Int), 2 ≤ j ∧ j ≤ s.size ∧ iv = .int .i64 j ∧ b.length ≤ 4100 ∧ Tr w0 wr bt v b e ∧ (e = 0 → b.length ≤ 4000 ∧ g.length ≤ 4 ∧ Okay85 g ∧ Rg wr bt v gs g ∧ (g.length = 0 → gs = .slice none 0 0) ∧ R0 = eightyW (s.toList.drop j) j g b) ∧ (e ≠ 0 → R0 = (e, [], 0))) (fun _ i _ => s.size - (intOf i).toNat)
  case atStart => exact ⟨2, [], [], v0, 0, Nat.le_refl _, h1, rfl, by simp, A, fun _ => ⟨by simp, by simp, fun c hc => by simp at hc, Rg.nil _ _ _, fun _ => rfl, hR0.symm⟩, fun h => absurd rfl h⟩
  case round =>
    clear hR0 A
    obtain ⟨j, g, b, v, e, hj1, hj2, rfl, hbl, A1, hW, hW0⟩ := hrel
    have HA := hid' A1
    have R := cells_of A1.box
    have Z := free_of A1.box
    have bl := blk_lt A1.box
    by_cases he : e = 0
    rotate_left
    · have he' : (e == 0) = false := by simpa using he
      have HC := hid' (hW0 he)
      have HN := hid' he
      clear hW hW0 he A1
      by_cases hlt : j < s.size
      · have hlt' : (j : Int) < s.size := by omega
        go_wp2_with fail
        go_ret
        unfold TrEnd
        rw [HC.out]
        exact ⟨v, b, 0, rfl, HA.out, fun h => absurd h HN.out, by omega⟩
      · have hlt' : ¬ (j : Int) < s.size := by omega
        go_wp2_with fail
        go_ret
        unfold TrEnd
        rw [HC.out]
        exact ⟨v, b, 0, rfl, HA.out, fun h => absurd h HN.out, by omega⟩
    subst he
    have hW1 := hW rfl
    clear hW0 hW
    obtain ⟨hb4, hg4, h85, G1, hgn, hW⟩ := hW1
    have HGN := hid' hgn
    clear hgn
    have hownG := G1.1
    obtain ⟨ga, gc, rfl, -⟩ := own_val hownG
    have HG := hid' G1
    have H85 := hid' h85
    clear G1 h85
    by_cases hlt : j < s.size
    rotate_left
    · obtain rfl : j = s.size := by omega
      have HW := hid' (hW.trans (by rw [drop_end s s.size (Nat.le_refl _), eightyW]))
      have HF := hid' (A1.fail 4)
      clear hW A1 hownG
      go_wp2_with fail
      go_ret
      unfold TrEnd
      rw [HW.out]
      exact ⟨v, b, 0, rfl, HF.out, fun h => absurd h (by decide), by omega⟩
    have hlt' : (j : Int) < s.size := by omega
    have h0j : (0 : Int) ≤ j := by omega
    have hE := hW.trans (eightyW_at s j hlt g b)
    have HK := hid' (fun w => rkind_any s[j].toNat w)
    have hcb : (s[j].toNat : Int) < 256 := by have := s[j].toNat_lt; omega
    have hg4' : (g.length : Int) ≤ 4 := by omega
    clear hW
    by_cases e126 : s[j] = 126
    · have u126 := u8T 126 e126 (126 : Int)
      have hE2 := hE.trans ((if_neg (show ¬ kindI s[j].toNat = 1 by rw [e126]; decide)).trans (if_pos e126))
      clear hE
      by_cases hk : j + 1 < s.size
      rotate_left
      · have hk' : (s.size : Int) ≤ (j : Int) + 1 := by omega
        have HC := hid' (hE2.trans (if_pos (drop_end s (j + 1) (by omega))))
        have HF := hid' (A1.fail 4)
        clear hE2 e126 A1 hownG
        go_wp2_with fail
        go_ret
        unfold TrEnd
        rw [HC.out]
        exact ⟨v, b, j + 2, by first | rfl | go_num, HF.out, fun h => absurd h (by decide), by omega⟩
      have hk' : (j : Int) + 1 < s.size := by omega
      have hk2 : ((j : Int) + 1).toNat = j + 1 := by omega
      have hk3 : (0 : Int) ≤ (j : Int) + 1 := by omega
      have hh : (s.toList.drop (j + 1)).head? = some s[j + 1] := by rw [drop_at s (j + 1) hk]; rfl
      have hE3 := hE2.trans (if_neg (show ¬ s.toList.drop (j + 1) = [] by rw [drop_at s (j + 1) hk]; simp))
      clear hE2
      by_cases en : s[j + 1] = 62
      rotate_left
      · have vn := u8nT 62 en (62 : Int)
        have HC := hid' (hE3.trans (if_pos (fun h => en (by rw [hh] at h; exact Option.some.inj h))))
        have HF := hid' (A1.fail 3)
        clear hE3 e126 A1 hownG en hh
        go_wp2_with fail
        go_ret
        unfold TrEnd
        rw [HC.out]
        exact ⟨v, b, j + 2, by first | rfl | go_num, HF.out, fun h => absurd h (by decide), by omega⟩
      have vn := u8nF 62 en (62 : Int)
      have hE4 := hE3.trans (if_neg (fun h => h (by rw [hh, en])))
      clear hE3 en hh
      have hL : lastF g b = if g.length = 0 then (true, 0, b) else if 4294967296 ≤ numV (padG g) ∨ g.length = 1 then (false, 0, b) else if 4000 < b.length + (g.length - 1) then (false, 5, b) else (true, 0, b ++ (four (numV (padG g))).take (g.length - 1)) := rfl
      by_cases z0 : g.length = 0
      · have hl0 : lastF g b = (true, 0, b) := hL.trans (if_pos z0)
        rw [hl0] at hE4
        have HC := hid' (hE4.trans (if_pos rfl))
        have n1 : ((g.length : Int) == 1) = false := by simp; omega
        have n2 : ¬ 1 < (g.length : Int) := by omega
        clear hE4 e126 A1 hownG hL hl0
        go_wp2_with fail
        go_ret
        unfold TrEnd
        rw [HC.out]
        exact ⟨v, b, j + 2, by first | rfl | go_num, HA.out, fun _ => ⟨rfl, rfl⟩, by omega⟩
      by_cases z1 : g.length = 1
      · have hl1 : lastF g b = (false, 0, b) := hL.trans ((if_neg z0).trans (if_pos (.inr z1)))
        rw [hl1] at hE4
        have HC := hid' (hE4.trans ((if_neg (by simp)).trans (if_pos rfl)))
        have HF := hid' (A1.fail 3)
        have n1 : ((g.length : Int) == 1) = true := by simp; omega
        clear hE4 e126 A1 hownG hL hl1 z0 z1
        go_wp2_with fail
        go_ret
        unfold TrEnd
        rw [HC.out]
        exact ⟨v, b, j + 2, by first | rfl | go_num, HF.out, fun h => absurd h (by decide), by omega⟩
      have n1 : ((g.length : Int) == 1) = false := by simp; omega
      have n2 : 1 < (g.length : Int) := by omega
      have hgr := rtgroup_any A1 HG.out H85.out (by omega) (g.length - 1) (by omega) hb4
      have eg : ((g.length - 1 : Nat) : Int) = (g.length : Int) - 1 := by omega
      rw [eg] at hgr
      have wg := IntWalk.i64_in ((g.length : Int) - 1) (by omega)
      have hgf : grpF g b (g.length - 1) = if 4294967296 ≤ numV (padG g) then (b, 3) else (b ++ (four (numV (padG g))).take (g.length - 1), if 4000 < b.length + (g.length - 1) then 5 else 0) := rfl
      have hfl : ((four (numV (padG g))).take (g.length - 1)).length ≤ 4 := by rw [List.length_take]; exact Nat.min_le_right _ _
      have HGRP := hid' hgr
      clear hgr eg A1 hownG e126
      by_cases big : 4294967296 ≤ numV (padG g)
      · have hl2 : lastF g b = (false, 0, b) := hL.trans ((if_neg z0).trans (if_pos (.inl big)))
        rw [hl2] at hE4
        have HC := hid' (hE4.trans ((if_neg (by simp)).trans (if_pos rfl)))
        have HGF := hid' (hgf.trans (if_pos big))
        clear hE4 hL hl2 hgf z0 z1 big hfl
        go_wp2_with fail
        refine HGRP.out.mono ?_
        rintro r w1 ⟨rfl, v', A2⟩
        rw [HGF.out] at A2
        have HB := hid' A2
        clear A2
        go_wp2_with fail
        go_ret
        unfold TrEnd
        rw [HC.out]
        exact ⟨v', b, j + 2, by first | rfl | go_num, HB.out, fun h => absurd h (by decide), by omega⟩
      have hgf2 := hgf.trans (if_neg big)
      by_cases full : 4000 < b.length + (g.length - 1)
      · have hl2 : lastF g b = (false, 5, b) := hL.trans ((if_neg z0).trans ((if_neg (fun h => h.elim big z1)).trans (if_pos full)))
        rw [hl2] at hE4
        have HC := hid' (hE4.trans ((if_neg (by simp)).trans (if_neg (by simp))))
        rw [if_pos full] at hgf2
        have HGF := hid' hgf2
        clear hE4 hL hl2 hgf hgf2 z0 z1 big
        go_wp2_with fail
        refine HGRP.out.mono ?_
        rintro r w1 ⟨rfl, v', A2⟩
        rw [HGF.out] at A2
        have HB := hid' A2
        clear A2
        go_wp2_with fail
        go_ret
        unfold TrEnd
        rw [HC.out]
        exact ⟨v', _, j + 2, by first | rfl | go_num, HB.out, fun h => absurd h (by decide), by rw [List.length_append]; omega⟩
      · have hl2 : lastF g b = (true, 0, b ++ (four (numV (padG g))).take (g.length - 1)) := hL.trans ((if_neg z0).trans ((if_neg (fun h => h.elim big z1)).trans (if_neg full)))
        rw [hl2] at hE4
        have HC := hid' (hE4.trans (if_pos rfl))
        rw [if_neg full] at hgf2
        have HGF := hid' hgf2
        clear hE4 hL hl2 hgf hgf2 z0 z1 big
        go_wp2_with fail
        refine HGRP.out.mono ?_
        rintro r w1 ⟨rfl, v', A2⟩
        rw [HGF.out] at A2
        have HB := hid' A2
        clear A2
        go_wp2_with fail
        go_ret
        unfold TrEnd
        rw [HC.out]
        exact ⟨v', _, j + 2, by first | rfl | go_num, HB.out, fun _ => ⟨rfl, rfl⟩, by rw [List.length_append]; omega⟩
    have u126 := u8F 126 e126 (126 : Int)
    by_cases ek : kindI s[j].toNat = 1
    · have hk' : (kindI s[j].toNat == 1) = true := by simpa using ek
      have HC := hid' (hE.trans (if_pos ek))
      clear hE ek e126 A1 hownG
      generalize kindI (s[j].toNat : Int) = kd at *
      go_wp2_with fail
      refine (HK.out _).mono ?_
      rintro r w1 ⟨rfl, rfl⟩
      go_wp2_with fail
      go_roundw
      case rel => exact ⟨j + 1, g, b, v, 0, by omega, by omega, by first | rfl | go_num, hbl, HA.out, fun _ => ⟨hb4, hg4, H85.out, HG.out, HGN.out, HC.out⟩, fun h => absurd rfl h⟩
      case measure => simp [intOf]; omega
    have hk' : (kindI s[j].toNat == 1) = false := by simpa using ek
    have hE2 := hE.trans ((if_neg ek).trans (if_neg e126))
    clear hE ek e126
    generalize kindI (s[j].toNat : Int) = kd at *
    by_cases ez : s[j] = 122 ∧ g.length = 0
    · have u122 := u8T 122 ez.1 (122 : Int)
      have gz : ((g.length : Int) == 0) = true := by rw [ez.2]; rfl
      have hE3 := hE2.trans (if_pos ez)
      have A2 := A1.pure ((Chg.refl NoB wr).alloc (.cells #[.int .i64 0, .int .i64 0, .int .i64 0, .int .i64 0, .int .i64 0] 3))
      have hgr := rtgroup_any A2 (Rg.five v bl (fun k hk => (own_ge A1.own k (by simp [hk])).2)) (fun c hc => by simp at hc; subst hc; decide) (by decide) 4 (by decide) hb4
      have hgf : grpF [33, 33, 33, 33, 33] b 4 = (b ++ [0, 0, 0, 0], if 4000 < b.length + 4 then 5 else 0) := by
        unfold grpF
        rw [zeros_num.1, if_neg (by decide), zeros_num.2]
        rfl
      rw [hgf, show (((4 : Nat)) : Int) = 4 from rfl] at hgr
      have HGRP := hid' hgr
      have HGZ := hid' ez.2
      clear hgr hgf A2 A1 hE2 ez hownG
      by_cases full : 4000 < b.length + 4
      · have HC := hid' (hE3.trans (if_pos full))
        clear hE3
        go_wp2_with fail
        refine (HK.out _).mono ?_
        rintro r w1 ⟨rfl, rfl⟩
        go_wp2_with fail
        refine HGRP.out.mono ?_
        rintro r w1 ⟨rfl, v', A2⟩
        simp only [if_pos full] at A2
        have HB := hid' A2
        clear A2
        go_wp2_with fail
        go_roundw
        case rel => exact ⟨j + 1, g, _, v', 5, by omega, by omega, by first | rfl | go_num, by simp; omega, HB.out, fun h => absurd h (by decide), fun _ => HC.out⟩
        case measure => simp [intOf]; omega
      · have HC := hid' (hE3.trans (if_neg full))
        clear hE3
        go_wp2_with fail
        refine (HK.out _).mono ?_
        rintro r w1 ⟨rfl, rfl⟩
        go_wp2_with fail
        refine HGRP.out.mono ?_
        rintro r w1 ⟨rfl, v', A2⟩
        simp only [if_neg full] at A2
        have HB := hid' A2
        clear A2
        go_wp2_with fail
        go_roundw
        case rel => exact ⟨j + 1, [], _, v', 0, by omega, by omega, by first | rfl | go_num, by simp; omega, HB.out, fun _ => ⟨by simp; omega, by simp, fun c hc => by simp at hc, by have e := HGN.out HGZ.out; rw [HGZ.out] at e ⊢; rw [e]; exact Rg.nil _ _ _, fun _ => by have e := HGN.out HGZ.out; exact e, HC.out⟩, fun h => absurd rfl h⟩
        case measure => simp [intOf]; omega
    have hE3 := hE2.trans (if_neg ez)
    clear hE2
    have hzd : ((s[j].toNat : Int) == 122) = false ∨ (((s[j].toNat : Int) == 122) = true ∧ ((g.length : Int) == 0) = false) := by
      by_cases h : s[j] = 122
      · exact .inr ⟨u8T 122 h (122 : Int), by simp; intro hz; exact ez ⟨h, by rw [hz]; rfl⟩⟩
      · exact .inl (u8F 122 h (122 : Int))
    clear ez
    by_cases er : 33 ≤ (s[j].toNat : Int) ∧ (s[j].toNat : Int) ≤ 117
    rotate_left
    · have HC := hid' (hE3.trans (if_neg er))
      have HF := hid' (A1.fail 3)
      have hrd : decide ((s[j].toNat : Int) < 33) = true ∨ (decide ((s[j].toNat : Int) < 33) = false ∧ decide (117 < (s[j].toNat : Int)) = true) := by
        by_cases h : (s[j].toNat : Int) < 33
        · left; simpa using h
        · right; simp; omega
      have hb3 := blk_set A1.box 1 (.int .i64 3)
      clear hE3 er A1 hownG
      rcases hzd with z1 | ⟨z1, z2⟩
      all_goals rcases hrd with d1 | ⟨d1, d2⟩
      all_goals
        go_wp2_with fail
        refine (HK.out _).mono ?_
        rintro r w1 ⟨rfl, rfl⟩
        go_wp2_with fail
        go_roundw
        case rel => exact ⟨j + 1, g, b, v, 3, by omega, by omega, by first | rfl | go_num, hbl, HF.out, fun h => absurd h (by decide), fun _ => HC.out⟩
        case measure => simp [intOf]; omega
    have hE4 := hE3.trans (if_pos er)
    have r1 : decide ((s[j].toNat : Int) < 33) = false := by simp; omega
    have r2 : decide (117 < (s[j].toNat : Int)) = false := by simp; omega
    have z1 : ((s[j].toNat : Int) == 122) = false := by simp; omega
    have X1 := (Chg.refl NoB wr).alloc (.cells #[.int .i64 ((s[j].toNat : Int) - 33)] 3)
    have hownA := ownB hownG X1 (fun _ _ e => e)
    have HRG := hid' (fun (w1 : World) (v' : Value) (hown : w1.ownsRow (bt + 1) 3 1 v' (g.length + 1) (iL g ++ [.int .i64 ((s[j].toNat : Int) - 33)])) (hgr : (wr.alloc (.cells #[.int .i64 ((s[j].toNat : Int) - 33)] 3)).grownBy w1 (Value.slice ga g.length gc).ownBlock)
        (hat : v'.ownBlock = (Value.slice ga g.length gc).ownBlock ∨ v'.ownBlock = some (wr.alloc (.cells #[.int .i64 ((s[j].toNat : Int) - 33)] 3)).heap.size) =>
        Rg.more (l' := g ++ [s[j]]) (HA.out.pure X1) (HG.out.pure X1) (by rw [List.length_append, iL_snoc]; exact hown) hgr hat)
    have H85' := hid' (show Okay85 (g ++ [s[j]]) from fun c hc => by
      rcases List.mem_append.1 hc with hc | hc
      · exact H85.out c hc
      · rw [List.mem_singleton] at hc; subst hc; exact er)
    have hlen5 : (g ++ [s[j]]).length = g.length + 1 := by simp
    clear hE3 hzd A1 hownG X1 er
    generalize hSJ : s[j] = c8 at *
    obtain ⟨y, hy⟩ : ∃ y : Int, (c8.toNat : Int) - 33 = y := ⟨_, rfl⟩
    rw [hy] at hownA HRG
    have wy := IntWalk.i64_in y (by omega)
    by_cases g4 : g.length < 4
    · have HC := hid' (hE4.trans (if_pos g4))
      have g5 : ((g.length : Int) + 1 == 5) = false := by simp; omega
      clear hE4
      go_wp2_with fail
      refine (HK.out _).mono ?_
      rintro r w1 ⟨rfl, rfl⟩
      go_wp2_with (at_builtin; refine wpList_append_own_at _ rfl _ _ 97 rfl (bt + 1) 3 i0 (.int .i64 0) 1 8 int_under7 hi0 hz0 hz1 hz2 rfl (by decide) _ _ _ rfl hownA _ 1 1 [.int .i64 y] rfl rfl (fun j u hj => cells_new _ _ _ j u hj) (fun u hu => by simp only [List.mem_singleton] at hu; subst hu; rfl) (by unfold maxLen; omega) (by omega) (by simp; omega) ?_)
      intro v' w2 hown hgr _ hat
      obtain ⟨A2, G2⟩ := HRG.out w2 v' hown hgr (by rcases hat with h | h; exact .inl h; exact .inr (by simpa using h))
      obtain ⟨a2, k2, rfl, -⟩ := own_val hown
      have HB := hid' A2
      have HG2 := hid' G2
      have R2 := cells_of A2.box
      have l2 := blk_lt A2.box
      clear A2 G2 hown hgr hat hownA
      go_wp2_with fail
      go_roundw
      case rel => exact ⟨j + 1, g ++ [c8], b, v, 0, by omega, by omega, by first | rfl | go_num, hbl, HB.out, fun _ => ⟨hb4, by omega, H85'.out, HG2.out, fun h => by omega, HC.out⟩, fun h => absurd rfl h⟩
      case measure => simp [intOf]; omega
    have g5 : ((g.length : Int) + 1 == 5) = true := by simp; omega
    have g5n : g.length + 1 = 5 := by omega
    have hE5 := hE4.trans (if_neg g4)
    have HP5 := hid' (padG_5 (g ++ [c8]) (by omega))
    clear g5n
    have hgf : ∀ X, numV (g ++ [c8]) = X → grpF (g ++ [c8]) b 4 = if 4294967296 ≤ X then (b, 3) else (b ++ (four X).take 4, if 4000 < b.length + 4 then 5 else 0) := fun X hX => by
      unfold grpF
      rw [HP5.out, hX]
    obtain ⟨X, hX⟩ : ∃ X, numV (g ++ [c8]) = X := ⟨_, rfl⟩
    have hgf := hgf X hX
    rw [hX] at hE5
    have h4 : (four X).take 4 = four X := rfl
    rw [h4] at hgf
    clear hE4 hX
    have tail : ∀ (Q : List UInt8 × Int), grpF (g ++ [c8]) b 4 = Q → ∀ (w2 : World) (gs : Value), Tr w0 w2 bt v b 0 → Rg w2 bt v gs (g ++ [c8]) → Calls Try.prog 80 #[.pointer (some ⟨bt, 0, none⟩), gs, .int .i64 4] w2 (GrpEnd w0 bt Q) := fun Q hQ w2 gs A2 G2 => by
      rw [← hQ]
      exact rtgroup_any A2 G2 H85'.out (by omega) 4 (by decide) hb4
    by_cases big : 4294967296 ≤ X
    · have HC := hid' (hE5.trans (if_pos big))
      have HT := hid' (tail _ (hgf.trans (if_pos big)))
      clear hE5 tail hgf
      go_wp2_with fail
      refine (HK.out _).mono ?_
      rintro r w1 ⟨rfl, rfl⟩
      go_wp2_with (at_builtin; refine wpList_append_own_at _ rfl _ _ 97 rfl (bt + 1) 3 i0 (.int .i64 0) 1 8 int_under7 hi0 hz0 hz1 hz2 rfl (by decide) _ _ _ rfl hownA _ 1 1 [.int .i64 y] rfl rfl (fun j u hj => cells_new _ _ _ j u hj) (fun u hu => by simp only [List.mem_singleton] at hu; subst hu; rfl) (by unfold maxLen; omega) (by omega) (by simp; omega) ?_)
      intro v' w2 hown hgr _ hat
      obtain ⟨A2, G2⟩ := HRG.out w2 v' hown hgr (by rcases hat with h | h; exact .inl h; exact .inr (by simpa using h))
      obtain ⟨a2, k2, rfl, -⟩ := own_val hown
      have HT2 := hid' (HT.out _ _ A2 G2)
      have R2 := cells_of A2.box
      have l2 := blk_lt A2.box
      clear A2 G2 hown hgr hat hownA
      go_wp2_with fail
      refine HT2.out.mono ?_
      rintro r w3 ⟨rfl, v3, A3⟩
      have HB := hid' A3
      clear A3
      go_wp2_with fail
      go_roundw
      case rel => exact ⟨j + 1, [], b, v3, 3, by omega, by omega, by first | rfl | go_num, hbl, HB.out, fun h => absurd h (by decide), fun _ => HC.out⟩
      case measure => simp [intOf]; omega
    have hgf2 := hgf.trans (if_neg big)
    have hE6 := hE5.trans (if_neg big)
    clear hE5 hgf
    by_cases full : 4000 < b.length + 4
    · have HC := hid' (hE6.trans (if_pos full))
      rw [if_pos full] at hgf2
      have HT := hid' (tail _ hgf2)
      clear hE6 tail hgf2
      go_wp2_with fail
      refine (HK.out _).mono ?_
      rintro r w1 ⟨rfl, rfl⟩
      go_wp2_with (at_builtin; refine wpList_append_own_at _ rfl _ _ 97 rfl (bt + 1) 3 i0 (.int .i64 0) 1 8 int_under7 hi0 hz0 hz1 hz2 rfl (by decide) _ _ _ rfl hownA _ 1 1 [.int .i64 y] rfl rfl (fun j u hj => cells_new _ _ _ j u hj) (fun u hu => by simp only [List.mem_singleton] at hu; subst hu; rfl) (by unfold maxLen; omega) (by omega) (by simp; omega) ?_)
      intro v' w2 hown hgr _ hat
      obtain ⟨A2, G2⟩ := HRG.out w2 v' hown hgr (by rcases hat with h | h; exact .inl h; exact .inr (by simpa using h))
      obtain ⟨a2, k2, rfl, -⟩ := own_val hown
      have HT2 := hid' (HT.out _ _ A2 G2)
      have R2 := cells_of A2.box
      have l2 := blk_lt A2.box
      clear A2 G2 hown hgr hat hownA
      go_wp2_with fail
      refine HT2.out.mono ?_
      rintro r w3 ⟨rfl, v3, A3⟩
      have HB := hid' A3
      clear A3
      go_wp2_with fail
      go_roundw
      case rel => exact ⟨j + 1, [], b ++ four X, v3, 5, by omega, by omega, by first | rfl | go_num, by rw [List.length_append]; show b.length + 4 ≤ 4100; omega, HB.out, fun h => absurd h (by decide), fun _ => HC.out⟩
      case measure => simp [intOf]; omega
    · have HC := hid' (hE6.trans (if_neg full))
      rw [if_neg full] at hgf2
      have HT := hid' (tail _ hgf2)
      clear hE6 tail hgf2
      go_wp2_with fail
      refine (HK.out _).mono ?_
      rintro r w1 ⟨rfl, rfl⟩
      go_wp2_with (at_builtin; refine wpList_append_own_at _ rfl _ _ 97 rfl (bt + 1) 3 i0 (.int .i64 0) 1 8 int_under7 hi0 hz0 hz1 hz2 rfl (by decide) _ _ _ rfl hownA _ 1 1 [.int .i64 y] rfl rfl (fun j u hj => cells_new _ _ _ j u hj) (fun u hu => by simp only [List.mem_singleton] at hu; subst hu; rfl) (by unfold maxLen; omega) (by omega) (by simp; omega) ?_)
      intro v' w2 hown hgr _ hat
      obtain ⟨A2, G2⟩ := HRG.out w2 v' hown hgr (by rcases hat with h | h; exact .inl h; exact .inr (by simpa using h))
      obtain ⟨a2, k2, rfl, -⟩ := own_val hown
      have HT2 := hid' (HT.out _ _ A2 G2)
      have R2 := cells_of A2.box
      have l2 := blk_lt A2.box
      clear A2 G2 hown hgr hat hownA
      go_wp2_with fail
      refine HT2.out.mono ?_
      rintro r w3 ⟨rfl, v3, A3⟩
      have HB := hid' A3
      clear A3
      go_wp2_with fail
      go_roundw
      case rel => exact ⟨j + 1, [], b ++ four X, v3, 0, by omega, by omega, by first | rfl | go_num, by rw [List.length_append]; show b.length + 4 ≤ 4100; omega, HB.out, fun _ => ⟨by rw [List.length_append]; show b.length + 4 ≤ 4000; omega, by simp, fun c hc => by simp at hc, Rg.nil _ _ _, fun _ => rfl, HC.out⟩, fun h => absurd rfl h⟩
      case measure => simp [intOf]; omega
end Go.Proofs.Ytgahapnjlngebaa
