/- Walk: quote's (*taken).eighty. -/
import Derived.Test.YtgahapnjlngebaaZTqn
namespace Go.Proofs.Ytgahapnjlngebaa
open Go.RowKit

/-- A string within <~..~>: the digits of a group that were read, what was taken. -/
def eightyW (l : List UInt8) (i : Nat) (g b : List UInt8) : Int × List UInt8 × Nat :=
  match l with
  | [] => (4, [], 0)
  | c :: t =>
    if kindI c.toNat = 1 then eightyW t (i + 1) g b
    else if c = 126 then if t = [] then (4, [], 0) else if ¬ t.head? = some 62 then (3, [], 0) else if (lastF g b).1 = true then (0, (lastF g b).2.2, i + 2) else if (lastF g b).2.1 = 0 then (3, [], 0) else ((lastF g b).2.1, [], 0)
    else if c = 122 ∧ g.length = 0 then if 4000 < b.length + 4 then (5, [], 0) else eightyW t (i + 1) [] (b ++ [0, 0, 0, 0])
    else if 33 ≤ (c.toNat : Int) ∧ (c.toNat : Int) ≤ 117 then
      if g.length < 4 then eightyW t (i + 1) (g ++ [c]) b else if 4294967296 ≤ numV (g ++ [c]) then (3, [], 0) else if 4000 < b.length + 4 then (5, [], 0) else eightyW t (i + 1) [] (b ++ four (numV (g ++ [c])))
    else (3, [], 0)
theorem eightyW_at (s : ByteArray) (j : Nat) (h : j < s.size) (g b : List UInt8) : eightyW (s.toList.drop j) j g b =
    if kindI s[j].toNat = 1 then eightyW (s.toList.drop (j + 1)) (j + 1) g b
    else if s[j] = 126 then if s.toList.drop (j + 1) = [] then (4, [], 0) else if ¬ (s.toList.drop (j + 1)).head? = some 62 then (3, [], 0) else if (lastF g b).1 = true then (0, (lastF g b).2.2, j + 2) else if (lastF g b).2.1 = 0 then (3, [], 0) else ((lastF g b).2.1, [], 0)
    else if s[j] = 122 ∧ g.length = 0 then if 4000 < b.length + 4 then (5, [], 0) else eightyW (s.toList.drop (j + 1)) (j + 1) [] (b ++ [0, 0, 0, 0])
    else if 33 ≤ (s[j].toNat : Int) ∧ (s[j].toNat : Int) ≤ 117 then
      if g.length < 4 then eightyW (s.toList.drop (j + 1)) (j + 1) (g ++ [s[j]]) b else if 4294967296 ≤ numV (g ++ [s[j]]) then (3, [], 0) else if 4000 < b.length + 4 then (5, [], 0) else eightyW (s.toList.drop (j + 1)) (j + 1) [] (b ++ four (numV (g ++ [s[j]])))
    else (3, [], 0) := by
  rw [drop_at s j h, eightyW]
theorem eightyW_end (s : ByteArray) (j i : Nat) (h : s.size ≤ j) (g b : List UInt8) : eightyW (s.toList.drop j) i g b = (4, [], 0) := by rw [drop_end s j h, eightyW]
theorem lastF_ok (g b : List UInt8) : (lastF g b).1 = true → (lastF g b).2.1 = 0 := by
  unfold lastF
  split
  · intro _; rfl
  · split
    · intro h; simp at h
    · split
      · intro h; simp at h
      · intro _; rfl
theorem at8_four4 (w : World) (T : TypeId) (x : Int) (v0 : 0 ≤ x) : At8 (w.alloc (.cells #[.int .u8 (x / 16777216 % 256), .int .u8 (x / 65536 % 256), .int .u8 (x / 256 % 256), .int .u8 (x % 256)] T)) w.heap.size (four x) :=
  at8_four w T x 4 (by decide) v0
theorem at8_list (w : World) (T : TypeId) (l : List UInt8) : At8 (w.alloc (.cells (u8L l).toArray T)) w.heap.size l := fun j hj => by
  rw [cells_of (blk_new w (.cells (u8L l).toArray T)) j]
  simp [u8L, hj]
theorem lastF_len (g b : List UInt8) (h : b.length ≤ 4000) : (lastF g b).2.2.length ≤ 4000 := by
  unfold lastF
  split
  · exact h
  · split
    · exact h
    · split
      · exact h
      · have : ((four (numV (padG g))).take (g.length - 1)).length ≤ g.length - 1 := by rw [List.length_take]; omega
        simp only [List.length_append]; omega

set_option maxRecDepth 100000 in
set_option maxHeartbeats 2000000 in
theorem qeighty_any {w0 w : World} {bt : Nat} {v0 : Value} (A : Tk w0 w bt v0 [] 0) (s : ByteArray) (hs : s.size ≤ 1000000) (h1 : 2 ≤ s.size) :
    Calls Try.prog 56 #[.pointer (some ⟨bt, 0, none⟩), .string s] w (TkEnd w0 bt (eightyW (s.toList.drop 2) 2 [] [])) := by
  obtain ⟨R, hR⟩ : ∃ R, eightyW (s.toList.drop 2) 2 [] [] = R := ⟨_, rfl⟩
  rw [hR]
  have HRR := hid' hR
  clear hR
  go_enter Try.func56, Try.ntmps56
  go_wp2_with fail
  go_loopw [5, 6] (fun sg iv wr => ∃ (j : Nat) (g b : List UInt8) (gv v : Value), 2 ≤ j ∧ j ≤ s.size ∧ sg = gv ∧ iv = .int .i64 j ∧ g.length ≤ 4 ∧ Okay85 g ∧ b.length ≤ 4000 ∧ Tk w0 wr bt v b 0 ∧ Gr wr bt v gv g ∧ (g = [] → gv = .slice none 0 0) ∧ R = eightyW (s.toList.drop j) j g b) (fun _ i _ => s.size - (intOf i).toNat)
  case atStart => exact ⟨2, [], [], _, v0, Nat.le_refl _, h1, rfl, rfl, by simp, fun x hx => by simp at hx, by simp, A, Gr.nil _ _ _, fun _ => rfl, HRR.out.symm⟩
  case round =>
    obtain ⟨j, g, b, gv, v, hj1, hj2, rfl, rfl, hgl, h85, hbl, A1, G1, hz, hW⟩ := hrel
    clear A
    obtain ⟨ga, gc, rfl, -⟩ := own_val G1.1
    have HA := hid' A1
    have HG := hid' G1
    have H85 := hid' h85
    have HZ := hid' hz
    clear A1 G1 h85 hz
    by_cases hlt : j < s.size
    rotate_left
    · obtain rfl : j = s.size := by omega
      have HC := hid' (hW.trans (eightyW_end s s.size _ (Nat.le_refl _) g b))
      clear hW
      go_wp2_with fail
      refine (qbad_any HA.out 4).mono ?_
      rintro r w1 ⟨rfl, A2⟩
      have HB := hid' A2
      clear A2
      go_wp2_with fail
      go_ret
      unfold TkEnd
      rw [HC.out]
      exact ⟨v, b, rfl, HB.out, fun h => absurd h (by decide)⟩
    have hlt' : (j : Int) < s.size := by omega
    have hE := hW.trans (eightyW_at s j hlt g b)
    clear hW
    have u0 : (s[j].toNat : Int) < 256 := by have := s[j].toNat_lt; omega
    by_cases ek : kindI s[j].toNat = 1
    · have uk : (kindI s[j].toNat == 1) = true := by simpa using ek
      have HC := hid' (hE.trans (if_pos ek))
      clear hE ek
      go_wp2_with fail
      refine (ckind_any _ _).mono ?_
      rintro r w1 ⟨rfl, rfl⟩
      go_wp2_with fail
      go_roundw
      case rel => exact ⟨j + 1, g, b, _, v, by omega, by omega, rfl, by go_num, hgl, H85.out, hbl, HA.out, HG.out, HZ.out, HC.out⟩
      case measure => simp [intOf]; omega
    have uk : (kindI s[j].toNat == 1) = false := by simpa using ek
    have hE1 := hE.trans (if_neg ek)
    clear hE ek
    by_cases e126 : s[j] = 126
    · have u126 := u8T 126 e126 (126 : Int)
      have hE2 := hE1.trans (if_pos e126)
      clear hE1
      by_cases hk : j + 1 < s.size
      rotate_left
      · have hk' : (j : Int) + 1 = s.size := by omega
        have hk2 : ((j : Int) + 1 == (s.size : Int)) = true := by simpa using hk'
        have hk3 : (j + 1 == s.size) = true := by simp; omega
        have HC := hid' (hE2.trans (if_pos (drop_end s (j + 1) (by omega))))
        clear hE2 e126 hk'
        go_wp2_with fail
        refine (ckind_any _ _).mono ?_
        rintro r w1 ⟨rfl, rfl⟩
        go_wp2_with fail
        refine (qbad_any HA.out 4).mono ?_
        rintro r w1 ⟨rfl, A2⟩
        have HB := hid' A2
        clear A2
        go_wp2_with fail
        go_ret
        unfold TkEnd
        rw [HC.out]
        exact ⟨v, b, rfl, HB.out, fun h => absurd h (by decide)⟩
      have hk' : (j : Int) + 1 < s.size := by omega
      have hk2 : ((j : Int) + 1 == (s.size : Int)) = false := by simp; omega
      have hk3 : (j + 1 == s.size) = false := by simp; omega
      have hh : (s.toList.drop (j + 1)).head? = some s[j + 1] := by rw [drop_at s (j + 1) hk]; rfl
      have hE3 := hE2.trans (if_neg (by rw [drop_at s (j + 1) hk]; simp))
      rw [hh] at hE3
      clear hE2 hh
      by_cases e62 : s[j + 1] = 62
      rotate_left
      · have u62 := u8nT 62 e62 (62 : Int)
        have HC := hid' (hE3.trans (if_pos (by simpa using e62)))
        have R0 := cells_of HA.out.box
        have l0 := blk_lt HA.out.box
        have Z0 := free_of HA.out.box
        have HB := hid' (HA.out.fail 3)
        clear hE3 e126 e62
        go_wp2_with fail
        refine (ckind_any _ _).mono ?_
        rintro r w1 ⟨rfl, rfl⟩
        go_wp2_with fail
        go_ret
        unfold TkEnd
        rw [HC.out]
        exact ⟨v, b, rfl, HB.out, fun h => absurd h (by decide)⟩
      have u62 := u8nF 62 e62 (62 : Int)
      have hE4 := hE3.trans (if_neg (by rw [e62]; simp))
      have HL := hid' (qlast_any HA.out HG.out hgl H85.out hbl)
      clear hE3 e126 e62
      have hok := lastF_ok g b
      generalize lastF g b = LF at *
      obtain ⟨lo, le, lb⟩ := LF
      simp only at hE4 hok
      cases lo with
      | true =>
        obtain rfl : le = 0 := hok rfl
        have HC := hid' (hE4.trans (if_pos rfl))
        clear hE4 hok
        go_wp2_with fail
        refine (ckind_any _ _).mono ?_
        rintro r w1 ⟨rfl, rfl⟩
        go_wp2_with fail
        refine HL.out.mono ?_
        rintro r w1 ⟨v', rfl, A2⟩
        have HB := hid' A2
        clear A2 HL
        go_wp2_with fail
        go_ret
        unfold TkEnd
        rw [HC.out]
        exact ⟨v', _, rfl, HB.out, fun _ => rfl⟩
      | false =>
        have hE5 := hE4.trans (if_neg (by simp))
        clear hE4 hok
        by_cases el : le = 0
        · subst el
          have HC := hid' (hE5.trans (if_pos rfl))
          clear hE5
          go_wp2_with fail
          refine (ckind_any _ _).mono ?_
          rintro r w1 ⟨rfl, rfl⟩
          go_wp2_with fail
          refine HL.out.mono ?_
          rintro r w1 ⟨v', rfl, A2⟩
          have R0 := cells_of A2.box
          have l0 := blk_lt A2.box
          have Z0 := free_of A2.box
          have HB := hid' (A2.fail 3)
          clear A2 HL
          go_wp2_with fail
          go_ret
          unfold TkEnd
          rw [HC.out]
          exact ⟨v', _, rfl, HB.out, fun h => absurd h (by decide)⟩
        · have el' : (le == 0) = false := by simpa using el
          have HC := hid' (hE5.trans (if_neg el))
          have HEL := hid' el
          clear hE5 el
          go_wp2_with fail
          refine (ckind_any _ _).mono ?_
          rintro r w1 ⟨rfl, rfl⟩
          go_wp2_with fail
          refine HL.out.mono ?_
          rintro r w1 ⟨v', rfl, A2⟩
          have R0 := cells_of A2.box
          have l0 := blk_lt A2.box
          have HB := hid' A2
          clear A2 HL
          go_wp2_with fail
          go_ret
          unfold TkEnd
          rw [HC.out]
          exact ⟨v', _, rfl, HB.out, fun h => absurd h HEL.out⟩
    have u126 := u8F 126 e126 (126 : Int)
    have hE2 := hE1.trans (if_neg e126)
    clear hE1 e126
    by_cases ez : s[j] = 122 ∧ g.length = 0
    · obtain ⟨e122, eg⟩ := ez
      have u122 := u8T 122 e122 (122 : Int)
      have ug : ((g.length : Int) == 0) = true := by rw [eg]; rfl
      have hE3 := hE2.trans (if_pos ⟨e122, eg⟩)
      clear hE2 e122
      by_cases hf : 4000 < b.length + 4
      · have HC := hid' (hE3.trans (if_pos hf))
        clear hE3 eg
        go_wp2_with fail
        refine (ckind_any _ _).mono ?_
        rintro r w1 ⟨rfl, rfl⟩
        go_wp2_with fail
        refine (qadd_full (HA.out.pure (Chg.alloc (Chg.refl NoB _) _)) _ [0, 0, 0, 0] _ hbl (by simp) (by simp; omega)).mono ?_
        rintro r w1 ⟨rfl, A2⟩
        have HB := hid' A2
        clear A2
        go_wp2_with fail
        go_ret
        unfold TkEnd
        rw [HC.out]
        exact ⟨v, b, rfl, HB.out, fun h => absurd h (by decide)⟩
      · have HC := hid' (hE3.trans (if_neg hf))
        have e0 : g = [] := List.eq_nil_of_length_eq_zero eg
        have HG0 := hid' e0
        obtain ⟨rfl, -, rfl⟩ := Value.slice.inj (HZ.out e0)
        clear hE3 eg e0
        go_wp2_with fail
        refine (ckind_any _ _).mono ?_
        rintro r w1 ⟨rfl, rfl⟩
        go_wp2_with fail
        refine (qadd_any (HA.out.pure (Chg.alloc (Chg.refl NoB _) _)) _ [0, 0, 0, 0] _ (at8_list wr _ [0, 0, 0, 0]) (by simp) (by simp; omega)).mono ?_
        rintro r w1 ⟨rfl, v', A2⟩
        have HB := hid' A2
        clear A2
        go_wp2_with fail
        go_roundw
        case rel => exact ⟨j + 1, [], _, _, v', by omega, by omega, by rw [HG0.out]; rfl, by go_num, by simp, fun x hx => by simp at hx, by simp; omega, HB.out, Gr.nil _ _ _, fun _ => rfl, HC.out⟩
        case measure => simp [intOf]; omega
    have uz : ((s[j].toNat : Int) == 122) = false ∨ ((s[j].toNat : Int) == 122) = true ∧ ((g.length : Int) == 0) = false := by
      by_cases e122 : s[j] = 122
      · exact .inr ⟨u8T 122 e122 (122 : Int), by
          have : ¬ g.length = 0 := fun e => ez ⟨e122, e⟩
          simp only [beq_eq_false_iff_ne, ne_eq]; omega⟩
      · exact .inl (u8F 122 e122 (122 : Int))
    have hE3 := hE2.trans (if_neg ez)
    clear hE2 ez
    rcases uz with uz | ⟨uz, ug⟩
    rotate_left
    · have h122 : (s[j].toNat : Int) = 122 := by simpa using uz
      have HC := hid' (hE3.trans (if_neg (by omega)))
      have h117 : 117 < (s[j].toNat : Int) := by omega
      clear hE3 h122
      go_wp2_with fail
      refine (ckind_any _ _).mono ?_
      rintro r w1 ⟨rfl, rfl⟩
      go_wp2_with fail
      refine (qbad_any HA.out 3).mono ?_
      rintro r w1 ⟨rfl, A2⟩
      have HB := hid' A2
      clear A2
      go_wp2_with fail
      go_ret
      unfold TkEnd
      rw [HC.out]
      exact ⟨v, b, rfl, HB.out, fun h => absurd h (by decide)⟩
    by_cases c1 : (s[j].toNat : Int) < 33
    · have HC := hid' (hE3.trans (if_neg (by omega)))
      clear hE3
      go_wp2_with fail
      refine (ckind_any _ _).mono ?_
      rintro r w1 ⟨rfl, rfl⟩
      go_wp2_with fail
      refine (qbad_any HA.out 3).mono ?_
      rintro r w1 ⟨rfl, A2⟩
      have HB := hid' A2
      clear A2
      go_wp2_with fail
      go_ret
      unfold TkEnd
      rw [HC.out]
      exact ⟨v, b, rfl, HB.out, fun h => absurd h (by decide)⟩
    have c1' : 33 ≤ (s[j].toNat : Int) := by omega
    by_cases c2 : 117 < (s[j].toNat : Int)
    · have HC := hid' (hE3.trans (if_neg (by omega)))
      clear hE3
      go_wp2_with fail
      refine (ckind_any _ _).mono ?_
      rintro r w1 ⟨rfl, rfl⟩
      go_wp2_with fail
      refine (qbad_any HA.out 3).mono ?_
      rintro r w1 ⟨rfl, A2⟩
      have HB := hid' A2
      clear A2
      go_wp2_with fail
      go_ret
      unfold TkEnd
      rw [HC.out]
      exact ⟨v, b, rfl, HB.out, fun h => absurd h (by decide)⟩
    have c2' : (s[j].toNat : Int) ≤ 117 := by omega
    have hE4 := hE3.trans (if_pos ⟨c1', c2'⟩)
    have hn85 : Okay85 (g ++ [s[j]]) := fun x hx => by
      rcases List.mem_append.1 hx with hx | hx
      · exact H85.out x hx
      · obtain rfl : x = s[j] := by simpa using hx
        exact ⟨c1', c2'⟩
    have HN85 := hid' hn85
    clear hE3 hn85
    by_cases cg : g.length < 4
    · have cg' : (g.length : Int) + 1 < 5 := by omega
      have HC := hid' (hE4.trans (if_pos cg))
      clear hE4
      go_wp2_with fail
      refine (ckind_any _ _).mono ?_
      rintro r w1 ⟨rfl, rfl⟩
      go_wp2_with fail
      refine (qput_any (HG.out.pure ((Chg.refl NoB wr).alloc _)).1 (by have := blk_lt HA.out.box; simp; omega) _ [s[j]] _ (at8_one _ _) (by simp; omega)).mono ?_
      rintro r w1 ⟨gv2, rfl, hown, hgr, hat⟩
      obtain ⟨A2, G2⟩ := Gr.more (HA.out.pure ((Chg.refl NoB wr).alloc _)) (HG.out.pure ((Chg.refl NoB wr).alloc _)) hown hgr hat
      obtain ⟨ga2, gc2, rfl, -⟩ := own_val G2.1
      have HA2 := hid' A2
      have HG2 := hid' G2
      rw [List.length_append, List.length_singleton] at HG2
      clear A2 G2 hown hgr hat
      have hl2 : ((g ++ [s[j]]).length : Int) = (g.length : Int) + 1 := by simp
      go_wp2_with fail
      go_roundw
      case rel => exact ⟨j + 1, g ++ [s[j]], b, _, v, by omega, by omega, rfl, by go_num, by simp; omega, HN85.out, hbl, HA2.out, by simpa using HG2.out, fun e => by simp at e, HC.out⟩
      case measure => simp [intOf]; omega
    have hE5 := hE4.trans (if_neg cg)
    have hl5 : (g ++ [s[j]]).length = 5 := by simp; omega
    have hv := numV_le (g ++ [s[j]]) HN85.out
    rw [hl5] at hv
    have v0 : 0 ≤ numV (g ++ [s[j]]) := hv.1
    have v1 : numV (g ++ [s[j]]) ≤ 4437053124 := by have := hv.2; omega
    have cg' : (g.length : Int) = 4 := by omega
    have HL5 := hid' hl5
    have HN := hid' (fun w gb gc (hw : At8 w gb (g ++ [s[j]])) (hlt : gb < w.heap.size) => qnumber_any w gb (g ++ [s[j]]) gc HL5.out hw HN85.out hlt)
    clear hE4 hv hl5 cg
    generalize numV (g ++ [s[j]]) = x at *
    by_cases c3 : 4294967296 ≤ x
    · have d3 : decide (x < 4294967296) = false := by simp; omega
      have HC := hid' (hE5.trans (if_pos c3))
      clear hE5
      go_wp2_with fail
      refine (ckind_any _ _).mono ?_
      rintro r w1 ⟨rfl, rfl⟩
      go_wp2_with fail
      refine (qput_any (HG.out.pure ((Chg.refl NoB wr).alloc _)).1 (by have := blk_lt HA.out.box; simp; omega) _ [s[j]] _ (at8_one _ _) (by simp; omega)).mono ?_
      rintro r w1 ⟨gv2, rfl, hown, hgr, hat⟩
      obtain ⟨A2, G2⟩ := Gr.more (HA.out.pure ((Chg.refl NoB wr).alloc _)) (HG.out.pure ((Chg.refl NoB wr).alloc _)) hown hgr hat
      obtain ⟨gb, gc2, rfl, h8, hglt⟩ := own_some G2.1 (by rw [HL5.out]; omega)
      rw [HL5.out]
      have HA2 := hid' A2
      have H8 := hid' h8
      clear A2 G2 hown hgr hat h8
      go_wp2_with fail
      refine (HN.out _ _ _ H8.out hglt).mono ?_
      rintro r w2 ⟨rfl, rfl⟩
      go_wp2_with fail
      refine (qbad_any HA2.out 3).mono ?_
      rintro r w1 ⟨rfl, A2⟩
      have HB := hid' A2
      clear A2
      go_wp2_with fail
      go_ret
      unfold TkEnd
      rw [HC.out]
      exact ⟨v, b, rfl, HB.out, fun h => absurd h (by decide)⟩
    have d3 : decide (x < 4294967296) = true := by simp; omega
    by_cases hf : 4000 < b.length + 4
    · have HC := hid' (hE5.trans ((if_neg c3).trans (if_pos hf)))
      clear hE5
      go_wp2_with fail
      refine (ckind_any _ _).mono ?_
      rintro r w1 ⟨rfl, rfl⟩
      go_wp2_with fail
      refine (qput_any (HG.out.pure ((Chg.refl NoB wr).alloc _)).1 (by have := blk_lt HA.out.box; simp; omega) _ [s[j]] _ (at8_one _ _) (by simp; omega)).mono ?_
      rintro r w1 ⟨gv2, rfl, hown, hgr, hat⟩
      obtain ⟨A2, G2⟩ := Gr.more (HA.out.pure ((Chg.refl NoB wr).alloc _)) (HG.out.pure ((Chg.refl NoB wr).alloc _)) hown hgr hat
      obtain ⟨gb, gc2, rfl, h8, hglt⟩ := own_some G2.1 (by rw [HL5.out]; omega)
      rw [HL5.out]
      have HA2 := hid' A2
      have H8 := hid' h8
      clear A2 G2 hown hgr hat h8
      go_wp2_with fail
      refine (HN.out _ _ _ H8.out hglt).mono ?_
      rintro r w2 ⟨rfl, rfl⟩
      go_wp2_with fail
      refine (qadd_full (HA2.out.pure (Chg.alloc (Chg.refl NoB _) _)) _ (four x) _ hbl (by simp [four]) (by simp [four]; omega)).mono ?_
      rintro r w3 ⟨rfl, A2⟩
      have HB := hid' A2
      clear A2
      go_wp2_with fail
      go_ret
      unfold TkEnd
      rw [HC.out]
      exact ⟨v, b, rfl, HB.out, fun h => absurd h (by decide)⟩
    · have HC := hid' (hE5.trans ((if_neg c3).trans (if_neg hf)))
      clear hE5 c3
      go_wp2_with fail
      refine (ckind_any _ _).mono ?_
      rintro r w1 ⟨rfl, rfl⟩
      go_wp2_with fail
      refine (qput_any (HG.out.pure ((Chg.refl NoB wr).alloc _)).1 (by have := blk_lt HA.out.box; simp; omega) _ [s[j]] _ (at8_one _ _) (by simp; omega)).mono ?_
      rintro r w1 ⟨gv2, rfl, hown, hgr, hat⟩
      obtain ⟨A2, G2⟩ := Gr.more (HA.out.pure ((Chg.refl NoB wr).alloc _)) (HG.out.pure ((Chg.refl NoB wr).alloc _)) hown hgr hat
      obtain ⟨gb, gc2, rfl, h8, hglt⟩ := own_some G2.1 (by rw [HL5.out]; omega)
      rw [HL5.out]
      have HA2 := hid' A2
      have H8 := hid' h8
      clear A2 G2 hown hgr hat h8
      go_wp2_with fail
      refine (HN.out _ _ _ H8.out hglt).mono ?_
      rintro r w2 ⟨rfl, rfl⟩
      go_wp2_with fail
      refine (qadd_any (HA2.out.pure (Chg.alloc (Chg.refl NoB _) _)) _ (four x) _ (at8_four4 _ _ x v0) (by simp [four]) (by simp [four]; omega)).mono ?_
      rintro r w3 ⟨rfl, v', A2⟩
      have HB := hid' A2
      clear A2
      go_wp2_with fail
      go_roundw
      case rel => exact ⟨j + 1, [], _, _, v', by omega, by omega, rfl, by go_num, by simp, fun x hx => by simp at hx, by simp [four]; omega, HB.out, Gr.nil _ _ _, fun _ => rfl, HC.out⟩
      case measure => simp [intOf]; omega
end Go.Proofs.Ytgahapnjlngebaa
