/- Walk: quote.Paren. -/
import Derived.Test.YtpgkjgceldleaaaZTokd
import Derived.Test.YtpgkjgceldleaaaZChar
namespace Go.Proofs.Ytpgkjgceldleaaa
open Go.RowKit

theorem at8_of (w : World) (cs : Array Value) (l : List UInt8) (h : ∀ j, j < l.length → cs[j]? = some (u8V (l.getD j 0))) : At8 (w.alloc (.cells cs 5)) w.heap.size l := fun j hj => by
  rw [cells_of (blk_new w _) j]; exact h j hj
/-- A row of bytes that grows. -/
def QOwn (w0 w : World) (v : Value) (b : List UInt8) : Prop := Chg NoB w0 w ∧ w.ownsRow w0.heap.size 5 1 v b.length (u8L b)
theorem QOwn.put {w0 w : World} {v : Value} {b : List UInt8} (A : QOwn w0 w v b) (cs : Array Value) (m : List UInt8) (h : ∀ j, j < m.length → cs[j]? = some (u8V (m.getD j 0))) (hl : b.length + m.length ≤ 1000000) (n : Nat) (hn : m.length = n) :
    Calls Try.prog 78 #[v, .slice (some ⟨w.heap.size, 0, none⟩) n n] (w.alloc (.cells cs 5)) fun e w' => ∃ v', e = .returned v' ∧ QOwn w0 w' v' (b ++ m) := by
  subst hn
  have X := (Chg.refl NoB w).alloc (.cells cs 5)
  have h1 := ownB A.2 X (fun _ _ e => e)
  refine (qput_any h1 (by have := A.1.size; simp; omega) w.heap.size m m.length (at8_of w cs m h) hl).mono ?_
  rintro e w' ⟨v', rfl, h2, h3, h4⟩
  exact ⟨v', rfl, Chg.grown (A.1.pure X) h3 (fun k hk => .inr (own_ge h1 k (by rw [hk]; simp)).1), h2⟩
theorem quote_snoc (l : List UInt8) (c : UInt8) : quoteQ (l ++ [c]) = quoteQ l ++ oneQ c := by simp [quoteQ]
theorem oneQ_len (c : UInt8) : (oneQ c).length ≤ 4 := by
  unfold oneQ
  repeat' split
  all_goals simp
theorem quote_len : ∀ l : List UInt8, (quoteQ l).length ≤ 4 * l.length
  | [] => by simp [quoteQ]
  | c :: l => by
    have := quote_len l
    have := oneQ_len c
    rw [show quoteQ (c :: l) = oneQ c ++ quoteQ l from rfl, List.length_append, List.length_cons]
    omega
theorem oct_val (c : UInt8) : ((48 + c / 64).toNat : Int) = 48 + (c.toNat : Int) / 64 ∧ ((48 + c / 8 % 8).toNat : Int) = 48 + (c.toNat : Int) / 8 % 8 ∧ ((48 + c % 8).toNat : Int) = 48 + (c.toNat : Int) % 8 := by
  have key : ∀ n : Fin 256, (fun c : UInt8 => ((48 + c / 64).toNat : Int) = 48 + (c.toNat : Int) / 64 ∧ ((48 + c / 8 % 8).toNat : Int) = 48 + (c.toNat : Int) / 8 % 8 ∧ ((48 + c % 8).toNat : Int) = 48 + (c.toNat : Int) % 8) (UInt8.ofNat n.val) := by decide +kernel
  have kc := key ⟨c.toNat, c.toNat_lt⟩
  simp only [UInt8.ofNat_toNat] at kc
  exact kc
set_option maxRecDepth 100000 in
set_option maxHeartbeats 1000000 in
theorem parenP_any (s : ByteArray) (hs : s.size ≤ 100000) (w : World) :
    Calls Try.prog 66 #[.string s] w fun r w' => r = .returned (.string (bytesB (parenL s.toList))) ∧ Chg NoB w w' := by
  have H0 := hid' (QOwn.put (w0 := w) (w := w) (v := .slice none 0 0) (b := []) ⟨Chg.refl _ _, World.ownsRow_nil _ _ _ _⟩ #[.int .u8 40] [40] (by intro j hj; simp at hj; subst hj; rfl) (by simp) 1 rfl)
  have hsi : (s.size : Int) ≤ 100000 := by omega
  go_enter Try.func66, Try.ntmps66
  go_wp2_with fail
  refine H0.out.mono ?_
  rintro e w1 ⟨v1, rfl, A1⟩
  clear H0
  go_wp2_with fail
  go_loopw [3, 4] (fun ov iv wr => ∃ i : Nat, i ≤ s.size ∧ iv = .int .i64 i ∧ QOwn w wr ov (40 :: quoteQ (s.toList.take i))) (fun _ iv _ => s.size - (intOf iv).toNat)
  case atStart => exact ⟨0, Nat.zero_le _, rfl, A1⟩
  case round =>
    obtain ⟨i, hi, rfl, A2⟩ := hrel
    clear A1
    by_cases hlt : i < s.size
    · have hc : s.toList[i]? = some s[i] := lst_get s i hlt
      have hlen := quote_len (s.toList.take i)
      rw [List.length_take, size_lst] at hlen
      have HP := hid' (fun (cs : Array Value) (m : List UInt8) (h : ∀ j, j < m.length → cs[j]? = some (u8V (m.getD j 0))) (n : Nat) (hn : m.length = n) (hn4 : n ≤ 4) => QOwn.put A2 cs m h (by simp; omega) n hn)
      have HT := hid' (show ∀ m, m = oneQ s[i] → 40 :: quoteQ (s.toList.take i) ++ m = 40 :: quoteQ (s.toList.take (i + 1)) from fun m hm => by
        rw [List.take_add_one, hc, Option.toList_some, quote_snoc, hm]; rfl)
      have hil : (i : Int) < s.size := by omega
      have hbd : (s[i].toNat : Int) < 256 := by have := s[i].toNat_lt; omega
      have hb0 : (0 : Int) ≤ s[i].toNat := by omega
      generalize hcc : s[i] = c at *
      clear hc hlen A2
      have HN := hid' (qname_any c.toNat)
      by_cases h1 : c = 40 ∨ c = 41 ∨ c = 92
      · rcases h1 with rfl | rfl | rfl
        · have e : qnameI 40 = (0, false) := by decide
          have HN := hid' (qname_any 40)
          rw [e] at HN
          go_wp2_with fail
          refine (HN.out _).mono ?_
          rintro e w2 ⟨rfl, rfl⟩
          go_wp2_with fail
          refine (HP.out _ [92, 40] ?_ 2 rfl (by decide)).mono ?_
          · intro j hj; rcases j with _ | _ | j
            · rfl
            · rfl
            · simp at hj; omega
          rintro e w3 ⟨v3, rfl, A3⟩
          rw [HT.out [92, 40] (by decide)] at A3
          go_wp2_with fail
          go_roundw
          case rel => exact ⟨i + 1, by omega, by go_num, A3⟩
          case measure => simp [intOf]; omega
        · have e : qnameI 41 = (0, false) := by decide
          have HN := hid' (qname_any 41)
          rw [e] at HN
          go_wp2_with fail
          refine (HN.out _).mono ?_
          rintro e w2 ⟨rfl, rfl⟩
          go_wp2_with fail
          refine (HP.out _ [92, 41] ?_ 2 rfl (by decide)).mono ?_
          · intro j hj; rcases j with _ | _ | j
            · rfl
            · rfl
            · simp at hj; omega
          rintro e w3 ⟨v3, rfl, A3⟩
          rw [HT.out [92, 41] (by decide)] at A3
          go_wp2_with fail
          go_roundw
          case rel => exact ⟨i + 1, by omega, by go_num, A3⟩
          case measure => simp [intOf]; omega
        · have e : qnameI 92 = (0, false) := by decide
          have HN := hid' (qname_any 92)
          rw [e] at HN
          go_wp2_with fail
          refine (HN.out _).mono ?_
          rintro e w2 ⟨rfl, rfl⟩
          go_wp2_with fail
          refine (HP.out _ [92, 92] ?_ 2 rfl (by decide)).mono ?_
          · intro j hj; rcases j with _ | _ | j
            · rfl
            · rfl
            · simp at hj; omega
          rintro e w3 ⟨v3, rfl, A3⟩
          rw [HT.out [92, 92] (by decide)] at A3
          go_wp2_with fail
          go_roundw
          case rel => exact ⟨i + 1, by omega, by go_num, A3⟩
          case measure => simp [intOf]; omega
      by_cases h2 : c = 8 ∨ c = 9 ∨ c = 10 ∨ c = 12 ∨ c = 13
      · rcases h2 with rfl | rfl | rfl | rfl | rfl
        · have e : qnameI 8 = (98, true) := by decide
          have HN := hid' (qname_any 8)
          rw [e] at HN
          go_wp2_with fail
          refine (HN.out _).mono ?_
          rintro e w2 ⟨rfl, rfl⟩
          go_wp2_with fail
          refine (HP.out _ [92, 98] ?_ 2 rfl (by decide)).mono ?_
          · intro j hj; rcases j with _ | _ | j
            · rfl
            · rfl
            · simp at hj; omega
          rintro e w3 ⟨v3, rfl, A3⟩
          rw [HT.out [92, 98] (by decide)] at A3
          go_wp2_with fail
          go_roundw
          case rel => exact ⟨i + 1, by omega, by go_num, A3⟩
          case measure => simp [intOf]; omega
        · have e : qnameI 9 = (116, true) := by decide
          have HN := hid' (qname_any 9)
          rw [e] at HN
          go_wp2_with fail
          refine (HN.out _).mono ?_
          rintro e w2 ⟨rfl, rfl⟩
          go_wp2_with fail
          refine (HP.out _ [92, 116] ?_ 2 rfl (by decide)).mono ?_
          · intro j hj; rcases j with _ | _ | j
            · rfl
            · rfl
            · simp at hj; omega
          rintro e w3 ⟨v3, rfl, A3⟩
          rw [HT.out [92, 116] (by decide)] at A3
          go_wp2_with fail
          go_roundw
          case rel => exact ⟨i + 1, by omega, by go_num, A3⟩
          case measure => simp [intOf]; omega
        · have e : qnameI 10 = (110, true) := by decide
          have HN := hid' (qname_any 10)
          rw [e] at HN
          go_wp2_with fail
          refine (HN.out _).mono ?_
          rintro e w2 ⟨rfl, rfl⟩
          go_wp2_with fail
          refine (HP.out _ [92, 110] ?_ 2 rfl (by decide)).mono ?_
          · intro j hj; rcases j with _ | _ | j
            · rfl
            · rfl
            · simp at hj; omega
          rintro e w3 ⟨v3, rfl, A3⟩
          rw [HT.out [92, 110] (by decide)] at A3
          go_wp2_with fail
          go_roundw
          case rel => exact ⟨i + 1, by omega, by go_num, A3⟩
          case measure => simp [intOf]; omega
        · have e : qnameI 12 = (102, true) := by decide
          have HN := hid' (qname_any 12)
          rw [e] at HN
          go_wp2_with fail
          refine (HN.out _).mono ?_
          rintro e w2 ⟨rfl, rfl⟩
          go_wp2_with fail
          refine (HP.out _ [92, 102] ?_ 2 rfl (by decide)).mono ?_
          · intro j hj; rcases j with _ | _ | j
            · rfl
            · rfl
            · simp at hj; omega
          rintro e w3 ⟨v3, rfl, A3⟩
          rw [HT.out [92, 102] (by decide)] at A3
          go_wp2_with fail
          go_roundw
          case rel => exact ⟨i + 1, by omega, by go_num, A3⟩
          case measure => simp [intOf]; omega
        · have e : qnameI 13 = (114, true) := by decide
          have HN := hid' (qname_any 13)
          rw [e] at HN
          go_wp2_with fail
          refine (HN.out _).mono ?_
          rintro e w2 ⟨rfl, rfl⟩
          go_wp2_with fail
          refine (HP.out _ [92, 114] ?_ 2 rfl (by decide)).mono ?_
          · intro j hj; rcases j with _ | _ | j
            · rfl
            · rfl
            · simp at hj; omega
          rintro e w3 ⟨v3, rfl, A3⟩
          rw [HT.out [92, 114] (by decide)] at A3
          go_wp2_with fail
          go_roundw
          case rel => exact ⟨i + 1, by omega, by go_num, A3⟩
          case measure => simp [intOf]; omega
      simp only [not_or] at h1 h2
      have e : qnameI (c.toNat : Int) = (0, false) := by
        have f : ∀ (n : UInt8) (m : Int), m = n.toNat → ¬ c = n → ¬ (c.toNat : Int) = m := fun n m hm h e => h (UInt8.toNat_inj.1 (by omega))
        unfold qnameI
        rw [if_neg (f 8 8 rfl h2.1), if_neg (f 9 9 rfl h2.2.1), if_neg (f 10 10 rfl h2.2.2.1), if_neg (f 12 12 rfl h2.2.2.2.1), if_neg (f 13 13 rfl h2.2.2.2.2)]
      rw [e] at HN
      have g1 := u8F 40 h1.1 40
      have g2 := u8F 41 h1.2.1 41
      have g3 := u8F 92 h1.2.2 92
      by_cases h3 : c < 32 ∨ 126 < c
      · have ho : [92, 48 + c / 64, 48 + c / 8 % 8, 48 + c % 8] = oneQ c := by
          unfold oneQ
          rw [if_neg (by simp only [not_or]; exact h1), if_neg h2.1, if_neg h2.2.1, if_neg h2.2.2.1, if_neg h2.2.2.2.1, if_neg h2.2.2.2.2, if_pos h3]
        have hd : (decide ((c.toNat : Int) < 32) || decide (126 < (c.toNat : Int))) = true := by
          rcases h3 with h | h
          · have : (c.toNat : Int) < 32 := by have := UInt8.lt_iff_toNat_lt.1 h; have e : (32 : UInt8).toNat = 32 := rfl; omega
            simp [this]
          · have : 126 < (c.toNat : Int) := by have := UInt8.lt_iff_toNat_lt.1 h; have e : (126 : UInt8).toNat = 126 := rfl; omega
            simp [this]
        clear h1 h2 h3 e
        by_cases d0 : (c.toNat : Int) < 32
        · have d1 : decide ((c.toNat : Int) < 32) = true := by simpa using d0
          clear d0 hd
          go_wp2_with fail
          refine (HN.out _).mono ?_
          rintro e w2 ⟨rfl, rfl⟩
          go_wp2_with fail
          refine (HP.out _ [92, 48 + c / 64, 48 + c / 8 % 8, 48 + c % 8] ?_ 4 rfl (by decide)).mono ?_
          · obtain ⟨o1, o2, o3⟩ := oct_val c
            intro j hj
            rcases j with _ | _ | _ | _ | j
            · rfl
            · exact congrArg (fun x => some (Value.int .u8 x)) o1.symm
            · exact congrArg (fun x => some (Value.int .u8 x)) o2.symm
            · exact congrArg (fun x => some (Value.int .u8 x)) o3.symm
            · simp at hj; omega
          rintro e w3 ⟨v3, rfl, A3⟩
          rw [HT.out _ ho] at A3
          go_wp2_with fail
          go_roundw
          case rel => exact ⟨i + 1, by omega, by go_num, A3⟩
          case measure => simp [intOf]; omega
        · have d1 : decide ((c.toNat : Int) < 32) = false := by simpa using d0
          have d2 : decide (126 < (c.toNat : Int)) = true := by rw [d1, Bool.false_or] at hd; exact hd
          clear d0 hd
          go_wp2_with fail
          refine (HN.out _).mono ?_
          rintro e w2 ⟨rfl, rfl⟩
          go_wp2_with fail
          refine (HP.out _ [92, 48 + c / 64, 48 + c / 8 % 8, 48 + c % 8] ?_ 4 rfl (by decide)).mono ?_
          · obtain ⟨o1, o2, o3⟩ := oct_val c
            intro j hj
            rcases j with _ | _ | _ | _ | j
            · rfl
            · exact congrArg (fun x => some (Value.int .u8 x)) o1.symm
            · exact congrArg (fun x => some (Value.int .u8 x)) o2.symm
            · exact congrArg (fun x => some (Value.int .u8 x)) o3.symm
            · simp at hj; omega
          rintro e w3 ⟨v3, rfl, A3⟩
          rw [HT.out _ ho] at A3
          go_wp2_with fail
          go_roundw
          case rel => exact ⟨i + 1, by omega, by go_num, A3⟩
          case measure => simp [intOf]; omega
      · have h32 : ¬ (c.toNat : Int) < 32 := fun h => h3 (.inl (UInt8.lt_iff_toNat_lt.2 (by show c.toNat < 32; omega)))
        have h126 : ¬ 126 < (c.toNat : Int) := fun h => h3 (.inr (UInt8.lt_iff_toNat_lt.2 (by show 126 < c.toNat; omega)))
        have d1 : decide ((c.toNat : Int) < 32) = false := by simpa using h32
        have d2 : decide (126 < (c.toNat : Int)) = false := by simpa using h126
        have ho : [c] = oneQ c := by
          unfold oneQ
          rw [if_neg (by simp only [not_or]; exact h1), if_neg h2.1, if_neg h2.2.1, if_neg h2.2.2.1, if_neg h2.2.2.2.1, if_neg h2.2.2.2.2, if_neg h3]
        clear h1 h2 h3 h32 h126 e
        go_wp2_with fail
        refine (HN.out _).mono ?_
        rintro e w2 ⟨rfl, rfl⟩
        go_wp2_with fail
        refine (HP.out _ [c] ?_ 1 rfl (by decide)).mono ?_
        · intro j hj; rcases j with _ | j
          · rfl
          · simp at hj
        rintro e w3 ⟨v3, rfl, A3⟩
        rw [HT.out [c] ho] at A3
        go_wp2_with fail
        go_roundw
        case rel => exact ⟨i + 1, by omega, by go_num, A3⟩
        case measure => simp [intOf]; omega
    · obtain rfl : i = s.size := by omega
      rw [List.take_of_length_le (by rw [size_lst]; exact Nat.le_refl _)] at A2
      have hlen := quote_len s.toList
      rw [size_lst] at hlen
      have HP := hid' (QOwn.put A2 #[.int .u8 41] [41] (by intro j hj; simp at hj; subst hj; rfl) (by simp; omega) 1 rfl)
      clear A2 hlen
      go_wp2_with fail
      refine HP.out.mono ?_
      rintro e w3 ⟨v3, rfl, A3⟩
      have hcv := own_str A3.2 w3 (Chg.refl _ _)
      have X3 := A3.1
      clear A3
      go_wp2_with fail
      go_ret
      exact ⟨rfl, X3⟩
end Go.Proofs.Ytpgkjgceldleaaa
