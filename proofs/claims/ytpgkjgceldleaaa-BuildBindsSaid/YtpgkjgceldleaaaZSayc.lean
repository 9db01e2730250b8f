/- Wat, Whl, Ful, Sky -/
import Derived.Test.YtpgkjgceldleaaaZSayb
import Derived.Test.YtpgkjgceldleaaaZDictb
/- Walk: say's (*teller).whole at an array that can be run. -/
namespace Go.Proofs.Ytpgkjgceldleaaa
open Go.RowKit

set_option maxRecDepth 100000 in
set_option maxHeartbeats 4000000 in
theorem whole_arr_true {w0 w : World} {M : List (Nat × List C)} {K : List (Nat × Obj)} {hp bt : Nat} {b : List UInt8} (A : Told w0 w M K hp bt b) (hb : b.length ≤ 1000) {H : List C} (hM : (hp, H) ∈ M) (deep : Int) (d0 : 0 ≤ deep) (d1 : deep < 20) (n a l : Int) (s : ByteArray)
    {it : List O} (hr : itemsH H ⟨9, true, n, a, l, s⟩ = (it, 0)) (hl : 0 < it.length) (hl2 : it.length ≤ 100000) (T : O → List UInt8)
    (IH : ∀ x ∈ it, ∀ (w : World) (K : List (Nat × Obj)) (b : List UInt8), Told w0 w M K hp bt b → b.length ≤ 1000 →
      Calls Try.prog 39 #[ptr bt, x.val, .int .i64 (deep + 1)] w fun r w' => r = .returned (.bool (decide ((b ++ T x).length < 1000))) ∧ Told w0 w' M K hp bt ((b ++ T x).take 1000)) :
    Calls Try.prog 39 #[ptr bt, O.val ⟨9, true, n, a, l, s⟩, .int .i64 deep] w fun r w' => r = .returned (.bool (decide ((b ++ arrT true T it).length < 1000))) ∧ Told w0 w' M K hp bt ((b ++ arrT true T it).take 1000) := by
  have hF : ∃ U : Nat → List UInt8, (∀ i, U i = b ++ 123 :: jn T it i) := ⟨_, fun _ => rfl⟩
  obtain ⟨U, hU⟩ := hF
  have hU0 : b ++ [123] = U 0 := by rw [hU]; rfl
  have hU1 : ∀ i, U (i + 1) = U i ++ ((if i = 0 then [] else [32]) ++ T (it.getD i O.nil)) := fun i => by rw [hU, hU, jn]; simp
  have hUe : b ++ arrT true T it = U it.length ++ [125] := by rw [hU]; simp [arrT]
  have hUp : ∀ i, i ≤ it.length → ∃ r, U it.length = U i ++ r := fun i hi => by
    obtain ⟨r, hr⟩ := jn_pre T it i it.length hi
    exact ⟨r, by rw [hU, hU, hr]; simp⟩
  obtain ⟨F, hF⟩ : ∃ F : List UInt8, F = U it.length ++ [125] := ⟨_, rfl⟩
  rw [hUe, ← hF]
  have HF := hid' hF
  have HU0 := hid' hU0
  have HU1 := hid' hU1
  have HUp := hid' hUp
  have HIH := hid' IH
  clear hU hU0 hU1 hUe hUp IH hF
  have q1 : ((⟨#[123]⟩ : ByteArray)).toList = [123] := by rw [ByteArray.toList_eq]
  have q2 : ((⟨#[125]⟩ : ByteArray)).toList = [125] := by rw [ByteArray.toList_eq]
  have q3 : ((⟨#[32]⟩ : ByteArray)).toList = [32] := by rw [ByteArray.toList_eq]
  have TK : Hid (∀ (u : List UInt8), (u.take 1000).length ≤ 1000) := hid' (fun u => by rw [List.length_take]; omega)
  have A1 := A.alloc (.cells #[.int .i64 9, .bool true, .int .i64 n, .int .i64 a, .int .i64 l, .string s] 36)
  have l1 := blk_lt (A1.box _ (List.mem_cons_self ..))
  have RC := fun W => TellS.cells (w0 := w0) (M := M) (K := K) (hp := hp) (bt := bt) (g := w.heap.size) (cs := #[.int .i64 9, .bool true, .int .i64 n, .int .i64 a, .int .i64 l, .string s]) (T := 36) (fz := (0, 0)) W
  have LS := hid' (fun W b => Told.lose (w0 := w0) (w := W) (M := M) (K := K) (hp := hp) (bt := bt) (b := b) (q := (w.heap.size, .cells #[.int .i64 9, .bool true, .int .i64 n, .int .i64 a, .int .i64 l, .string s] 36)))
  generalize ((w.heap.size, Obj.cells #[.int .i64 9, .bool true, .int .i64 n, .int .i64 a, .int .i64 l, .string s] 36) :: K : List (Nat × Obj)) = K' at *
  have HA := hid' A1
  have HIT := hid' (fun (w2 : World) (A2 : Told w0 w2 M K' hp bt b) => at_titems A2 hM ⟨9, true, n, a, l, s⟩ hr hl)
  have S0 : TellS w0 M K' hp bt (w.alloc (.cells #[.int .i64 9, .bool true, .int .i64 n, .int .i64 a, .int .i64 l, .string s] 36)) := ⟨_, A1⟩
  have RT := fun W => TellS.tell (w0 := w0) (M := M) (K := K') (hp := hp) (bt := bt) W
  simp only at l1
  clear A A1 hr
  go_enter Try.func39, Try.ntmps39
  go_wp2_with fail
  generalize hW : w.alloc _ = w1 at *
  clear hW
  generalize w.heap.size = g at *
  go_region_held3 (fun W' => TellS w0 M K' hp bt W') (first | assumption | (exact TellS.drew (by assumption)) | (exact ⟨_, by assumption⟩))
    ((go_at_call 48; refine (HIT.out _ (HA.out.pure (Chg.refl NoB w1).drew)).mono ?_; rintro r w2 ⟨gi, cap, cur, fz, rfl, hcap, A2, hcur⟩; have A3 := A2.lose))
  have S3 : TellS w0 M K' hp bt w2 := ⟨_, A3⟩
  have HA2 := hid' A2
  have HCUR := hid' hcur
  have R3 := RC w2 S3
  have l3 : g < w2.heap.size := cell_lt' (R3 0)
  have P1 := hid' (at_tput A2 hb ⟨#[123]⟩ (by decide))
  rw [q1, HU0.out] at P1
  clear A2 A3 S0 l1 S3 hcur RT
  go_wp2_with fail
  refine P1.out.mono ?_
  rintro r w3 ⟨rfl, A4⟩
  have HA4 := hid' A4
  obtain ⟨ok0, hk0⟩ : ∃ ok, decide ((U 0).length < 1000) = ok := ⟨_, rfl⟩
  have HK0 := hid' hk0
  rw [hk0]
  clear A4 hk0 R3 l3 RC
  have hcap' : (it.length : Int) ≤ cap := by omega
  have hln : (it.length : Int) ≤ 100000 := by omega
  go_wp2_with fail
  go_loopw [12, 13] (fun kv iv wr => ∃ i : Nat, i ≤ it.length ∧ iv = .int .i64 i ∧ kv = .bool (decide ((U i).length < 1000)) ∧ Told w0 wr M ((gi, .cells cur 36 fz) :: K') hp bt ((U i).take 1000)) (fun _ iv _ => it.length - (intOf iv).toNat)
  case atStart => exact ⟨0, Nat.zero_le _, rfl, by rw [HK0.out], HA4.out⟩
  case round =>
    obtain ⟨i, hi, rfl, rfl, A5⟩ := hrel
    have HA5 := hid' A5
    by_cases ck : (U i).length < 1000
    rotate_left
    · have e1 : decide ((U i).length < 1000) = false := decide_eq_false ck
      have e2 : F.take 1000 = (U i).take 1000 ∧ decide (F.length < 1000) = false := by
        obtain ⟨r, hr⟩ := HUp.out i hi
        rw [HF.out, hr, List.append_assoc]
        exact cut_pre _ _ ck
      have HE2 := hid' e2
      rw [e1]
      clear e1 e2 A5 ck
      by_cases hlt : i < it.length
      · have hlt' : (i : Int) < it.length := by omega
        go_wp2_with fail
        go_ret
        rw [HE2.out.1, HE2.out.2]
        exact ⟨rfl, LS.out _ _ HA5.out.lose⟩
      · have hlt' : ¬ (i : Int) < it.length := by omega
        go_wp2_with fail
        go_ret
        rw [HE2.out.1, HE2.out.2]
        exact ⟨rfl, LS.out _ _ HA5.out.lose⟩
    have e1 : decide ((U i).length < 1000) = true := decide_eq_true ck
    have e1' : (U i).take 1000 = U i := List.take_of_length_le (by omega)
    rw [e1]
    rw [e1'] at A5 HA5
    by_cases hlt : i < it.length
    rotate_left
    · obtain rfl : i = it.length := by omega
      have P2 := at_tput A5 (by omega) ⟨#[125]⟩ (by decide)
      rw [q2, ← HF.out] at P2
      obtain ⟨R, hR⟩ : ∃ R, decide (F.length < 1000) = R := ⟨_, rfl⟩
      rw [hR] at P2
      have HR := hid' hR
      have HP2 := hid' P2
      clear e1 e1' A5 hR P2 ck
      go_wp2_with fail
      refine HP2.out.mono ?_
      rintro r w4 ⟨rfl, A6⟩
      go_wp2_with fail
      go_ret
      rw [HR.out]
      exact ⟨rfl, LS.out _ _ A6.lose⟩
    have hlt' : (i : Int) < it.length := by omega
    have h0i : (0 : Int) ≤ i := by omega
    obtain ⟨x, hx⟩ : ∃ x, it[i]? = some x := ⟨it[i], List.getElem?_eq_getElem hlt⟩
    have hgd : it.getD i O.nil = x := by rw [List.getD_eq_getElem?_getD, hx]; rfl
    have hxm := List.mem_of_getElem? hx
    have hUx := HU1.out i
    rw [hgd] at hUx
    obtain ⟨m1, m2, m3, m4, m5, m6⟩ := row_item HCUR.out hx
    have HI := hid' (HIH.out x hxm)
    obtain ⟨xk, xe, xn, xa, xl, xs⟩ := x
    by_cases i0 : i = 0
    · subst i0
      rw [if_pos rfl, List.nil_append] at hUx
      have P3 := HI.out wr _ (U 0) A5 (by omega)
      rw [← hUx] at P3
      obtain ⟨R, hR⟩ : ∃ R, decide ((U (0 + 1)).length < 1000) = R := ⟨_, rfl⟩
      rw [hR] at P3
      have HR := hid' hR
      have HP3 := hid' P3
      have R5 := cells_of (A5.box _ (List.mem_cons_self ..))
      have l5 := blk_lt (A5.box _ (List.mem_cons_self ..))
      simp only [Nat.zero_mul, Nat.zero_add] at m1 m2 m3 m4 m5 m6 R5 l5
      have hd := IntWalk.i64_in (deep + 1) (by omega)
      clear e1 e1' hx hgd hxm hUx A5 hR P3 ck
      go_wp2_with fail
      refine HP3.out.mono ?_
      rintro r w4 ⟨rfl, A6⟩
      go_wp2_with fail
      go_roundw
      case rel => exact ⟨0 + 1, by omega, by go_num, by rw [HR.out], A6⟩
      case measure => simp [intOf]; omega
    · have hi0 : ¬ (i : Int) = 0 := by omega
      rw [if_neg i0] at hUx
      have P3 := at_tput A5 (by omega) ⟨#[32]⟩ (by decide)
      rw [q3] at P3
      obtain ⟨V, hV⟩ : ∃ V : List UInt8, V = U i ++ [32] := ⟨_, rfl⟩
      have e3 : U (i + 1) = V ++ T ⟨xk, xe, xn, xa, xl, xs⟩ := by rw [hUx, hV, List.append_assoc]
      rw [← hV] at P3
      by_cases cv : V.length < 1000
      · have e4 : decide (V.length < 1000) = true := decide_eq_true cv
        have e5 : V.take 1000 = V := List.take_of_length_le (by omega)
        rw [e4, e5] at P3
        have HP3 := hid' P3
        obtain ⟨R, hR⟩ : ∃ R, decide ((U (i + 1)).length < 1000) = R := ⟨_, rfl⟩
        have HR := hid' hR
        have HI2 : Hid (∀ (w : World), Told w0 w M ((gi, .cells cur 36 fz) :: K') hp bt V → Calls Try.prog 39 #[ptr bt, O.val ⟨xk, xe, xn, xa, xl, xs⟩, .int .i64 (deep + 1)] w fun r w' => r = .returned (.bool R) ∧ Told w0 w' M ((gi, .cells cur 36 fz) :: K') hp bt ((U (i + 1)).take 1000)) := hid' (fun w h => by
          have := HI.out w _ V h (by omega)
          rwa [← e3, hR] at this)
        have l5 := blk_lt (A5.box _ (List.mem_cons_self ..))
        have hd := IntWalk.i64_in (deep + 1) (by omega)
        simp only at l5 m1 m2 m3 m4 m5 m6
        clear e1 e1' hgd hxm hUx A5 P3 hx hR e3 e4 e5 cv hV ck
        go_wp2_with fail
        refine HP3.out.mono ?_
        rintro r w4 ⟨rfl, A6⟩
        have HA6 := hid' A6
        have R5 := cells_of (A6.box _ (List.mem_cons_self ..))
        have l6 := blk_lt (A6.box _ (List.mem_cons_self ..))
        simp only at R5 l6
        clear A6
        go_wp2_with fail
        refine (HI2.out _ HA6.out).mono ?_
        rintro r w5 ⟨rfl, A7⟩
        go_wp2_with fail
        go_roundw
        case rel => exact ⟨i + 1, by omega, by go_num, by rw [HR.out], A7⟩
        case measure => simp [intOf]; omega
      · have e4 : decide (V.length < 1000) = false := decide_eq_false cv
        have e5 := cut_pre V (T ⟨xk, xe, xn, xa, xl, xs⟩) cv
        rw [← e3] at e5
        rw [e4, ← e5.1] at P3
        have HP3 := hid' P3
        have HE5 := hid' e5.2
        clear e1 e1' hgd hxm hUx A5 P3 hx e3 e4 e5 cv hV ck
        go_wp2_with fail
        refine HP3.out.mono ?_
        rintro r w4 ⟨rfl, A6⟩
        go_wp2_with fail
        go_roundw
        case rel => exact ⟨i + 1, by omega, by go_num, by rw [HE5.out], A6⟩
        case measure => simp [intOf]; omega
end Go.Proofs.Ytpgkjgceldleaaa
/- say's (*teller).whole: by induction on how deep it may still go. -/
namespace Go.Proofs.Ytpgkjgceldleaaa
open Go.RowKit

/-- The uncut text; d: how many arrays deeper. -/
def sayT (H : List C) : Nat → O → List UInt8
  | 0, o => leafT o
  | d + 1, o => if o.kind = 9 then arrT o.exec (sayT H d) (itemsH H o).1 else leafT o
/-- Objects whose text is told whole. -/
def SayG (H : List C) : Nat → O → Prop
  | 0, o => mayO o = true ∧ plainK o ∧ (o.kind = 9 → (itemsH H o).2 = 0 ∧ 0 < (itemsH H o).1.length)
  | d + 1, o => mayO o = true ∧ plainK o ∧ (o.kind = 9 → (itemsH H o).2 = 0 ∧ 0 < (itemsH H o).1.length ∧ (itemsH H o).1.length ≤ 100000 ∧ ∀ x ∈ (itemsH H o).1, SayG H d x)
theorem whole_no9 {w0 w : World} {M : List (Nat × List C)} {K : List (Nat × Obj)} {hp bt : Nat} {b : List UInt8} (A : Told w0 w M K hp bt b) (hb : b.length ≤ 1000) (deep : Int) (o : O) (hm : mayO o = true) (hk : plainK o) (h9 : ¬ o.kind = 9) :
    Calls Try.prog 39 #[ptr bt, o.val, .int .i64 deep] w fun r w' => r = .returned (.bool (decide ((b ++ leafT o).length < 1000))) ∧ Told w0 w' M K hp bt ((b ++ leafT o).take 1000) := by
  unfold leafT
  by_cases c : o.kind = 5 ∧ o.exec = false
  · rw [if_pos c]
    obtain ⟨k, ex, n, a, l, s⟩ := o
    obtain ⟨c1, c2⟩ := c
    simp only at c1 c2
    subst c1 c2
    exact whole_name A hb deep n a l s hm
  · rw [if_neg c]
    refine whole_leaf A hb deep o hm ?_
    rcases hk with h | h | h | h | h
    · exact .inl h
    · exact .inr (.inl h)
    · refine .inr (.inr (.inr ⟨h, ?_⟩))
      cases he : o.exec with
      | true => rfl
      | false => exact absurd ⟨h, he⟩ c
    · exact .inr (.inr (.inl h))
    · exact absurd h h9
theorem whole_any {w0 : World} {M : List (Nat × List C)} {hp bt : Nat} {H : List C} (hM : (hp, H) ∈ M) : ∀ (d : Nat), d ≤ 20 → ∀ (o : O), SayG H d o → ∀ (w : World) (K : List (Nat × Obj)) (b : List UInt8), Told w0 w M K hp bt b → b.length ≤ 1000 →
    Calls Try.prog 39 #[ptr bt, o.val, .int .i64 (20 - (d : Int))] w fun r w' => r = .returned (.bool (decide ((b ++ sayT H d o).length < 1000))) ∧ Told w0 w' M K hp bt ((b ++ sayT H d o).take 1000)
  | 0, _, o, hg, w, K, b, A, hb => by
    obtain ⟨hm, hk, h9⟩ := hg
    by_cases c : o.kind = 9
    · obtain ⟨e1, e2⟩ := h9 c
      have e3 : sayT H 0 o = (plainB o).toList := by
        unfold sayT leafT
        rw [if_neg (fun e => by have := e.1; omega)]
      rw [e3]
      obtain ⟨k, ex, n, a, l, s⟩ := o
      simp only at c
      subst c
      exact whole_deep A hb hM ex n a l s hm (Prod.ext rfl e1) e2
    · exact whole_no9 A hb _ o hm hk c
  | d + 1, hd, o, hg, w, K, b, A, hb => by
    obtain ⟨hm, hk, h9⟩ := hg
    by_cases c : o.kind = 9
    · obtain ⟨e1, e2, e3, e4⟩ := h9 c
      have e5 : sayT H (d + 1) o = arrT o.exec (sayT H d) (itemsH H o).1 := by rw [sayT, if_pos c]
      rw [e5]
      have ih := fun x hx => whole_any (w0 := w0) (bt := bt) hM d (by omega) x (e4 x hx)
      rw [show (20 : Int) - (d : Int) = 20 - ((d + 1 : Nat) : Int) + 1 by omega] at ih
      obtain ⟨k, ex, n, a, l, s⟩ := o
      simp only at c
      subst c
      cases ex with
      | true => exact whole_arr_true A hb hM _ (by omega) (by omega) n a l s (Prod.ext rfl e1) e2 e3 (sayT H d) ih
      | false => exact whole_arr_false A hb hM _ (by omega) (by omega) n a l s (Prod.ext rfl e1) e2 e3 (sayT H d) ih
    · have e5 : sayT H (d + 1) o = leafT o := by rw [sayT, if_neg c]
      rw [e5]
      exact whole_no9 A hb _ o hm hk c
end Go.Proofs.Ytpgkjgceldleaaa
/- Walk: say.Full. -/
namespace Go.Proofs.Ytpgkjgceldleaaa
open Go.RowKit

theorem own_strF {w : World} {B : Nat} {v : Value} {b : List UInt8} (h : w.ownsRow B 5 1 v b.length (b.map vu8)) : (convert 46 9 v).run Try.prog w = .ok (.string ⟨b.toArray⟩) w := by
  have hc : (convert 46 9 v).run Try.prog w = (Conv.bytesToString v).run Try.prog w := by
    obtain ⟨a, c, rfl, -⟩ := own_val h
    cases a <;> simp only [convert, Sem.run_bind, run_underlying nt_underStr, run_underlying nt_under, run_underlying nt_underByte, Result.andThen_ok]
  rw [hc]
  rcases h.2 with ⟨rfl, h0⟩ | ⟨g, cap, cur, rfl, h1, h2, h3, h4, h5, h6⟩
  · obtain rfl : b = [] := List.eq_nil_of_length_eq_zero h0
    simp [Conv.bytesToString]; rfl
  · exact bytesToString_T Try.prog w ⟨g, 0, none⟩ b cap (fun i hi => by
      rw [add_z, cells_of h2 i, ← Array.getElem?_toList]
      have : cur.toList[i]? = (cur.toList.take (b.length * 1))[i]? := by rw [List.getElem?_take, if_pos (by omega)]
      rw [this, h6]
      simp [hi])
set_option maxRecDepth 100000 in
set_option maxHeartbeats 1000000 in
theorem at_full {w0 w : World} {M : List (Nat × List C)} {K : List (Nat × Obj)} {hp : Nat} {H : List C} (A : Ats w0 w M K) (hM : (hp, H) ∈ M) (o : O) (hg : SayG H 20 o) :
    Calls Try.prog 13 #[ptr hp, o.val] w fun r w' => r = .returned (.string ⟨((sayT H 20 o).take 1000).toArray⟩) ∧ Ats w0 w' M K := by
  have HW := fun w K bt b (A : Told w0 w M K hp bt b) hb => whole_any (w0 := w0) (bt := bt) hM 20 (Nat.le_refl _) o hg w K b A hb
  generalize sayT H 20 o = T at *
  obtain ⟨k, ex, n, a, l, s⟩ := o
  have A1 := A.alloc (.cells #[.int .i64 k, .bool ex, .int .i64 n, .int .i64 a, .int .i64 l, .string s] 36)
  have A2 := A1.alloc (.cells #[ptr hp, .slice none 0 0] 83)
  have T0 : Told w0 ((w.alloc (.cells #[.int .i64 k, .bool ex, .int .i64 n, .int .i64 a, .int .i64 l, .string s] 36)).alloc (.cells #[ptr hp, .slice none 0 0] 83)) M ((w.heap.size, .cells #[.int .i64 k, .bool ex, .int .i64 n, .int .i64 a, .int .i64 l, .string s] 36) :: K) hp (w.heap.size + 1) [] :=
    ⟨.slice none 0 0, [], .inl ⟨rfl, rfl, rfl, rfl⟩, by have h := A2; rw [show (w.alloc (.cells #[.int .i64 k, .bool ex, .int .i64 n, .int .i64 a, .int .i64 l, .string s] 36)).heap.size = w.heap.size + 1 by simp] at h; exact h⟩
  have R2 := cells_of (T0.box _ (List.mem_cons_self ..))
  have l2 := blk_lt (T0.box _ (List.mem_cons_self ..))
  have P := HW _ _ _ _ T0 (by simp)
  rw [List.nil_append, show (20 : Int) - ((20 : Nat) : Int) = 0 by omega] at P
  have HP := hid' P
  simp only at R2 l2
  clear A A1 A2 HW T0 P
  go_enter Try.func13, Try.ntmps13
  go_wp2_with fail
  refine HP.out.mono ?_
  rintro r w3 ⟨rfl, A3⟩
  obtain ⟨v, R, hR, A4⟩ := A3
  have hv := own_strF (Ats.ownsG (A4.perm (List.perm_middle (l₁ := R) (l₂ := (w.heap.size, .cells #[.int .i64 k, .bool ex, .int .i64 n, .int .i64 a, .int .i64 l, .string s] 36) :: K) (a := (w.heap.size + 1, tlBox hp v))).symm) hR)
  have R4 := cells_of (A4.box _ (List.mem_cons_self ..))
  have l4 := blk_lt (A4.box _ (List.mem_cons_self ..))
  simp only at R4 l4
  have HA := hid' A4
  clear A4 hR
  go_wp2_with fail
  go_ret
  refine ⟨rfl, HA.out.keep ?_⟩
  exact ((List.sublist_cons_self _ K).trans (List.sublist_append_right R _)).trans (List.sublist_cons_self _ _)
end Go.Proofs.Ytpgkjgceldleaaa
/- known of tympanlaw17. -/
namespace Go.Proofs.Ytpgkjgceldleaaa
open Go.RowKit

abbrev int1 : O := ⟨3, false, 1, 0, 0, ⟨#[]⟩⟩
abbrev nameB : O := ⟨5, false, 0, 0, 0, ⟨#[98]⟩⟩
abbrev arr2 : O := ⟨9, false, 0, 0, 2, ⟨#[]⟩⟩
theorem s17_2 : setH [⟨false, false, false, [nullO, nullO], []⟩] arr2 0 int1 = ([⟨false, false, false, [int1, nullO], []⟩], 0) := by
  simp [setH, findE, held, mayH, mayO, eqO, bareO, O.nil, C.size, C.kind, lenOf, atOf]
theorem mayO_nameB : mayO nameB = true := by
  simp [mayO, eqO, bareO, O.nil]
  decide
theorem s17_3 : setH [⟨false, false, false, [int1, nullO], []⟩] arr2 1 nameB = ([⟨false, false, false, [int1, nameB], []⟩], 0) := by
  have h : mayH [⟨false, false, false, [int1, nullO], []⟩] nameB = true := by
    unfold mayH
    rw [mayO_nameB]
    simp [held]
  unfold setH
  rw [h]
  simp [findE, held, mayH, mayO, eqO, bareO, O.nil, C.size, C.kind, lenOf, atOf]
theorem s17_i : itemsH [⟨false, false, false, [int1, nameB], []⟩] arr2 = ([int1, nameB], 0) := by
  simp [itemsH, findE, held, mayH, mayO, eqO, bareO, O.nil, C.size, C.kind, lenOf, atOf]
theorem mayO_int1 : mayO int1 = true := by
  simp [mayO, eqO, bareO, O.nil]
theorem mayO_arr2 : mayO arr2 = true := by
  simp [mayO, eqO, bareO, O.nil]
theorem s17_g : SayG [⟨false, false, false, [int1, nameB], []⟩] 20 arr2 := by
  refine ⟨mayO_arr2, .inr (.inr (.inr (.inr rfl))), fun _ => ?_⟩
  rw [s17_i]
  refine ⟨rfl, by decide, by decide, fun x hx => ?_⟩
  simp only [List.mem_cons, List.not_mem_nil, or_false] at hx
  rcases hx with rfl | rfl
  · exact ⟨mayO_int1, .inr (.inl rfl), fun h => absurd h (by decide)⟩
  · exact ⟨mayO_nameB, .inr (.inr (.inl rfl)), fun h => absurd h (by decide)⟩
theorem intL_1 : intL 1 = [49] := by
  unfold intL
  rw [if_neg (by decide), decL_lo _ (by decide)]
  rfl
theorem s17_t : sayT [⟨false, false, false, [int1, nameB], []⟩] 20 arr2 = [91, 49, 32, 47, 98, 93] := by
  have e1 : leafT int1 = [49] := by
    unfold leafT
    rw [if_neg (by decide)]
    unfold plainB
    rw [if_neg (by decide), if_pos rfl, intL_1, ByteArray.toList_eq]
  have e2 : leafT nameB = [47, 98] := by
    unfold leafT
    rw [if_pos (by decide), ByteArray.toList_eq]
  have f1 : sayT [⟨false, false, false, [int1, nameB], []⟩] 19 int1 = [49] := by rw [sayT, if_neg (by decide), e1]
  have f2 : sayT [⟨false, false, false, [int1, nameB], []⟩] 19 nameB = [47, 98] := by rw [sayT, if_neg (by decide), e2]
  rw [sayT, if_pos rfl, s17_i]
  simp only [arrT, jn, List.length_cons, List.length_nil, List.getD_cons_zero, List.getD_cons_succ]
  rw [f1, f2]
  rfl
theorem s17_p : plainB arr2 = ⟨#[45, 97, 114, 114, 97, 121, 45]⟩ := by
  unfold plainB
  rw [if_neg (by decide), if_neg (by decide), if_neg (by decide), if_neg (by decide)]
end Go.Proofs.Ytpgkjgceldleaaa
