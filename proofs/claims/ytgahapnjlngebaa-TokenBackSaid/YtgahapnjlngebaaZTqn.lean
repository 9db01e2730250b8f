/- Walk: quote.number, last. -/
import Derived.Test.YtgahapnjlngebaaZTqh
namespace Go.Proofs.Ytgahapnjlngebaa
open Go.RowKit

def numV (l : List UInt8) : Int := l.foldl (fun v c => v * 85 + ((c.toNat : Int) - 33)) 0
theorem numV_snoc (l : List UInt8) (c : UInt8) : numV (l ++ [c]) = numV l * 85 + ((c.toNat : Int) - 33) := by simp [numV]
def Okay85 (l : List UInt8) : Prop := ∀ c ∈ l, 33 ≤ (c.toNat : Int) ∧ (c.toNat : Int) ≤ 117
theorem numF_le (l : List UInt8) (h : Okay85 l) (v : Int) (m : Nat) (h0 : 0 ≤ v) (h1 : v < 85 ^ m) : 0 ≤ l.foldl (fun v c => v * 85 + ((c.toNat : Int) - 33)) v ∧ l.foldl (fun v c => v * 85 + ((c.toNat : Int) - 33)) v < 85 ^ (m + l.length) := by
  induction l generalizing v m with
  | nil => exact ⟨h0, h1⟩
  | cons c l ih =>
    have hc := h c (List.mem_cons_self ..)
    rw [List.foldl_cons, List.length_cons, show m + (l.length + 1) = (m + 1) + l.length by omega]
    refine ih (fun x hx => h x (List.mem_cons_of_mem _ hx)) _ (m + 1) (by omega) ?_
    rw [Int.pow_succ]
    omega
theorem numV_le (l : List UInt8) (h : Okay85 l) : 0 ≤ numV l ∧ numV l < 85 ^ l.length := by
  have := numF_le l h 0 0 (by omega) (by decide)
  rw [Nat.zero_add] at this
  exact this
theorem take_succ' (l : List UInt8) (k : Nat) (h : k < l.length) : l.take (k + 1) = l.take k ++ [l.getD k 0] := by
  rw [List.take_succ_eq_append_getElem h, List.getD_eq_getElem?_getD, List.getElem?_eq_getElem h]; rfl

set_option maxRecDepth 100000 in
set_option maxHeartbeats 1000000 in
theorem qnumber_any (w : World) (g : Nat) (l : List UInt8) (c : Nat) (hl : l.length = 5) (hg : At8 w g l) (h85 : Okay85 l) (_hlt : g < w.heap.size) :
    Calls Try.prog 77 #[.slice (some ⟨g, 0, none⟩) 5 c] w fun r w' => r = .returned (.tuple #[.int .i64 (numV l), .bool (decide (numV l < 4294967296))]) ∧ w = w' := by
  have HL := hid' hl
  have HG := hid' hg
  have H85 := hid' h85
  clear hl hg h85
  go_enter Try.func77, Try.ntmps77
  go_wp2_with fail
  go_loop [4, 9] (fun v i => ∃ k : Nat, k ≤ 5 ∧ i = .int .i64 k ∧ v = .int .i64 (numV (l.take k))) (fun _ i => 5 - (intOf i).toNat)
  case atStart => exact ⟨0, by omega, rfl, rfl⟩
  case round =>
    obtain ⟨k, hk, rfl, rfl⟩ := hrel
    have hb := numV_le (l.take k) (fun x hx => H85.out x (List.mem_of_mem_take hx))
    have hb2 : (85 : Int) ^ (l.take k).length ≤ 85 ^ 5 := by
      have : (l.take k).length ≤ 5 := by rw [List.length_take]; omega
      have h2 : (85 : Nat) ^ (l.take k).length ≤ 85 ^ 5 := Nat.pow_le_pow_right (by decide) this
      have e : (((85 : Nat) ^ (l.take k).length : Nat) : Int) = (85 : Int) ^ (l.take k).length := by simp
      omega
    have b0 : 0 ≤ numV (l.take k) := hb.1
    have b1 : numV (l.take k) ≤ 4437053125 := by have := hb.2; omega
    clear hb hb2
    by_cases hlt5 : k < 5
    · have hlt5' : (k : Int) < 5 := by omega
      have hcell := HG.out k (by rw [HL.out]; exact hlt5)
      have hT := take_succ' l k (by rw [HL.out]; exact hlt5)
      have hc := H85.out (l.getD k 0) (by rw [List.getD_eq_getElem?_getD, List.getElem?_eq_getElem (by rw [HL.out]; exact hlt5)]; exact List.getElem_mem _)
      have HS := hid' ((congrArg numV hT).trans (numV_snoc _ _))
      clear hT
      generalize l.getD k 0 = c8 at *
      obtain ⟨c0, c1⟩ := hc
      simp only [u8V] at hcell
      generalize (c8.toNat : Int) = ci at *
      go_wp2_with fail
      go_round
      case rel => exact ⟨k + 1, by omega, by go_num, by rw [HS.out]⟩
      case measure => simp [intOf]; omega
    · obtain rfl : k = 5 := by omega
      have HT := hid' (show l.take 5 = l from List.take_of_length_le (Nat.le_of_eq HL.out))
      go_wp2_with fail
      go_ret2
      exact ⟨by rw [HT.out]; rfl, rfl⟩

/-- A group of digits to 85, in a row of its own, apart from what was taken. -/
def Gr (w : World) (bt : Nat) (v gv : Value) (l : List UInt8) : Prop := w.ownsRow (bt + 1) 5 1 gv l.length (u8L l) ∧ ∀ k, gv.ownBlock = some k → ¬ v.ownBlock = some k
theorem Gr.nil (w : World) (bt : Nat) (v : Value) : Gr w bt v (.slice none 0 0) [] := ⟨World.ownsRow_nil _ _ _ _, fun k hk => by simp [Value.ownBlock] at hk⟩
theorem Gr.pure {w w' : World} {bt : Nat} {v gv : Value} {l : List UInt8} (G : Gr w bt v gv l) (X : Chg NoB w w') : Gr w' bt v gv l := ⟨ownB G.1 X (fun _ _ e => e), G.2⟩
/-- The group grows. -/
theorem Gr.more {w0 w w1 : World} {bt : Nat} {v gv gv' : Value} {b l l' : List UInt8} {e : Int} (A : Tk w0 w bt v b e) (G : Gr w bt v gv l) (hown : w1.ownsRow (bt + 1) 5 1 gv' l'.length (u8L l')) (hgr : w.grownBy w1 gv.ownBlock)
    (hat : gv'.ownBlock = gv.ownBlock ∨ gv'.ownBlock = some w.heap.size) : Tk w0 w1 bt v b e ∧ Gr w1 bt v gv' l' := by
  have C : Chg (fun k => gv.ownBlock = some k) w w1 := Chg.grown (Chg.refl _ w) hgr (fun k hk => .inl hk)
  have hn : ∀ k, gv.ownBlock = some k → bt + 1 ≤ k := fun k hk => (own_ge G.1 k (by simp [hk])).1
  have hge := A.ge
  refine ⟨⟨A.chg.trans' C (fun i hi h => by have := hn i h; omega), A.ge, C.blk A.box (fun h => by have := hn bt h; omega), ownB A.own C (fun k hk h => G.2 k h (by simpa using hk))⟩, hown, fun k hk hv => ?_⟩
  rcases hat with h | h
  · exact G.2 k (by rw [← h, hk]) hv
  · rw [h] at hk
    have := (own_ge A.own k (by simp [hv])).2
    simp at hk
    omega
theorem own_some {w : World} {B : Nat} {v : Value} {l : List UInt8} (h : w.ownsRow B 5 1 v l.length (u8L l)) (hl : 0 < l.length) : ∃ g cap, v = .slice (some ⟨g, 0, none⟩) l.length cap ∧ At8 w g l ∧ g < w.heap.size := by
  rcases h.2 with ⟨-, h0⟩ | ⟨g, cap, cur, rfl, h1, h2, h3, h4, h5, h6⟩
  · omega
  · refine ⟨g, cap, rfl, fun j hj => ?_, blk_lt h2⟩
    rw [cells_of h2 j, ← Array.getElem?_toList]
    have : cur.toList[j]? = (cur.toList.take (l.length * 1))[j]? := by rw [List.getElem?_take, if_pos (by omega)]
    rw [this, h6]
    simp [u8L, hj]

def padG (l : List UInt8) : List UInt8 := l ++ List.replicate (5 - l.length) 117
def four (v : Int) : List UInt8 := [u8of (v / 16777216 % 256), u8of (v / 65536 % 256), u8of (v / 256 % 256), u8of (v % 256)]
theorem four_val (x : Int) (_v0 : 0 ≤ x) : u8L (four x) = [.int .u8 (x / 16777216 % 256), .int .u8 (x / 65536 % 256), .int .u8 (x / 256 % 256), .int .u8 (x % 256)] := by
  simp only [four, u8L, List.map_cons, List.map_nil]
  rw [u8of_val _ (by omega) (by omega), u8of_val _ (by omega) (by omega), u8of_val _ (by omega) (by omega), u8of_val _ (by omega) (by omega)]
theorem at8_four (w : World) (T : TypeId) (x : Int) (k : Nat) (hk : k ≤ 4) (v0 : 0 ≤ x) : At8 (w.alloc (.cells #[.int .u8 (x / 16777216 % 256), .int .u8 (x / 65536 % 256), .int .u8 (x / 256 % 256), .int .u8 (x % 256)] T)) w.heap.size ((four x).take k) := fun j hj => by
  have hj4 : j < 4 ∧ j < k := by simp [four] at hj; omega
  rw [cells_of (blk_new w (.cells #[.int .u8 (x / 16777216 % 256), .int .u8 (x / 65536 % 256), .int .u8 (x / 256 % 256), .int .u8 (x % 256)] T)) j]
  have hf : (u8L (four x))[j]? = some (u8V (((four x).take k).getD j 0)) := by
    rw [List.getD_eq_getElem?_getD, List.getElem?_take, if_pos hj4.2]
    simp only [u8L, List.getElem?_map]
    have : j < (four x).length := by simp [four]; omega
    simp [this]
  rw [four_val x v0] at hf
  rw [← hf]
  simp
/-- The last group: may it be, the error, what was taken then. -/
def lastF (l b : List UInt8) : Bool × Int × List UInt8 :=
  if l.length = 0 then (true, 0, b) else if 4294967296 ≤ numV (padG l) ∨ l.length = 1 then (false, 0, b) else if 4000 < b.length + (l.length - 1) then (false, 5, b) else (true, 0, b ++ (four (numV (padG l))).take (l.length - 1))
def LastEnd (w0 : World) (bt : Nat) (R : Bool × Int × List UInt8) (r : Ending) (w' : World) : Prop := ∃ v, r = .returned (.bool R.1) ∧ Tk w0 w' bt v R.2.2 R.2.1

set_option maxRecDepth 100000 in
set_option maxHeartbeats 2000000 in
theorem qlast_any {w0 w : World} {bt : Nat} {v gv : Value} {b l : List UInt8} (A : Tk w0 w bt v b 0) (G : Gr w bt v gv l) (hl : l.length ≤ 4) (h85 : Okay85 l) (hb : b.length ≤ 4000) :
    Calls Try.prog 76 #[.pointer (some ⟨bt, 0, none⟩), gv] w (LastEnd w0 bt (lastF l b)) := by
  have hR : lastF l b = if l.length = 0 then (true, 0, b) else if 4294967296 ≤ numV (padG l) ∨ l.length = 1 then (false, 0, b) else if 4000 < b.length + (l.length - 1) then (false, 5, b) else (true, 0, b ++ (four (numV (padG l))).take (l.length - 1)) := rfl
  generalize lastF l b = R at *
  obtain ⟨ga, gc, rfl, -⟩ := own_val G.1
  have hl' : (l.length : Int) ≤ 4 := by omega
  have H85 := hid' h85
  clear h85
  by_cases h0 : l.length = 0
  · have HR := hid' (hR.trans (if_pos h0))
    have h0' : (l.length : Int) - 1 < 0 := by omega
    have HA := hid' A
    clear hR h0 G A
    go_enter Try.func76, Try.ntmps76
    go_wp2_with fail
    go_ret
    unfold LastEnd
    rw [HR.out]
    exact ⟨v, rfl, HA.out⟩
  have h0' : 0 ≤ (l.length : Int) - 1 := by omega
  have hR1 := hR.trans (if_neg h0)
  have HR1 := hid' hR1
  have h0n : 1 ≤ l.length := by omega
  clear hR h0 hR1
  go_enter Try.func76, Try.ntmps76
  go_wp2_with fail
  go_loopw [1] (fun sv wr => ∃ (m : Nat) (gv' : Value), l.length ≤ m ∧ m ≤ 5 ∧ sv = gv' ∧ Tk w0 wr bt v b 0 ∧ Gr wr bt v gv' (l ++ List.replicate (m - l.length) 117)) (fun sv _ => match sv with | .slice _ n _ => 5 - n | _ => 0)
  case atStart => exact ⟨l.length, _, Nat.le_refl _, by omega, rfl, A, by simpa using G⟩
  case round =>
    obtain ⟨m, gv', hm0, hm5, rfl, A1, G1⟩ := hrel
    clear A G
    have hlen : (l ++ List.replicate (m - l.length) (117 : UInt8)).length = m := by simp; omega
    obtain ⟨ga', gc', hgv, -⟩ := own_val G1.1
    rw [hlen] at hgv
    subst hgv
    have HA := hid' A1
    have HG := hid' G1
    have HL := hid' hlen
    clear A1 G1 hlen
    by_cases hm : m < 5
    · have hm' : (m : Int) < 5 := by omega
      go_wp2_with fail
      refine (qput_any (b := l ++ List.replicate (m - l.length) 117) (HG.out.pure ((Chg.refl NoB wr).alloc _)).1 (by have := HA.out.box; have := blk_lt this; simp; omega) _ [117] _ (at8_int _ 117 (by decide) (by decide)) (by rw [HL.out]; simp; omega)).mono ?_
      rintro r w1 ⟨gv2, rfl, hown, hgr, hat⟩
      obtain ⟨A2, G2⟩ := Gr.more (HA.out.pure ((Chg.refl NoB wr).alloc _)) (HG.out.pure ((Chg.refl NoB wr).alloc _)) hown hgr hat
      have e : l ++ List.replicate (m - l.length) (117 : UInt8) ++ [117] = l ++ List.replicate (m + 1 - l.length) 117 := by
        rw [List.append_assoc, show m + 1 - l.length = (m - l.length) + 1 by omega, List.replicate_succ']
      rw [e] at G2
      have e2 : (l ++ List.replicate (m + 1 - l.length) (117 : UInt8)).length = m + 1 := by simp; omega
      obtain ⟨ga2, gc2, hg2, -⟩ := own_val G2.1
      rw [e2] at hg2
      subst hg2
      have HA2 := hid' A2
      have HG2 := hid' G2
      clear A2 G2 e e2 hown hgr hat
      go_wp2_with fail
      go_roundw
      case rel => exact ⟨m + 1, _, by omega, by omega, rfl, HA2.out, HG2.out⟩
      case measure => simp; omega
    · obtain rfl : m = 5 := by omega
      have hpad : l ++ List.replicate (5 - l.length) (117 : UInt8) = padG l := rfl
      obtain ⟨g, gc2, hgv, h8, hglt⟩ := own_some HG.out.1 (by rw [HL.out]; omega)
      rw [hpad] at h8
      rw [HL.out] at hgv
      simp only [Value.slice.injEq] at hgv
      obtain ⟨rfl, -, rfl⟩ := hgv
      have hp85 : Okay85 (padG l) := fun x hx => by
        simp only [padG, List.mem_append, List.mem_replicate] at hx
        rcases hx with hx | ⟨-, rfl⟩
        · exact H85.out x hx
        · decide
      have hN := fun w (hw : At8 w g (padG l)) (hlt : g < w.heap.size) => qnumber_any w g (padG l) gc' (by rw [← hpad]; exact HL.out) hw hp85 hlt
      have hv := numV_le (padG l) hp85
      have hpl : (padG l).length = 5 := by rw [← hpad]; exact HL.out
      rw [hpl] at hv
      obtain ⟨v0, v1⟩ := hv
      have v1' : numV (padG l) ≤ 4437053124 := by omega
      have H8 := hid' h8
      have HN := hid' hN
      clear hpad h8 hN hp85 hpl v1 HL HG
      generalize numV (padG l) = x at *
      go_wp2_with fail
      refine (HN.out _ H8.out hglt).mono ?_
      rintro r w1 ⟨rfl, rfl⟩
      clear H8 HN
      by_cases c1 : 4294967296 ≤ x
      · have d1 : decide (x < 4294967296) = false := by simp; omega
        have HR := hid' (HR1.out.trans (if_pos (.inl c1)))
        clear HR1
        go_wp2_with fail
        go_ret
        unfold LastEnd
        rw [HR.out]
        exact ⟨v, rfl, HA.out⟩
      have d1 : decide (x < 4294967296) = true := by simp; omega
      by_cases c2 : l.length = 1
      · have d2 : ((l.length : Int) - 1 == 0) = true := by simp; omega
        have HR := hid' (HR1.out.trans (if_pos (.inr c2)))
        clear HR1 c2
        go_wp2_with fail
        go_ret
        unfold LastEnd
        rw [HR.out]
        exact ⟨v, rfl, HA.out⟩
      have d2 : ((l.length : Int) - 1 == 0) = false := by simp; omega
      have HR2 := hid' (HR1.out.trans (if_neg (by rintro (h | h); exact c1 h; exact c2 h)))
      have hn2 : l.length = 2 ∨ l.length = 3 ∨ l.length = 4 := by omega
      clear HR1 c1 c2
      rcases hn2 with hn | hn | hn
      · have en : (l.length : Int) - 1 = 1 := by omega
        have hR3 := HR2.out
        rw [hn] at hR3
        by_cases c3 : 4000 < b.length + (2 - 1)
        · have HR := hid' (hR3.trans (if_pos c3))
          clear hR3 HR2 hn h0n hl
          go_wp2_with fail
          refine (qadd_full (HA.out.pure (Chg.alloc (Chg.refl NoB _) _)) _ ((four x).take 1) _ hb (by simp [four]) (by simp [four]; omega)).mono ?_
          rintro r w1 ⟨rfl, A2⟩
          have HB := hid' A2
          clear A2
          go_wp2_with fail
          go_ret
          unfold LastEnd
          rw [HR.out]
          exact ⟨v, rfl, HB.out⟩
        · have HR := hid' (hR3.trans (if_neg c3))
          clear hR3 HR2 hn h0n hl
          go_wp2_with fail
          refine (qadd_any (HA.out.pure (Chg.alloc (Chg.refl NoB _) _)) _ ((four x).take 1) _ (at8_four wr _ x 1 (by decide) v0) (by simp [four]) (by simp [four]; omega)).mono ?_
          rintro r w1 ⟨rfl, v', A2⟩
          have HB := hid' A2
          clear A2
          go_wp2_with fail
          go_ret
          unfold LastEnd
          rw [HR.out]
          exact ⟨v', rfl, HB.out⟩
      · have en : (l.length : Int) - 1 = 2 := by omega
        have hR3 := HR2.out
        rw [hn] at hR3
        by_cases c3 : 4000 < b.length + (3 - 1)
        · have HR := hid' (hR3.trans (if_pos c3))
          clear hR3 HR2 hn h0n hl
          go_wp2_with fail
          refine (qadd_full (HA.out.pure (Chg.alloc (Chg.refl NoB _) _)) _ ((four x).take 2) _ hb (by simp [four]) (by simp [four]; omega)).mono ?_
          rintro r w1 ⟨rfl, A2⟩
          have HB := hid' A2
          clear A2
          go_wp2_with fail
          go_ret
          unfold LastEnd
          rw [HR.out]
          exact ⟨v, rfl, HB.out⟩
        · have HR := hid' (hR3.trans (if_neg c3))
          clear hR3 HR2 hn h0n hl
          go_wp2_with fail
          refine (qadd_any (HA.out.pure (Chg.alloc (Chg.refl NoB _) _)) _ ((four x).take 2) _ (at8_four wr _ x 2 (by decide) v0) (by simp [four]) (by simp [four]; omega)).mono ?_
          rintro r w1 ⟨rfl, v', A2⟩
          have HB := hid' A2
          clear A2
          go_wp2_with fail
          go_ret
          unfold LastEnd
          rw [HR.out]
          exact ⟨v', rfl, HB.out⟩
      · have en : (l.length : Int) - 1 = 3 := by omega
        have hR3 := HR2.out
        rw [hn] at hR3
        by_cases c3 : 4000 < b.length + (4 - 1)
        · have HR := hid' (hR3.trans (if_pos c3))
          clear hR3 HR2 hn h0n hl
          go_wp2_with fail
          refine (qadd_full (HA.out.pure (Chg.alloc (Chg.refl NoB _) _)) _ ((four x).take 3) _ hb (by simp [four]) (by simp [four]; omega)).mono ?_
          rintro r w1 ⟨rfl, A2⟩
          have HB := hid' A2
          clear A2
          go_wp2_with fail
          go_ret
          unfold LastEnd
          rw [HR.out]
          exact ⟨v, rfl, HB.out⟩
        · have HR := hid' (hR3.trans (if_neg c3))
          clear hR3 HR2 hn h0n hl
          go_wp2_with fail
          refine (qadd_any (HA.out.pure (Chg.alloc (Chg.refl NoB _) _)) _ ((four x).take 3) _ (at8_four wr _ x 3 (by decide) v0) (by simp [four]) (by simp [four]; omega)).mono ?_
          rintro r w1 ⟨rfl, v', A2⟩
          have HB := hid' A2
          clear A2
          go_wp2_with fail
          go_ret
          unfold LastEnd
          rw [HR.out]
          exact ⟨v', rfl, HB.out⟩
end Go.Proofs.Ytgahapnjlngebaa
