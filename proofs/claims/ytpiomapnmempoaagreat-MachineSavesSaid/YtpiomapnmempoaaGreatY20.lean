/- Parts of the proof: Tqn, Tq8, Ttk, Tln. -/
import Derived.Test.YtpiomapnmempoaaGreatY19
namespace Go.Proofs.YtpiomapnmempoaaGreat
open Go.RowKit
variable {w w0 : World} {bt : Nat} {gv v : Value} {b l : List UInt8}
def numV (l : List UInt8) : Int := l.foldl (fun v c => v * 85 + ((c.toNat : Int) - 33)) 0
theorem numV_snoc (l : List UInt8) (c : UInt8) : numV (l ++ [c]) = numV l * 85 + ((c.toNat : Int) - 33) := by simp [numV]
def Okay85 (l : List UInt8) : Prop := ∀ c ∈ l, 33 ≤ (c.toNat : Int) ∧ (c.toNat : Int) ≤ 117
theorem numF_le (l : List UInt8) (h : Okay85 l) (v : Int) (m : Nat) (h0 : 0 ≤ v) (h1 : v < 85 ^ m) : 0 ≤ l.foldl (fun v c => v * 85 + ((c.toNat : Int) - 33)) v ∧ l.foldl (fun v c => v * 85 + ((c.toNat : Int) - 33)) v < 85 ^ (m + l.length) := by
 induction l generalizing v m with
 | nil => exact ⟨h0, h1⟩
 | cons c l ih =>
  have hc := h c (List.mem_cons_self ..); rw [List.foldl_cons, List.length_cons, show m + (l.length + 1) = (m + 1) + l.length by omega]; refine ih (fun x hx => h x (List.mem_cons_of_mem _ hx)) _ (m + 1) (by omega) ?_; rw [Int.pow_succ]; omega
theorem numV_le (l : List UInt8) (h : Okay85 l) : 0 ≤ numV l ∧ numV l < 85 ^ l.length := by
 have := numF_le l h 0 0 (by omega) (by decide); rw [Nat.zero_add] at this; exact this
theorem take_succ' (l : List UInt8) (k : Nat) (h : k < l.length) : l.take (k + 1) = l.take k ++ [l.getD k 0] := by
 rw [List.take_succ_eq_append_getElem h, List.getD_eq_getElem?_getD, List.getElem?_eq_getElem h]; rfl
set_option maxRecDepth 100000 in
set_option maxHeartbeats 1000000 in
theorem qnumber_any (w : World) (g : Nat) (l : List UInt8) (c : Nat) (hl : l.length = 5) (hg : At8 w g l) (h85 : Okay85 l) (_hlt : g < w.heap.size) :
 Calls Tryz.prog 128 #[.slice (some ⟨g, 0, none⟩) 5 c] w fun r w' => r = .returned (.tuple #[.int .i64 (numV l), .bool (decide (numV l < 4294967296))]) ∧ w = w' := by
 have HL := hid' hl; have HG := hid' hg; have H85 := hid' h85; clear hl hg h85; go_enter Tryz.func128, Tryz.ntmps128
 go_wp2_with fail
 go_loop [4, 9] (fun v i => ∃ k : Nat, k ≤ 5 ∧ i = .int .i64 k ∧ v = .int .i64 (numV (l.take k))) (fun _ i => 5 - (intOf i).toNat)
 case atStart => exact ⟨0, by omega, rfl, rfl⟩
 case round =>
  obtain ⟨k, hk, rfl, rfl⟩ := hrel; have hb := numV_le (l.take k) (fun x hx => H85.out x (List.mem_of_mem_take hx))
  have hb2 : (85 : Int) ^ (l.take k).length ≤ 85 ^ 5 := by
   have : (l.take k).length ≤ 5 := by rw [List.length_take]; omega
   have h2 : (85 : Nat) ^ (l.take k).length ≤ 85 ^ 5 := Nat.pow_le_pow_right (by decide) this
   have e : (((85 : Nat) ^ (l.take k).length : Nat) : Int) = (85 : Int) ^ (l.take k).length := by simp
   omega
  have b0 : 0 ≤ numV (l.take k) := hb.1
  have b1 : numV (l.take k) ≤ 4437053125 := by have := hb.2; omega
  clear hb hb2
  by_cases hlt5 : k < 5
  · have hlt5' : (k : Int) < 5 := by omega
    have hcell := HG.out k (by rw [HL.out]; exact hlt5); have hT := take_succ' l k (by rw [HL.out]; exact hlt5); have hc := H85.out (l.getD k 0) (by rw [List.getD_eq_getElem?_getD, List.getElem?_eq_getElem (by rw [HL.out]; exact hlt5)]; exact List.getElem_mem _); have HS := hid' ((congrArg numV hT).trans (numV_snoc _ _)); clear hT; generalize l.getD k 0 = c8 at *; obtain ⟨c0, c1⟩ := hc; simp only [u8V] at hcell; generalize (c8.toNat : Int) = ci at *; go_wp2_with fail
    go_round
    case rel => exact ⟨k + 1, by omega, by go_num, by rw [HS.out]⟩
    case measure => simp [intOf]; omega
  · obtain rfl : k = 5 := by omega
    have HT := hid' (show l.take 5 = l from List.take_of_length_le (Nat.le_of_eq HL.out)); go_wp2_with fail
    go_ret2
    exact ⟨by rw [HT.out]; rfl, rfl⟩
def Gr (w : World) (bt : Nat) (v gv : Value) (l : List UInt8) : Prop := w.ownsRow (bt + 1) 5 1 gv l.length (u8L l) ∧ ∀ k, gv.ownBlock = some k → ¬ v.ownBlock = some k
theorem Gr.nil (w : World) (bt : Nat) (v : Value) : Gr w bt v (.slice none 0 0) [] := ⟨World.ownsRow_nil _ _ _ _, fun k hk => by simp [Value.ownBlock] at hk⟩
theorem Gr.pure {w' : World} (G : Gr w bt v gv l) (X : Chg NoB w w') : Gr w' bt v gv l := ⟨ownB G.1 X (fun _ _ e => e), G.2⟩
theorem Gr.more {w1 : World} {gv' : Value} {l' : List UInt8} {e : Int} (A : Tk w0 w bt v b e) (G : Gr w bt v gv l) (hown : w1.ownsRow (bt + 1) 5 1 gv' l'.length (u8L l')) (hgr : w.grownBy w1 gv.ownBlock)
 (hat : gv'.ownBlock = gv.ownBlock ∨ gv'.ownBlock = some w.heap.size) : Tk w0 w1 bt v b e ∧ Gr w1 bt v gv' l' := by
 have C : Chg (fun k => gv.ownBlock = some k) w w1 := Chg.grown (Chg.refl _ w) hgr (fun k hk => .inl hk); have hn : ∀ k, gv.ownBlock = some k → bt + 1 ≤ k := fun k hk => (own_ge G.1 k (by simp [hk])).1; have hge := A.ge; refine ⟨⟨A.chg.trans' C (fun i hi h => by have := hn i h; omega), A.ge, C.blk A.box (fun h => by have := hn bt h; omega), ownB A.own C (fun k hk h => G.2 k h (by simpa using hk))⟩, hown, fun k hk hv => ?_⟩
 rcases hat with h | h
 · exact G.2 k (by rw [← h, hk]) hv
 · rw [h] at hk; have := (own_ge A.own k (by simp [hv])).2; simp at hk
   omega
theorem own_some {B : Nat} (h : w.ownsRow B 5 1 v l.length (u8L l)) (hl : 0 < l.length) : ∃ g cap, v = .slice (some ⟨g, 0, none⟩) l.length cap ∧ At8 w g l ∧ g < w.heap.size := by
 rcases h.2 with ⟨-, h0⟩ | ⟨g, cap, cur, rfl, h1, h2, h3, h4, h5, h6⟩
 · omega
 · refine ⟨g, cap, rfl, fun j hj => ?_, blk_lt h2⟩; rw [cells_of h2 j, ← Array.getElem?_toList]
   have : cur.toList[j]? = (cur.toList.take (l.length * 1))[j]? := by rw [List.getElem?_take, if_pos (by omega)]
   rw [this, h6]; simp [u8L, hj]
def padG (l : List UInt8) : List UInt8 := l ++ List.replicate (5 - l.length) 117
def four (v : Int) : List UInt8 := [u8of (v / 16777216 % 256), u8of (v / 65536 % 256), u8of (v / 256 % 256), u8of (v % 256)]
theorem four_val (x : Int) (_v0 : 0 ≤ x) : u8L (four x) = [.int .u8 (x / 16777216 % 256), .int .u8 (x / 65536 % 256), .int .u8 (x / 256 % 256), .int .u8 (x % 256)] := by
 simp only [four, u8L, List.map_cons, List.map_nil]; rw [u8of_val _ (by omega) (by omega), u8of_val _ (by omega) (by omega), u8of_val _ (by omega) (by omega), u8of_val _ (by omega) (by omega)]
theorem at8_four (w : World) (T : TypeId) (x : Int) (k : Nat) (hk : k ≤ 4) (v0 : 0 ≤ x) : At8 (w.alloc (.cells #[.int .u8 (x / 16777216 % 256), .int .u8 (x / 65536 % 256), .int .u8 (x / 256 % 256), .int .u8 (x % 256)] T)) w.heap.size ((four x).take k) := fun j hj => by
 have hj4 : j < 4 ∧ j < k := by simp [four] at hj; omega
 rw [cells_of (blk_new w (.cells #[.int .u8 (x / 16777216 % 256), .int .u8 (x / 65536 % 256), .int .u8 (x / 256 % 256), .int .u8 (x % 256)] T)) j]
 have hf : (u8L (four x))[j]? = some (u8V (((four x).take k).getD j 0)) := by
  rw [List.getD_eq_getElem?_getD, List.getElem?_take, if_pos hj4.2]; simp only [u8L, List.getElem?_map]
  have : j < (four x).length := by simp [four]; omega
  simp [this]
 rw [four_val x v0] at hf; rw [← hf]; simp
def lastF (l b : List UInt8) : Bool × Int × List UInt8 :=
 if l.length = 0 then (true, 0, b) else if 4294967296 ≤ numV (padG l) ∨ l.length = 1 then (false, 0, b) else if 4000 < b.length + (l.length - 1) then (false, 5, b) else (true, 0, b ++ (four (numV (padG l))).take (l.length - 1))
def LastEnd (w0 : World) (bt : Nat) (R : Bool × Int × List UInt8) (r : Ending) (w' : World) : Prop := ∃ v, r = .returned (.bool R.1) ∧ Tk w0 w' bt v R.2.2 R.2.1
set_option maxRecDepth 100000 in
set_option maxHeartbeats 2000000 in
theorem qlast_any (A : Tk w0 w bt v b 0) (G : Gr w bt v gv l) (hl : l.length ≤ 4) (h85 : Okay85 l) (hb : b.length ≤ 4000) :
 Calls Tryz.prog 127 #[.pointer (some ⟨bt, 0, none⟩), gv] w (LastEnd w0 bt (lastF l b)) := by
 have hR : lastF l b = if l.length = 0 then (true, 0, b) else if 4294967296 ≤ numV (padG l) ∨ l.length = 1 then (false, 0, b) else if 4000 < b.length + (l.length - 1) then (false, 5, b) else (true, 0, b ++ (four (numV (padG l))).take (l.length - 1)) := rfl
 generalize lastF l b = R at *; obtain ⟨ga, gc, rfl, -⟩ := own_val G.1
 have hl' : (l.length : Int) ≤ 4 := by omega
 have H85 := hid' h85; clear h85
 by_cases h0 : l.length = 0
 · have HR := hid' (hR.trans (if_pos h0))
   have h0' : (l.length : Int) - 1 < 0 := by omega
   have HA := hid' A; clear hR h0 G A; go_enter Tryz.func127, Tryz.ntmps127
   go_wp2_with fail
   go_ret; unfold LastEnd; rw [HR.out]; exact ⟨v, rfl, HA.out⟩
 have h0' : 0 ≤ (l.length : Int) - 1 := by omega
 have hR1 := hR.trans (if_neg h0); have HR1 := hid' hR1
 have h0n : 1 ≤ l.length := by omega
 clear hR h0 hR1; go_enter Tryz.func127, Tryz.ntmps127
 go_wp2_with fail
 go_loopw [1] (fun sv wr => ∃ (m : Nat) (gv' : Value), l.length ≤ m ∧ m ≤ 5 ∧ sv = gv' ∧ Tk w0 wr bt v b 0 ∧ Gr wr bt v gv' (l ++ List.replicate (m - l.length) 117)) (fun sv _ => match sv with | .slice _ n _ => 5 - n | _ => 0)
 case atStart => exact ⟨l.length, _, Nat.le_refl _, by omega, rfl, A, by simpa using G⟩
 case round =>
  obtain ⟨m, gv', hm0, hm5, rfl, A1, G1⟩ := hrel; clear A G
  have hlen : (l ++ List.replicate (m - l.length) (117 : UInt8)).length = m := by simp; omega
  obtain ⟨ga', gc', hgv, -⟩ := own_val G1.1; rw [hlen] at hgv; subst hgv; have HA := hid' A1; have HG := hid' G1; have HL := hid' hlen; clear A1 G1 hlen
  by_cases hm : m < 5
  · have hm' : (m : Int) < 5 := by omega
    go_wp2_with fail
    refine (qput_any (b := l ++ List.replicate (m - l.length) 117) (HG.out.pure ((Chg.refl NoB wr).alloc _)).1 (by have := HA.out.box; have := blk_lt this; simp; omega) _ [117] _ (at8_int _ 117 (by decide) (by decide)) (by rw [HL.out]; simp; omega)).mono ?_; rintro r w1 ⟨gv2, rfl, hown, hgr, hat⟩; obtain ⟨A2, G2⟩ := Gr.more (HA.out.pure ((Chg.refl NoB wr).alloc _)) (HG.out.pure ((Chg.refl NoB wr).alloc _)) hown hgr hat
    have e : l ++ List.replicate (m - l.length) (117 : UInt8) ++ [117] = l ++ List.replicate (m + 1 - l.length) 117 := by
     rw [List.append_assoc, show m + 1 - l.length = (m - l.length) + 1 by omega, List.replicate_succ']
    rw [e] at G2
    have e2 : (l ++ List.replicate (m + 1 - l.length) (117 : UInt8)).length = m + 1 := by simp; omega
    obtain ⟨ga2, gc2, hg2, -⟩ := own_val G2.1; rw [e2] at hg2; subst hg2; have HA2 := hid' A2; have HG2 := hid' G2; clear A2 G2 e e2 hown hgr hat; go_wp2_with fail
    go_roundw
    case rel => exact ⟨m + 1, _, by omega, by omega, rfl, HA2.out, HG2.out⟩
    case measure => simp; omega
  · obtain rfl : m = 5 := by omega
    have hpad : l ++ List.replicate (5 - l.length) (117 : UInt8) = padG l := rfl; obtain ⟨g, gc2, hgv, h8, hglt⟩ := own_some HG.out.1 (by rw [HL.out]; omega); rw [hpad] at h8; rw [HL.out] at hgv; simp only [Value.slice.injEq] at hgv; obtain ⟨rfl, -, rfl⟩ := hgv
    have hp85 : Okay85 (padG l) := fun x hx => by
     simp only [padG, List.mem_append, List.mem_replicate] at hx
     rcases hx with hx | ⟨-, rfl⟩
     · exact H85.out x hx
     · decide
    have hN := fun w (hw : At8 w g (padG l)) (hlt : g < w.heap.size) => qnumber_any w g (padG l) gc' (by rw [← hpad]; exact HL.out) hw hp85 hlt; have hv := numV_le (padG l) hp85
    have hpl : (padG l).length = 5 := by rw [← hpad]; exact HL.out
    rw [hpl] at hv; obtain ⟨v0, v1⟩ := hv
    have v1' : numV (padG l) ≤ 4437053124 := by omega
    have H8 := hid' h8; have HN := hid' hN; clear hpad h8 hN hp85 hpl v1 HL HG; generalize numV (padG l) = x at *; go_wp2_with fail
    refine (HN.out _ H8.out hglt).mono ?_; rintro r w1 ⟨rfl, rfl⟩; clear H8 HN
    by_cases c1 : 4294967296 ≤ x
    · have d1 : decide (x < 4294967296) = false := by simp; omega
      have HR := hid' (HR1.out.trans (if_pos (.inl c1))); clear HR1; go_wp2_with fail
      go_ret; unfold LastEnd; rw [HR.out]; exact ⟨v, rfl, HA.out⟩
    have d1 : decide (x < 4294967296) = true := by simp; omega
    by_cases c2 : l.length = 1
    · have d2 : ((l.length : Int) - 1 == 0) = true := by simp; omega
      have HR := hid' (HR1.out.trans (if_pos (.inr c2))); clear HR1 c2; go_wp2_with fail
      go_ret; unfold LastEnd; rw [HR.out]; exact ⟨v, rfl, HA.out⟩
    have d2 : ((l.length : Int) - 1 == 0) = false := by simp; omega
    have HR2 := hid' (HR1.out.trans (if_neg (by rintro (h | h); exact c1 h; exact c2 h)))
    have hn2 : l.length = 2 ∨ l.length = 3 ∨ l.length = 4 := by omega
    clear HR1 c1 c2
    rcases hn2 with hn | hn | hn
    · have en : (l.length : Int) - 1 = 1 := by omega
      have hR3 := HR2.out; rw [hn] at hR3
      by_cases c3 : 4000 < b.length + (2 - 1)
      · have HR := hid' (hR3.trans (if_pos c3)); clear hR3 HR2 hn h0n hl; go_wp2_with fail
        refine (qadd_full (HA.out.pure (Chg.alloc (Chg.refl NoB _) _)) _ ((four x).take 1) _ hb (by simp [four]) (by simp [four]; omega)).mono ?_; rintro r w1 ⟨rfl, A2⟩; have HB := hid' A2; clear A2; go_wp2_with fail
        go_ret; unfold LastEnd; rw [HR.out]; exact ⟨v, rfl, HB.out⟩
      · have HR := hid' (hR3.trans (if_neg c3)); clear hR3 HR2 hn h0n hl; go_wp2_with fail
        refine (qadd_any (HA.out.pure (Chg.alloc (Chg.refl NoB _) _)) _ ((four x).take 1) _ (at8_four wr _ x 1 (by decide) v0) (by simp [four]) (by simp [four]; omega)).mono ?_; rintro r w1 ⟨rfl, v', A2⟩; have HB := hid' A2; clear A2; go_wp2_with fail
        go_ret; unfold LastEnd; rw [HR.out]; exact ⟨v', rfl, HB.out⟩
    · have en : (l.length : Int) - 1 = 2 := by omega
      have hR3 := HR2.out; rw [hn] at hR3
      by_cases c3 : 4000 < b.length + (3 - 1)
      · have HR := hid' (hR3.trans (if_pos c3)); clear hR3 HR2 hn h0n hl; go_wp2_with fail
        refine (qadd_full (HA.out.pure (Chg.alloc (Chg.refl NoB _) _)) _ ((four x).take 2) _ hb (by simp [four]) (by simp [four]; omega)).mono ?_; rintro r w1 ⟨rfl, A2⟩; have HB := hid' A2; clear A2; go_wp2_with fail
        go_ret; unfold LastEnd; rw [HR.out]; exact ⟨v, rfl, HB.out⟩
      · have HR := hid' (hR3.trans (if_neg c3)); clear hR3 HR2 hn h0n hl; go_wp2_with fail
        refine (qadd_any (HA.out.pure (Chg.alloc (Chg.refl NoB _) _)) _ ((four x).take 2) _ (at8_four wr _ x 2 (by decide) v0) (by simp [four]) (by simp [four]; omega)).mono ?_; rintro r w1 ⟨rfl, v', A2⟩; have HB := hid' A2; clear A2; go_wp2_with fail
        go_ret; unfold LastEnd; rw [HR.out]; exact ⟨v', rfl, HB.out⟩
    · have en : (l.length : Int) - 1 = 3 := by omega
      have hR3 := HR2.out; rw [hn] at hR3
      by_cases c3 : 4000 < b.length + (4 - 1)
      · have HR := hid' (hR3.trans (if_pos c3)); clear hR3 HR2 hn h0n hl; go_wp2_with fail
        refine (qadd_full (HA.out.pure (Chg.alloc (Chg.refl NoB _) _)) _ ((four x).take 3) _ hb (by simp [four]) (by simp [four]; omega)).mono ?_; rintro r w1 ⟨rfl, A2⟩; have HB := hid' A2; clear A2; go_wp2_with fail
        go_ret; unfold LastEnd; rw [HR.out]; exact ⟨v, rfl, HB.out⟩
      · have HR := hid' (hR3.trans (if_neg c3)); clear hR3 HR2 hn h0n hl; go_wp2_with fail
        refine (qadd_any (HA.out.pure (Chg.alloc (Chg.refl NoB _) _)) _ ((four x).take 3) _ (at8_four wr _ x 3 (by decide) v0) (by simp [four]) (by simp [four]; omega)).mono ?_; rintro r w1 ⟨rfl, v', A2⟩; have HB := hid' A2; clear A2; go_wp2_with fail
        go_ret; unfold LastEnd; rw [HR.out]; exact ⟨v', rfl, HB.out⟩
def eightyW (l : List UInt8) (i : Nat) (g b : List UInt8) : Int × List UInt8 × Nat :=
 match l with
 | [] => (4, [], 0)
 | c :: t =>
  if kindI c.toNat = 1 then eightyW t (i + 1) g b
  else if c = 126 then if t = [] then (4, [], 0) else if ¬ t.head? = some 62 then (3, [], 0) else if (lastF g b).1 = true then (0, (lastF g b).2.2, i + 2) else if (lastF g b).2.1 = 0 then (3, [], 0) else ((lastF g b).2.1, [], 0)
  else if c = 122 ∧ g.length = 0 then if 4000 < b.length + 4 then (5, [], 0) else eightyW t (i + 1) [] (b ++ [0, 0, 0, 0])
  else if 33 ≤ (c.toNat : Int) ∧ (c.toNat : Int) ≤ 117 then
   if g.length < 4 then eightyW t (i + 1) (g ++ [c]) b else if 4294967296 ≤ numV (g ++ [c]) then (3, [], 0) else if 4000 < b.length + 4 then (5, [], 0) else eightyW t (i + 1) [] (b ++ four (numV (g ++ [c])))
  else (3, [], 0)
theorem eightyW_at (s : ByteArray) (j : Nat) (h : j < s.size) (g b : List UInt8) : eightyW (s.toList.drop j) j g b =
 if kindI s[j].toNat = 1 then eightyW (s.toList.drop (j + 1)) (j + 1) g b
 else if s[j] = 126 then if s.toList.drop (j + 1) = [] then (4, [], 0) else if ¬ (s.toList.drop (j + 1)).head? = some 62 then (3, [], 0) else if (lastF g b).1 = true then (0, (lastF g b).2.2, j + 2) else if (lastF g b).2.1 = 0 then (3, [], 0) else ((lastF g b).2.1, [], 0)
 else if s[j] = 122 ∧ g.length = 0 then if 4000 < b.length + 4 then (5, [], 0) else eightyW (s.toList.drop (j + 1)) (j + 1) [] (b ++ [0, 0, 0, 0])
 else if 33 ≤ (s[j].toNat : Int) ∧ (s[j].toNat : Int) ≤ 117 then
  if g.length < 4 then eightyW (s.toList.drop (j + 1)) (j + 1) (g ++ [s[j]]) b else if 4294967296 ≤ numV (g ++ [s[j]]) then (3, [], 0) else if 4000 < b.length + 4 then (5, [], 0) else eightyW (s.toList.drop (j + 1)) (j + 1) [] (b ++ four (numV (g ++ [s[j]])))
 else (3, [], 0) := by
 rw [drop_at s j h, eightyW]
theorem eightyW_end (s : ByteArray) (j i : Nat) (h : s.size ≤ j) (g b : List UInt8) : eightyW (s.toList.drop j) i g b = (4, [], 0) := by rw [drop_end s j h, eightyW]
theorem lastF_ok (g b : List UInt8) : (lastF g b).1 = true → (lastF g b).2.1 = 0 := by
 unfold lastF; split
 · intro _; rfl
 · split
   · intro h; simp at h
   · split
     · intro h; simp at h
     · intro _; rfl
theorem at8_four4 (w : World) (T : TypeId) (x : Int) (v0 : 0 ≤ x) : At8 (w.alloc (.cells #[.int .u8 (x / 16777216 % 256), .int .u8 (x / 65536 % 256), .int .u8 (x / 256 % 256), .int .u8 (x % 256)] T)) w.heap.size (four x) :=
 at8_four w T x 4 (by decide) v0
theorem at8_list (w : World) (T : TypeId) (l : List UInt8) : At8 (w.alloc (.cells (u8L l).toArray T)) w.heap.size l := fun j hj => by
 rw [cells_of (blk_new w (.cells (u8L l).toArray T)) j]; simp [u8L, hj]
set_option maxRecDepth 100000 in
set_option maxHeartbeats 2000000 in
theorem qeighty_any {v0 : Value} (A : Tk w0 w bt v0 [] 0) (s : ByteArray) (hs : s.size ≤ 1000000) (h1 : 2 ≤ s.size) :
 Calls Tryz.prog 108 #[.pointer (some ⟨bt, 0, none⟩), .string s] w (TkEnd w0 bt (eightyW (s.toList.drop 2) 2 [] [])) := by
 obtain ⟨R, hR⟩ : ∃ R, eightyW (s.toList.drop 2) 2 [] [] = R := ⟨_, rfl⟩
 rw [hR]; have HRR := hid' hR; clear hR; go_enter Tryz.func108, Tryz.ntmps108
 go_wp2_with fail
 go_loopw [5, 6] (fun sg iv wr => ∃ (j : Nat) (g b : List UInt8) (gv v : Value), 2 ≤ j ∧ j ≤ s.size ∧ sg = gv ∧ iv = .int .i64 j ∧ g.length ≤ 4 ∧ Okay85 g ∧ b.length ≤ 4000 ∧ Tk w0 wr bt v b 0 ∧ Gr wr bt v gv g ∧ (g = [] → gv = .slice none 0 0) ∧ R = eightyW (s.toList.drop j) j g b) (fun _ i _ => s.size - (intOf i).toNat)
 case atStart => exact ⟨2, [], [], _, v0, Nat.le_refl _, h1, rfl, rfl, by simp, fun x hx => by simp at hx, by simp, A, Gr.nil _ _ _, fun _ => rfl, HRR.out.symm⟩
 case round =>
  obtain ⟨j, g, b, gv, v, hj1, hj2, rfl, rfl, hgl, h85, hbl, A1, G1, hz, hW⟩ := hrel; clear A; obtain ⟨ga, gc, rfl, -⟩ := own_val G1.1; have HA := hid' A1; have HG := hid' G1; have H85 := hid' h85; have HZ := hid' hz; clear A1 G1 h85 hz
  by_cases hlt : j < s.size
  rotate_left
  · obtain rfl : j = s.size := by omega
    have HC := hid' (hW.trans (eightyW_end s s.size _ (Nat.le_refl _) g b)); clear hW; go_wp2_with fail
    refine (qbad_any HA.out 4).mono ?_; rintro r w1 ⟨rfl, A2⟩; have HB := hid' A2; clear A2; go_wp2_with fail
    go_ret; unfold TkEnd; rw [HC.out]; exact ⟨v, b, rfl, HB.out, fun h => absurd h (by decide)⟩
  have hlt' : (j : Int) < s.size := by omega
  have hE := hW.trans (eightyW_at s j hlt g b); clear hW
  have u0 : (s[j].toNat : Int) < 256 := by have := s[j].toNat_lt; omega
  by_cases ek : kindI s[j].toNat = 1
  · have uk : (kindI s[j].toNat == 1) = true := by simpa using ek
    have HC := hid' (hE.trans (if_pos ek)); clear hE ek; go_wp2_with fail
    refine (ckind_any _ _).mono ?_; rintro r w1 ⟨rfl, rfl⟩; go_wp2_with fail
    go_roundw
    case rel => exact ⟨j + 1, g, b, _, v, by omega, by omega, rfl, by go_num, hgl, H85.out, hbl, HA.out, HG.out, HZ.out, HC.out⟩
    case measure => simp [intOf]; omega
  have uk : (kindI s[j].toNat == 1) = false := by simpa using ek
  have hE1 := hE.trans (if_neg ek); clear hE ek
  by_cases e126 : s[j] = 126
  · have u126 := u8T 126 e126 (126 : Int); have hE2 := hE1.trans (if_pos e126); clear hE1
    by_cases hk : j + 1 < s.size
    rotate_left
    · have hk' : (j : Int) + 1 = s.size := by omega
      have hk2 : ((j : Int) + 1 == (s.size : Int)) = true := by simpa using hk'
      have hk3 : (j + 1 == s.size) = true := by simp; omega
      have HC := hid' (hE2.trans (if_pos (drop_end s (j + 1) (by omega)))); clear hE2 e126 hk'; go_wp2_with fail
      refine (ckind_any _ _).mono ?_; rintro r w1 ⟨rfl, rfl⟩; go_wp2_with fail
      refine (qbad_any HA.out 4).mono ?_; rintro r w1 ⟨rfl, A2⟩; have HB := hid' A2; clear A2; go_wp2_with fail
      go_ret; unfold TkEnd; rw [HC.out]; exact ⟨v, b, rfl, HB.out, fun h => absurd h (by decide)⟩
    have hk' : (j : Int) + 1 < s.size := by omega
    have hk2 : ((j : Int) + 1 == (s.size : Int)) = false := by simp; omega
    have hk3 : (j + 1 == s.size) = false := by simp; omega
    have hh : (s.toList.drop (j + 1)).head? = some s[j + 1] := by rw [drop_at s (j + 1) hk]; rfl
    have hE3 := hE2.trans (if_neg (by rw [drop_at s (j + 1) hk]; simp)); rw [hh] at hE3; clear hE2 hh
    by_cases e62 : s[j + 1] = 62
    rotate_left
    · have u62 := u8nT 62 e62 (62 : Int); have HC := hid' (hE3.trans (if_pos (by simpa using e62))); have R0 := cells_of HA.out.box; have l0 := blk_lt HA.out.box; have Z0 := free_of HA.out.box; have HB := hid' (HA.out.fail 3); clear hE3 e126 e62; go_wp2_with fail
      refine (ckind_any _ _).mono ?_; rintro r w1 ⟨rfl, rfl⟩; go_wp2_with fail
      go_ret; unfold TkEnd; rw [HC.out]; exact ⟨v, b, rfl, HB.out, fun h => absurd h (by decide)⟩
    have u62 := u8nF 62 e62 (62 : Int); have hE4 := hE3.trans (if_neg (by rw [e62]; simp)); have HL := hid' (qlast_any HA.out HG.out hgl H85.out hbl); clear hE3 e126 e62; have hok := lastF_ok g b; generalize lastF g b = LF at *; obtain ⟨lo, le, lb⟩ := LF; simp only at hE4 hok
    cases lo with
    | true =>
     obtain rfl : le = 0 := hok rfl; have HC := hid' (hE4.trans (if_pos rfl)); clear hE4 hok; go_wp2_with fail
     refine (ckind_any _ _).mono ?_; rintro r w1 ⟨rfl, rfl⟩; go_wp2_with fail
     refine HL.out.mono ?_; rintro r w1 ⟨v', rfl, A2⟩; have HB := hid' A2; clear A2 HL; go_wp2_with fail
     go_ret; unfold TkEnd; rw [HC.out]; exact ⟨v', _, rfl, HB.out, fun _ => rfl⟩
    | false =>
     have hE5 := hE4.trans (if_neg (by simp)); clear hE4 hok
     by_cases el : le = 0
     · subst el; have HC := hid' (hE5.trans (if_pos rfl)); clear hE5; go_wp2_with fail
       refine (ckind_any _ _).mono ?_; rintro r w1 ⟨rfl, rfl⟩; go_wp2_with fail
       refine HL.out.mono ?_; rintro r w1 ⟨v', rfl, A2⟩; have R0 := cells_of A2.box; have l0 := blk_lt A2.box; have Z0 := free_of A2.box; have HB := hid' (A2.fail 3); clear A2 HL; go_wp2_with fail
       go_ret; unfold TkEnd; rw [HC.out]; exact ⟨v', _, rfl, HB.out, fun h => absurd h (by decide)⟩
     · have el' : (le == 0) = false := by simpa using el
       have HC := hid' (hE5.trans (if_neg el)); have HEL := hid' el; clear hE5 el; go_wp2_with fail
       refine (ckind_any _ _).mono ?_; rintro r w1 ⟨rfl, rfl⟩; go_wp2_with fail
       refine HL.out.mono ?_; rintro r w1 ⟨v', rfl, A2⟩; have R0 := cells_of A2.box; have l0 := blk_lt A2.box; have HB := hid' A2; clear A2 HL; go_wp2_with fail
       go_ret; unfold TkEnd; rw [HC.out]; exact ⟨v', _, rfl, HB.out, fun h => absurd h HEL.out⟩
  have u126 := u8F 126 e126 (126 : Int); have hE2 := hE1.trans (if_neg e126); clear hE1 e126
  by_cases ez : s[j] = 122 ∧ g.length = 0
  · obtain ⟨e122, eg⟩ := ez; have u122 := u8T 122 e122 (122 : Int)
    have ug : ((g.length : Int) == 0) = true := by rw [eg]; rfl
    have hE3 := hE2.trans (if_pos ⟨e122, eg⟩); clear hE2 e122
    by_cases hf : 4000 < b.length + 4
    · have HC := hid' (hE3.trans (if_pos hf)); clear hE3 eg; go_wp2_with fail
      refine (ckind_any _ _).mono ?_; rintro r w1 ⟨rfl, rfl⟩; go_wp2_with fail
      refine (qadd_full (HA.out.pure (Chg.alloc (Chg.refl NoB _) _)) _ [0, 0, 0, 0] _ hbl (by simp) (by simp; omega)).mono ?_; rintro r w1 ⟨rfl, A2⟩; have HB := hid' A2; clear A2; go_wp2_with fail
      go_ret; unfold TkEnd; rw [HC.out]; exact ⟨v, b, rfl, HB.out, fun h => absurd h (by decide)⟩
    · have HC := hid' (hE3.trans (if_neg hf)); have e0 : g = [] := List.eq_nil_of_length_eq_zero eg; have HG0 := hid' e0; obtain ⟨rfl, -, rfl⟩ := Value.slice.inj (HZ.out e0); clear hE3 eg e0; go_wp2_with fail
      refine (ckind_any _ _).mono ?_; rintro r w1 ⟨rfl, rfl⟩; go_wp2_with fail
      refine (qadd_any (HA.out.pure (Chg.alloc (Chg.refl NoB _) _)) _ [0, 0, 0, 0] _ (at8_list wr _ [0, 0, 0, 0]) (by simp) (by simp; omega)).mono ?_; rintro r w1 ⟨rfl, v', A2⟩; have HB := hid' A2; clear A2; go_wp2_with fail
      go_roundw
      case rel => exact ⟨j + 1, [], _, _, v', by omega, by omega, by rw [HG0.out]; rfl, by go_num, by simp, fun x hx => by simp at hx, by simp; omega, HB.out, Gr.nil _ _ _, fun _ => rfl, HC.out⟩
      case measure => simp [intOf]; omega
  have uz : ((s[j].toNat : Int) == 122) = false ∨ ((s[j].toNat : Int) == 122) = true ∧ ((g.length : Int) == 0) = false := by
   by_cases e122 : s[j] = 122
   · exact .inr ⟨u8T 122 e122 (122 : Int), by
      have : ¬ g.length = 0 := fun e => ez ⟨e122, e⟩
      simp only [beq_eq_false_iff_ne, ne_eq]; omega⟩
   · exact .inl (u8F 122 e122 (122 : Int))
  have hE3 := hE2.trans (if_neg ez); clear hE2 ez
  rcases uz with uz | ⟨uz, ug⟩
  rotate_left
  · have h122 : (s[j].toNat : Int) = 122 := by simpa using uz
    have HC := hid' (hE3.trans (if_neg (by omega)))
    have h117 : 117 < (s[j].toNat : Int) := by omega
    clear hE3 h122; go_wp2_with fail
    refine (ckind_any _ _).mono ?_; rintro r w1 ⟨rfl, rfl⟩; go_wp2_with fail
    refine (qbad_any HA.out 3).mono ?_; rintro r w1 ⟨rfl, A2⟩; have HB := hid' A2; clear A2; go_wp2_with fail
    go_ret; unfold TkEnd; rw [HC.out]; exact ⟨v, b, rfl, HB.out, fun h => absurd h (by decide)⟩
  by_cases c1 : (s[j].toNat : Int) < 33
  · have HC := hid' (hE3.trans (if_neg (by omega))); clear hE3; go_wp2_with fail
    refine (ckind_any _ _).mono ?_; rintro r w1 ⟨rfl, rfl⟩; go_wp2_with fail
    refine (qbad_any HA.out 3).mono ?_; rintro r w1 ⟨rfl, A2⟩; have HB := hid' A2; clear A2; go_wp2_with fail
    go_ret; unfold TkEnd; rw [HC.out]; exact ⟨v, b, rfl, HB.out, fun h => absurd h (by decide)⟩
  have c1' : 33 ≤ (s[j].toNat : Int) := by omega
  by_cases c2 : 117 < (s[j].toNat : Int)
  · have HC := hid' (hE3.trans (if_neg (by omega))); clear hE3; go_wp2_with fail
    refine (ckind_any _ _).mono ?_; rintro r w1 ⟨rfl, rfl⟩; go_wp2_with fail
    refine (qbad_any HA.out 3).mono ?_; rintro r w1 ⟨rfl, A2⟩; have HB := hid' A2; clear A2; go_wp2_with fail
    go_ret; unfold TkEnd; rw [HC.out]; exact ⟨v, b, rfl, HB.out, fun h => absurd h (by decide)⟩
  have c2' : (s[j].toNat : Int) ≤ 117 := by omega
  have hE4 := hE3.trans (if_pos ⟨c1', c2'⟩)
  have hn85 : Okay85 (g ++ [s[j]]) := fun x hx => by
   rcases List.mem_append.1 hx with hx | hx
   · exact H85.out x hx
   · obtain rfl : x = s[j] := by simpa using hx
     exact ⟨c1', c2'⟩
  have HN85 := hid' hn85; clear hE3 hn85
  by_cases cg : g.length < 4
  · have cg' : (g.length : Int) + 1 < 5 := by omega
    have HC := hid' (hE4.trans (if_pos cg)); clear hE4; go_wp2_with fail
    refine (ckind_any _ _).mono ?_; rintro r w1 ⟨rfl, rfl⟩; go_wp2_with fail
    refine (qput_any (HG.out.pure ((Chg.refl NoB wr).alloc _)).1 (by have := blk_lt HA.out.box; simp; omega) _ [s[j]] _ (at8_one _ _) (by simp; omega)).mono ?_; rintro r w1 ⟨gv2, rfl, hown, hgr, hat⟩; obtain ⟨A2, G2⟩ := Gr.more (HA.out.pure ((Chg.refl NoB wr).alloc _)) (HG.out.pure ((Chg.refl NoB wr).alloc _)) hown hgr hat; obtain ⟨ga2, gc2, rfl, -⟩ := own_val G2.1; have HA2 := hid' A2; have HG2 := hid' G2; rw [List.length_append, List.length_singleton] at HG2; clear A2 G2 hown hgr hat
    have hl2 : ((g ++ [s[j]]).length : Int) = (g.length : Int) + 1 := by simp
    go_wp2_with fail
    go_roundw
    case rel => exact ⟨j + 1, g ++ [s[j]], b, _, v, by omega, by omega, rfl, by go_num, by simp; omega, HN85.out, hbl, HA2.out, by simpa using HG2.out, fun e => by simp at e, HC.out⟩
    case measure => simp [intOf]; omega
  have hE5 := hE4.trans (if_neg cg)
  have hl5 : (g ++ [s[j]]).length = 5 := by simp; omega
  have hv := numV_le (g ++ [s[j]]) HN85.out; rw [hl5] at hv; have v0 : 0 ≤ numV (g ++ [s[j]]) := hv.1
  have v1 : numV (g ++ [s[j]]) ≤ 4437053124 := by have := hv.2; omega
  have cg' : (g.length : Int) = 4 := by omega
  have HL5 := hid' hl5; have HN := hid' (fun w gb gc (hw : At8 w gb (g ++ [s[j]])) (hlt : gb < w.heap.size) => qnumber_any w gb (g ++ [s[j]]) gc HL5.out hw HN85.out hlt); clear hE4 hv hl5 cg; generalize numV (g ++ [s[j]]) = x at *
  by_cases c3 : 4294967296 ≤ x
  · have d3 : decide (x < 4294967296) = false := by simp; omega
    have HC := hid' (hE5.trans (if_pos c3)); clear hE5; go_wp2_with fail
    refine (ckind_any _ _).mono ?_; rintro r w1 ⟨rfl, rfl⟩; go_wp2_with fail
    refine (qput_any (HG.out.pure ((Chg.refl NoB wr).alloc _)).1 (by have := blk_lt HA.out.box; simp; omega) _ [s[j]] _ (at8_one _ _) (by simp; omega)).mono ?_; rintro r w1 ⟨gv2, rfl, hown, hgr, hat⟩; obtain ⟨A2, G2⟩ := Gr.more (HA.out.pure ((Chg.refl NoB wr).alloc _)) (HG.out.pure ((Chg.refl NoB wr).alloc _)) hown hgr hat; obtain ⟨gb, gc2, rfl, h8, hglt⟩ := own_some G2.1 (by rw [HL5.out]; omega); rw [HL5.out]; have HA2 := hid' A2; have H8 := hid' h8; clear A2 G2 hown hgr hat h8; go_wp2_with fail
    refine (HN.out _ _ _ H8.out hglt).mono ?_; rintro r w2 ⟨rfl, rfl⟩; go_wp2_with fail
    refine (qbad_any HA2.out 3).mono ?_; rintro r w1 ⟨rfl, A2⟩; have HB := hid' A2; clear A2; go_wp2_with fail
    go_ret; unfold TkEnd; rw [HC.out]; exact ⟨v, b, rfl, HB.out, fun h => absurd h (by decide)⟩
  have d3 : decide (x < 4294967296) = true := by simp; omega
  by_cases hf : 4000 < b.length + 4
  · have HC := hid' (hE5.trans ((if_neg c3).trans (if_pos hf))); clear hE5; go_wp2_with fail
    refine (ckind_any _ _).mono ?_; rintro r w1 ⟨rfl, rfl⟩; go_wp2_with fail
    refine (qput_any (HG.out.pure ((Chg.refl NoB wr).alloc _)).1 (by have := blk_lt HA.out.box; simp; omega) _ [s[j]] _ (at8_one _ _) (by simp; omega)).mono ?_; rintro r w1 ⟨gv2, rfl, hown, hgr, hat⟩; obtain ⟨A2, G2⟩ := Gr.more (HA.out.pure ((Chg.refl NoB wr).alloc _)) (HG.out.pure ((Chg.refl NoB wr).alloc _)) hown hgr hat; obtain ⟨gb, gc2, rfl, h8, hglt⟩ := own_some G2.1 (by rw [HL5.out]; omega); rw [HL5.out]; have HA2 := hid' A2; have H8 := hid' h8; clear A2 G2 hown hgr hat h8; go_wp2_with fail
    refine (HN.out _ _ _ H8.out hglt).mono ?_; rintro r w2 ⟨rfl, rfl⟩; go_wp2_with fail
    refine (qadd_full (HA2.out.pure (Chg.alloc (Chg.refl NoB _) _)) _ (four x) _ hbl (by simp [four]) (by simp [four]; omega)).mono ?_; rintro r w3 ⟨rfl, A2⟩; have HB := hid' A2; clear A2; go_wp2_with fail
    go_ret; unfold TkEnd; rw [HC.out]; exact ⟨v, b, rfl, HB.out, fun h => absurd h (by decide)⟩
  · have HC := hid' (hE5.trans ((if_neg c3).trans (if_neg hf))); clear hE5 c3; go_wp2_with fail
    refine (ckind_any _ _).mono ?_; rintro r w1 ⟨rfl, rfl⟩; go_wp2_with fail
    refine (qput_any (HG.out.pure ((Chg.refl NoB wr).alloc _)).1 (by have := blk_lt HA.out.box; simp; omega) _ [s[j]] _ (at8_one _ _) (by simp; omega)).mono ?_; rintro r w1 ⟨gv2, rfl, hown, hgr, hat⟩; obtain ⟨A2, G2⟩ := Gr.more (HA.out.pure ((Chg.refl NoB wr).alloc _)) (HG.out.pure ((Chg.refl NoB wr).alloc _)) hown hgr hat; obtain ⟨gb, gc2, rfl, h8, hglt⟩ := own_some G2.1 (by rw [HL5.out]; omega); rw [HL5.out]; have HA2 := hid' A2; have H8 := hid' h8; clear A2 G2 hown hgr hat h8; go_wp2_with fail
    refine (HN.out _ _ _ H8.out hglt).mono ?_; rintro r w2 ⟨rfl, rfl⟩; go_wp2_with fail
    refine (qadd_any (HA2.out.pure (Chg.alloc (Chg.refl NoB _) _)) _ (four x) _ (at8_four4 _ _ x v0) (by simp [four]) (by simp [four]; omega)).mono ?_; rintro r w3 ⟨rfl, v', A2⟩; have HB := hid' A2; clear A2; go_wp2_with fail
    go_roundw
    case rel => exact ⟨j + 1, [], _, _, v', by omega, by omega, rfl, by go_num, by simp, fun x hx => by simp at hx, by simp [four]; omega, HB.out, Gr.nil _ _ _, fun _ => rfl, HC.out⟩
    case measure => simp [intOf]; omega
theorem tk_underStr : Tryz.prog.underlying 9 = some .string := by kernel_rfl
theorem tk_underByte : Tryz.prog.underlying 5 = some (.int .u8) := by kernel_rfl
theorem own_str {B : Nat} (h : w.ownsRow B 5 1 v b.length (u8L b)) (W : World) (hW : Chg NoB w W) : (convert 59 9 v).run Tryz.prog W = .ok (.string ⟨b.toArray⟩) W := by
 have hc : (convert 59 9 v).run Tryz.prog W = (Conv.bytesToString v).run Tryz.prog W := by
  obtain ⟨a, c, rfl, -⟩ := own_val h
  cases a <;> simp only [convert, Sem.run_bind, run_underlying tk_underStr, run_underlying tq_under, run_underlying tk_underByte, Result.andThen_ok]
 rw [hc]
 rcases h.2 with ⟨rfl, h0⟩ | ⟨g, cap, cur, rfl, h1, h2, h3, h4, h5, h6⟩
 · obtain rfl : b = [] := List.eq_nil_of_length_eq_zero h0; simp [Conv.bytesToString]; rfl
 · exact bytesToString_T Tryz.prog W ⟨g, 0, none⟩ b cap (fun i hi => by
    rw [add_z, cells_of (hW.blk h2 id) i, ← Array.getElem?_toList]
    have : cur.toList[i]? = (cur.toList.take (b.length * 1))[i]? := by rw [List.getElem?_take, if_pos (by omega)]
    rw [this, h6]
    simp [u8L, hi])
def takeW (l : List UInt8) : Int × List UInt8 × Nat :=
 if l.head? = some 40 then parenW (l.drop 1) 1 1 []
 else if l.head? = some 60 ∧ (l.drop 1).head? = some 126 then eightyW (l.drop 2) 2 [] []
 else if l.head? = some 60 then hexW (l.drop 1) 1 (-1) []
 else (3, [], 0)
def takeF (l : List UInt8) : Int × List UInt8 × Nat := if (takeW l).1 = 0 then takeW l else ((takeW l).1, [], 0)
abbrev takeV (R : Int × List UInt8 × Nat) : Value := .tuple #[.string ⟨R.2.1.toArray⟩, .int .i64 (R.2.2 : Nat), .int .i64 R.1]
set_option maxRecDepth 100000 in
set_option maxHeartbeats 2000000 in
theorem take_any (s : ByteArray) (hs : s.size ≤ 1000000) (w : World) :
 Calls Tryz.prog 81 #[.string s] w fun r w' => r = .returned (takeV (takeF s.toList)) ∧ Chg NoB w w' := by
 have hW : takeW s.toList = if s.toList.head? = some 40 then parenW (s.toList.drop 1) 1 1 [] else if s.toList.head? = some 60 ∧ (s.toList.drop 1).head? = some 126 then eightyW (s.toList.drop 2) 2 [] [] else if s.toList.head? = some 60 then hexW (s.toList.drop 1) 1 (-1) [] else (3, [], 0) := rfl
 have hF : takeF s.toList = if (takeW s.toList).1 = 0 then takeW s.toList else ((takeW s.toList).1, [], 0) := rfl
 have A : Tk w (w.alloc (tkBox (.slice none 0 0) 0)) w.heap.size (.slice none 0 0) [] 0 := ⟨(Chg.refl NoB w).alloc _, Nat.le_refl _, blk_new w _, World.ownsRow_nil _ _ _ _⟩
 have HA := hid' A; clear A; generalize takeF s.toList = F at *
 by_cases h0 : s.size = 0
 · have he : s.toList = [] := List.eq_nil_of_length_eq_zero (by rw [size_lst]; exact h0)
   have h3 : takeW s.toList = (3, [], 0) := by rw [hW, he]; rfl
   have HF := hid' (hF.trans (by rw [h3]))
   have hx : s.toList.isEmpty = true := by rw [he]; rfl
   have hx' : (!s.toList.isEmpty) = false := by rw [hx]; rfl
   have hz : (s.size : Int) ≤ 1 := by omega
   clear hW hF h3 he h0; go_enter Tryz.func81, Tryz.ntmps81
   go_wp2_with fail
   go_ret3; exact ⟨by rw [HF.out]; rfl, (Chg.refl NoB w).alloc _⟩
 have h1 : 1 ≤ s.size := by omega
 have h1' : 0 < (s.size : Int) := by omega
 have h1'' : 0 < s.size := h1
 have hh : s.toList.head? = some s[0] := by rw [← List.drop_zero (l := s.toList), drop_at s 0 h1]; rfl
 have hx : s.toList.isEmpty = false := by
  cases hl : s.toList with
  | nil => rw [hl] at hh; simp at hh
  | cons => rfl
 have hx' : (!s.toList.isEmpty) = true := by rw [hx]; rfl
 rw [hh] at hW; clear h0 hh
 by_cases e40 : s[0] = 40
 · have u40 := u8T 40 e40 (40 : Int); have hW1 := hW.trans (if_pos (by rw [e40])); rw [hW1] at hF; have HP := hid' (qparen_any HA.out s hs h1); generalize parenW (s.toList.drop 1) 1 1 [] = R at *; clear hW hW1 e40; go_enter Tryz.func81, Tryz.ntmps81
   go_wp2_with fail
   refine HP.out.mono ?_; rintro r w1 ⟨v, b, rfl, A1, hb⟩; have R0 := cells_of A1.box; have l0 := blk_lt A1.box
   by_cases er : R.1 = 0
   · have er' : (R.1 != 0) = false := by rw [er]; rfl
     have HS := own_str A1.own _ (Chg.refl _ _); have HB := hid' (hb er); have X := A1.chg; have HF := hid' (hF.trans (if_pos er)); have HER := hid' er; clear HP HA A1 hF er hb; go_wp2_with fail
     go_ret3; refine ⟨?_, X⟩; rw [HF.out]; exact congrArg Ending.returned (by rw [HB.out, show takeV R = .tuple #[.string ⟨R.2.1.toArray⟩, .int .i64 (R.2.2 : Nat), .int .i64 R.1] from rfl, HER.out]; rfl)
   · have er' : (R.1 != 0) = true := by simpa using er
     have X := A1.chg; have HF := hid' (hF.trans (if_neg er)); have HER := hid' er; clear HP HA A1 hF er hb; go_wp2_with fail
     go_quiet (fail)
     go_wp2_with fail
     go_ret3; exact ⟨by rw [HF.out]; rfl, X.trans ((Chg.refl NoB _).drewN _)⟩
 have u40 := u8F 40 e40 (40 : Int); have hW1 := hW.trans (if_neg (by simpa using e40)); clear hW e40
 by_cases e60 : s[0] = 60
 rotate_left
 · have u60 := u8F 60 e60 (60 : Int); have h3 := hW1.trans ((if_neg (fun h => e60 (by simpa using h.1))).trans (if_neg (by simpa using e60))); rw [h3] at hF; have HF := hid' (hF.trans (if_neg (by decide))); clear hF h3 hW1 e60 HA
   by_cases hz : s.size ≤ 1
   · have hz' : (s.size : Int) ≤ 1 := by omega
     go_enter Tryz.func81, Tryz.ntmps81
     go_wp2_with fail
     go_ret3; exact ⟨by rw [HF.out]; rfl, (Chg.refl NoB w).alloc _⟩
   · have hz' : 1 < (s.size : Int) := by omega
     go_enter Tryz.func81, Tryz.ntmps81
     go_wp2_with fail
     go_ret3; exact ⟨by rw [HF.out]; rfl, (Chg.refl NoB w).alloc _⟩
 have u60 := u8T 60 e60 (60 : Int)
 by_cases hz : s.size ≤ 1
 · have hz' : (s.size : Int) ≤ 1 := by omega
   have hW2 := hW1.trans ((if_neg (fun h => by have := h.2; rw [drop_end s 1 hz] at this; simp at this)).trans (if_pos (by rw [e60]))); rw [hW2] at hF; have HP := hid' (qhex_any HA.out s hs h1); generalize hexW (s.toList.drop 1) 1 (-1) [] = R at *; clear hW1 hW2 e60; go_enter Tryz.func81, Tryz.ntmps81
   go_wp2_with fail
   refine HP.out.mono ?_; rintro r w1 ⟨v, b, rfl, A1, hb⟩; have R0 := cells_of A1.box; have l0 := blk_lt A1.box
   by_cases er : R.1 = 0
   · have er' : (R.1 != 0) = false := by rw [er]; rfl
     have HS := own_str A1.own _ (Chg.refl _ _); have HB := hid' (hb er); have X := A1.chg; have HF := hid' (hF.trans (if_pos er)); have HER := hid' er; clear HP HA A1 hF er hb; go_wp2_with fail
     go_ret3; refine ⟨?_, X⟩; rw [HF.out]; exact congrArg Ending.returned (by rw [HB.out, show takeV R = .tuple #[.string ⟨R.2.1.toArray⟩, .int .i64 (R.2.2 : Nat), .int .i64 R.1] from rfl, HER.out]; rfl)
   · have er' : (R.1 != 0) = true := by simpa using er
     have X := A1.chg; have HF := hid' (hF.trans (if_neg er)); have HER := hid' er; clear HP HA A1 hF er hb; go_wp2_with fail
     go_quiet (fail)
     go_wp2_with fail
     go_ret3; exact ⟨by rw [HF.out]; rfl, X.trans ((Chg.refl NoB _).drewN _)⟩
 have hz' : 1 < (s.size : Int) := by omega
 have hz'' : 1 < s.size := by omega
 have hh : (s.toList.drop 1).head? = some s[1] := by rw [drop_at s 1 hz'']; rfl
 rw [hh] at hW1
 by_cases e126 : s[1] = 126
 · have u126 := u8T 126 e126 (126 : Int); have hW2 := hW1.trans (if_pos ⟨by rw [e60], by rw [e126]⟩); rw [hW2] at hF; have HP := hid' (qeighty_any HA.out s hs hz''); generalize eightyW (s.toList.drop 2) 2 [] [] = R at *; clear hW1 hW2 e60 e126 hh; go_enter Tryz.func81, Tryz.ntmps81
   go_wp2_with fail
   refine HP.out.mono ?_; rintro r w1 ⟨v, b, rfl, A1, hb⟩; have R0 := cells_of A1.box; have l0 := blk_lt A1.box
   by_cases er : R.1 = 0
   · have er' : (R.1 != 0) = false := by rw [er]; rfl
     have HS := own_str A1.own _ (Chg.refl _ _); have HB := hid' (hb er); have X := A1.chg; have HF := hid' (hF.trans (if_pos er)); have HER := hid' er; clear HP HA A1 hF er hb; go_wp2_with fail
     go_ret3; refine ⟨?_, X⟩; rw [HF.out]; exact congrArg Ending.returned (by rw [HB.out, show takeV R = .tuple #[.string ⟨R.2.1.toArray⟩, .int .i64 (R.2.2 : Nat), .int .i64 R.1] from rfl, HER.out]; rfl)
   · have er' : (R.1 != 0) = true := by simpa using er
     have X := A1.chg; have HF := hid' (hF.trans (if_neg er)); have HER := hid' er; clear HP HA A1 hF er hb; go_wp2_with fail
     go_quiet (fail)
     go_wp2_with fail
     go_ret3; exact ⟨by rw [HF.out]; rfl, X.trans ((Chg.refl NoB _).drewN _)⟩
 have u126 := u8F 126 e126 (126 : Int); have hW2 := hW1.trans ((if_neg (fun h => e126 (by simpa using h.2))).trans (if_pos (by rw [e60]))); rw [hW2] at hF; have HP := hid' (qhex_any HA.out s hs h1); generalize hexW (s.toList.drop 1) 1 (-1) [] = R at *; clear hW1 hW2 e60 e126 hh; go_enter Tryz.func81, Tryz.ntmps81
 go_wp2_with fail
 refine HP.out.mono ?_; rintro r w1 ⟨v, b, rfl, A1, hb⟩; have R0 := cells_of A1.box; have l0 := blk_lt A1.box
 by_cases er : R.1 = 0
 · have er' : (R.1 != 0) = false := by rw [er]; rfl
   have HS := own_str A1.own _ (Chg.refl _ _); have HB := hid' (hb er); have X := A1.chg; have HF := hid' (hF.trans (if_pos er)); have HER := hid' er; clear HP HA A1 hF er hb; go_wp2_with fail
   go_ret3; refine ⟨?_, X⟩; rw [HF.out]; exact congrArg Ending.returned (by rw [HB.out, show takeV R = .tuple #[.string ⟨R.2.1.toArray⟩, .int .i64 (R.2.2 : Nat), .int .i64 R.1] from rfl, HER.out]; rfl)
 · have er' : (R.1 != 0) = true := by simpa using er
   have X := A1.chg; have HF := hid' (hF.trans (if_neg er)); have HER := hid' er; clear HP HA A1 hF er hb; go_wp2_with fail
   go_quiet (fail)
   go_wp2_with fail
   go_ret3; exact ⟨by rw [HF.out]; rfl, X.trans ((Chg.refl NoB _).drewN _)⟩
theorem parenW_len : ∀ (n : Nat) (l : List UInt8), l.length ≤ n → ∀ (i deep : Nat) (b : List UInt8), (parenW l i deep b).2.2 ≤ i + l.length
 | n, [], _, i, deep, b => by rw [parenW]; simp
 | 0, c :: t, h, _, _, _ => by simp at h
 | n + 1, c :: t, h, i, deep, b => by
  have hl : t.length ≤ n := by simpa using h
  have ih := fun l (hl : l.length ≤ n) => parenW_len n l hl; have he := (escF_le t).2.2; have hlc : (c :: t).length = t.length + 1 := rfl; rw [parenW, hlc]
  repeat' split
  all_goals first
   | exact Nat.zero_le _
   | exact Nat.le_trans (ih t hl _ _ _) (by omega)
   | exact Nat.le_trans (ih (t.drop 1) (by rw [List.length_drop]; omega) _ _ _) (by rw [List.length_drop]; cases t with | nil => simp_all | cons => simp only [List.length_cons]; omega)
   | exact Nat.le_trans (ih (t.drop (escF t).2.1) (by rw [List.length_drop]; omega) _ _ _) (by rw [List.length_drop]; omega)
   | (show i + 1 ≤ i + (t.length + 1); omega)
theorem hexW_len (l : List UInt8) : ∀ (i : Nat) (half : Int) (b : List UInt8), (hexW l i half b).2.2 ≤ i + l.length := by
 induction l with
 | nil => intro i half b; rw [hexW]; simp
 | cons c t ih =>
  intro i half b; have hlc : (c :: t).length = t.length + 1 := rfl; rw [hexW, hlc]
  repeat' split
  all_goals first
   | exact Nat.zero_le _
   | exact Nat.le_trans (ih _ _ _) (by omega)
   | (show i + 1 ≤ i + (t.length + 1); omega)
theorem eightyW_len (l : List UInt8) : ∀ (i : Nat) (g b : List UInt8), (eightyW l i g b).2.2 ≤ i + l.length := by
 induction l with
 | nil => intro i g b; rw [eightyW]; simp
 | cons c t ih =>
  intro i g b; have hlc : (c :: t).length = t.length + 1 := rfl; rw [eightyW, hlc]
  repeat' split
  all_goals first
   | exact Nat.zero_le _
   | exact Nat.le_trans (ih _ _ _) (by omega)
   | (show i + 2 ≤ i + (t.length + 1); cases t with | nil => simp_all | cons => simp only [List.length_cons]; omega)
theorem takeF_len (l : List UInt8) : (takeF l).2.2 ≤ l.length := by
 unfold takeF; split
 · unfold takeW; split
   · rename_i h
     refine Nat.le_trans (parenW_len _ _ (Nat.le_refl _) _ _ _) ?_; rw [List.length_drop]
     cases l with
     | nil => simp at h
     | cons => simp only [List.length_cons]; omega
   · split
     · rename_i h
       refine Nat.le_trans (eightyW_len _ _ _ _) ?_; rw [List.length_drop]
       match l, h with
       | [], h => simp at h
       | [x], h => simp at h
       | x :: y :: r, h => simp only [List.length_cons]; omega
     · split
       · rename_i h
         refine Nat.le_trans (hexW_len _ _ _ _) ?_; rw [List.length_drop]
         cases l with
         | nil => simp at h
         | cons => simp only [List.length_cons]; omega
       · exact Nat.zero_le _
 · exact Nat.zero_le _
end Go.Proofs.YtpiomapnmempoaaGreat
