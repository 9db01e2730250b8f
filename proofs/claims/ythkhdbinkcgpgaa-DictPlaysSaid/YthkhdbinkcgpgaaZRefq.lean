/- Smo, Rkg -/
import Derived.Test.YthkhdbinkcgpgaaZRefp
import Derived.Test.YthkhdbinkcgpgaaZRefj
import Derived.Test.YthkhdbinkcgpgaaZHplaya
import Derived.Test.YthkhdbinkcgpgaaZDictb
import Derived.BigQuiet
/- tympanhelp.Same of two slices of objects, wherever they begin; Pairs of both dictionaries. -/
namespace Go.Proofs.Ythkhdbinkcgpgaa
open Go.RowKit

/-- A slice of objects that w holds, wherever it begins. -/
def RowAt (w : World) (v : Value) (n : Nat) (xs : List O) : Prop :=
  ∃ a c, v = .slice a n c ∧ n ≤ c ∧ (0 < n → ∃ g off cur fz, a = some ⟨g, off, none⟩ ∧ w.heap[g]? = some (.cells cur 24 fz) ∧ ∀ m o, xs[m]? = some o → ∀ j, j < 6 → cur[off + m * 6 + j]? = o.cells[j]?)
set_option maxRecDepth 100000 in
theorem same_at (w : World) (va vb : Value) (n : Nat) (xs : List O) (hn : xs.length = n) (hn9 : n ≤ 100000) (ha : RowAt w va n xs) (hb : RowAt w vb n xs) :
    Calls Try.prog 39 #[va, vb] w fun e w' => e = .returned (.bool true) ∧ Chg NoB w w' := by
  obtain ⟨a, c, rfl, hac, hra⟩ := ha
  obtain ⟨b, d, rfl, hbd, hrb⟩ := hb
  have HRA := hid' hra
  have HRB := hid' hrb
  have HN := hid' hn
  clear hra hrb hn
  go_enter Try.func39, Try.ntmps39
  go_wp2_with fail
  go_loopw [5] (fun cv wr => ∃ k : Nat, k ≤ n ∧ cv = .int .i64 k ∧ Chg NoB w wr) (fun cv _ => n - (intOf cv).toNat)
  case atStart => exact ⟨0, Nat.zero_le _, rfl, Chg.refl _ _⟩
  case round =>
    obtain ⟨k, hk, rfl, X⟩ := hrel
    by_cases hlt : k < n
    · obtain ⟨g, off, cur, fz, rfl, hg, hc⟩ := HRA.out (by omega)
      obtain ⟨g', off', cur', fz', rfl, hg', hc'⟩ := HRB.out (by omega)
      have hkl : k < xs.length := by rw [HN.out]; exact hlt
      have ho : xs[k]? = some xs[k] := List.getElem?_eq_getElem hkl
      have Q := hc k _ ho
      have Q' := hc' k _ ho
      have R1 := cells_of (X.blk hg id)
      have R2 := cells_of (X.blk hg' id)
      have l1 := blk_lt (X.blk hg id)
      have l2 := blk_lt (X.blk hg' id)
      generalize xs[k] = o at *
      have qe : eqO o o = true := eqO_self _
      obtain ⟨kk, kx, kn, kp, kl, ks⟩ := o
      have q0 := Q 0 (by decide)
      have q1 := Q 1 (by decide)
      have q2 := Q 2 (by decide)
      have q3 := Q 3 (by decide)
      have q4 := Q 4 (by decide)
      have q5 := Q 5 (by decide)
      have p0 := Q' 0 (by decide)
      have p1 := Q' 1 (by decide)
      have p2 := Q' 2 (by decide)
      have p3 := Q' 3 (by decide)
      have p4 := Q' 4 (by decide)
      have p5 := Q' 5 (by decide)
      simp only [O.cells, List.getElem?_cons_zero, List.getElem?_cons_succ, Nat.add_zero] at q0 q1 q2 q3 q4 q5 p0 p1 p2 p3 p4 p5
      have vk := IntWalk.i64_in ((k : Int) + 1) (by omega)
      have dl : (k : Int) < n := by omega
      have dc : (n : Int) ≤ c := by omega
      have dd : (n : Int) ≤ d := by omega
      clear Q Q' hc hc' ho hg hg'
      go_wp2_with fail
      go_quiet (fail)
      go_wp2_with fail
      go_roundw
      case rel => exact ⟨k + 1, by omega, by go_num, X.drewN _⟩
      case measure => simp [intOf]; omega
    · obtain rfl : k = n := by omega
      go_wp2_with fail
      go_ret
      exact ⟨rfl, X⟩
/-- The pairs' part of a dictionary's items. -/
theorem pairs_at (ps : List (O × O)) (room : Nat) (_h : ps.length ≤ room) (m : Nat) (o : O) (hm : (pairsL ps)[m]? = some o) : (dItems ps room)[m + 1]? = some o := by
  unfold dItems
  have hl := (List.getElem?_eq_some_iff.1 hm).1
  rw [List.getElem?_cons_succ, List.getElem?_append_left hl]
  exact hm
/-- A row of a dictionary's items, from its second item on. -/
theorem row_pairs {w : World} {g : Nat} {cur : Array Value} {fz : Nat × Nat} {ps : List (O × O)} {room : Nat} (h : ps.length ≤ room) (hb : w.heap[g]? = some (.cells cur 24 fz)) (hc : ∀ i, i < (dItems ps room).length * 6 → cur[i]? = ((dItems ps room).flatMap O.cells)[i]?)
    {a : Option Addr} {c : Nat} (hcap : 2 * ps.length ≤ c) (ha : 0 < 2 * ps.length → a = some ⟨g, 6, none⟩) : RowAt w (.slice a (2 * ps.length) c) (2 * ps.length) (pairsL ps) := by
  refine ⟨a, c, rfl, hcap, fun hp => ⟨g, 6, cur, fz, ha hp, hb, fun m o hm j hj => ?_⟩⟩
  have h1 := pairs_at ps room h m o hm
  have h2 := (List.getElem?_eq_some_iff.1 h1).1
  rw [show 6 + m * 6 + j = (m + 1) * 6 + j by omega, hc _ (by omega), flat_at _ _ j o h1 hj]
theorem RowAt.pure {w w' : World} {v : Value} {n : Nat} {xs : List O} (h : RowAt w v n xs) (X : Chg NoB w w') : RowAt w' v n xs := by
  obtain ⟨a, c, h1, h2, h3⟩ := h
  refine ⟨a, c, h1, h2, fun hp => ?_⟩
  obtain ⟨g, off, cur, fz, h4, h5, h6⟩ := h3 hp
  exact ⟨g, off, cur, fz, h4, X.blk h5 id, h6⟩
end Go.Proofs.Ythkhdbinkcgpgaa
/- Pairs of both dictionaries: what they tell, among boxes. -/
namespace Go.Proofs.Ythkhdbinkcgpgaa
open Go.RowKit

/-- A slice of objects that lies in a box. -/
def RowB (R : List (Nat × Obj)) (v : Value) (n : Nat) (xs : List O) : Prop := ∀ W : World, (∀ q ∈ R, W.heap[q.1]? = some q.2) → RowAt W v n xs
set_option maxRecDepth 100000 in
set_option maxHeartbeats 2000000 in
theorem rpairs12_any {lk : Bool} {J0 : List (Nat × Obj)} {w0 w : World} {M : List (Nat × List C)} {E K : List (Nat × Obj)} {gp : Nat} {L : List C} (H : RefK J0 gp L E) (A : Ats w0 w M K) (hE : ∀ q ∈ E, q ∈ K) (N : Nat) (ps : List (O × O)) (room : Nat) (D : DicAt L N (dcellk lk ps room)) (h : ps.length ≤ room) (hr : room ≤ 1000) :
    Calls Try.prog 36 #[ptr gp, (dicO N).val] w fun r w' => ∃ v, r = .returned (.tuple #[v, .int .i64 0]) ∧ ∃ R, RowB R v (2 * ps.length) (pairsL ps) ∧ (∃ a c, v = .slice a (2 * ps.length) c) ∧ Ats w0 w' M (R ++ K) := by
  have hKK : ∀ a, ∀ q ∈ E, q ∈ a :: K := fun a q hq => List.mem_cons_of_mem _ (hE q hq)
  have HL := hid' (fun W a (A : Ats w0 W M (a :: K)) => rlen12_any H A (hKK a) N ps room D h hr)
  have HI := hid' (fun W a (A : Ats w0 W M (a :: K)) => ritems_any H A (hKK a) (dicO N) D.items)
  have hdl := dItems_length ps room h
  have A1 := A.alloc (Obj.cells #[.int .i64 10, .bool false, .int .i64 N, .int .i64 0, .int .i64 0, .string ⟨#[]⟩] 24)
  have HH := hid' h
  have HDL := hid' hdl
  obtain ⟨n, hn⟩ : ∃ n, ps.length = n := ⟨_, rfl⟩
  rw [hn] at HL h ⊢
  have HN := hid' hn
  have hn9 : (n : Int) ≤ 1000 := by omega
  have wr1 : IntKind.i64.wrap (2 * (n : Int)) = 2 * n := IntWalk.i64_in _ (by omega)
  have wr2 : IntKind.i64.wrap (2 * (n : Int) + 1) = 2 * (n : Int) + 1 := IntWalk.i64_in _ (by omega)
  clear hdl D hE hKK H hn
  go_enter Try.func36, Try.ntmps36
  go_wp2_with fail
  refine (HL.out _ _ A1).mono ?_
  rintro r w1 ⟨rfl, A2⟩
  clear A1
  (try clear Rk); (try clear yk); (try clear Zk)
  have Rk := cells_of (A2.box _ m0)
  have yk := blk_lt (A2.box _ m0)
  (try simp only at Rk yk)
  go_wp2_with fail
  refine (HI.out _ _ A2).mono ?_
  rintro r w2 ⟨v, rfl, R, hR, A3⟩
  have hR' := hR
  rcases hR' with ⟨-, h0, -⟩ | ⟨g, cap, cur, rfl, rfl, k1, k2, k3, k4, k5⟩
  · have h0' : (dItems ps room).length = 0 := h0
    rw [HDL.out] at h0'; omega
  have HK4 := hid' k4
  have k1 : (dItems ps room).length ≤ cap := k1
  rw [HDL.out] at k1
  have hsl : (dcellk lk ps room).items.length = 2 * room + 1 := HDL.out
  rw [hsl]
  clear k3 k4 k5 hR hsl
  obtain ⟨AD, hAD, e1⟩ : ∃ AD, (0 < 2 * n → AD = some (⟨g, 6, none⟩ : Addr)) ∧ ∀ W, (Instr.slice 33 (.slice (some ⟨g, 0, none⟩) (2 * room + 1) cap) (some (.int .i64 1)) (some (.int .i64 (2 * (n : Int) + 1))) none).run Try.prog W = .ok (.slice AD (2 * n) (cap - 1)) W := by
    refine ⟨if cap = 1 then some ⟨g, 0, none⟩ else some ⟨g, 6, none⟩, fun hp => by rw [if_neg (by omega)], fun W => ?_⟩
    rw [run_slice_lh (w := W) 33 (some ⟨g, 0, none⟩) _ cap (by rw [Try.elemObjs]; exact Try.underObjs) .i64 .i64 1 (2 * (n : Int) + 1) (by omega) (by omega) (by omega), Try.elemObjs, sizeOf_obj]
    simp only [Result.andThen_ok, sliced, Option.map_some]
    rw [show (2 * (n : Int) + 1).toNat - (1 : Int).toNat = 2 * n by omega]
    simp [Addr.add]
  go_wp2_with fail
  go_ret2
  refine ⟨_, rfl, [(g, Obj.cells cur 24)], ?_, ⟨_, _, rfl⟩, A3.keep ((List.sublist_cons_self _ _).cons_cons _)⟩
  intro W hW
  have hb := hW _ (List.mem_singleton.2 rfl)
  rw [← HN.out]
  have HNN := HN.out
  refine row_pairs HH.out hb (fun i hi => ?_) (by omega) (fun hp => hAD (by omega))
  have e4 : cur.toList.take ((dItems ps room).length * 6) = (dItems ps room).flatMap O.cells := HK4.out
  rw [HDL.out] at hi e4
  rw [← e4, List.getElem?_take, if_pos hi, Array.getElem?_toList]
set_option maxRecDepth 100000 in
set_option maxHeartbeats 4000000 in
theorem at_dpairsB {lk : Bool} {w0 w : World} {hp : Nat} {L : List C} {M : List (Nat × List C)} {K : List (Nat × Obj)} (A : Ats w0 w M K) (hm : (hp, L) ∈ M) (N : Nat) (ps : List (O × O)) (room : Nat) (D : DicAt L N (dcellk lk ps room)) (h : ps.length ≤ room) (hr : room ≤ 1000) :
    Calls Try.prog 35 #[ptr hp, (dicO N).val] w fun r w' => ∃ v, r = .returned (.tuple #[v, .int .i64 0]) ∧ ∃ R, RowB R v (2 * ps.length) (pairsL ps) ∧ (∃ a c, v = .slice a (2 * ps.length) c) ∧ Ats w0 w' M (R ++ K) := by
  by_cases h1 : 1 ≤ ps.length
  · refine (at_dpairs A hm N ps room D h hr h1).mono ?_
    rintro r w' ⟨g, cur, fz, rfl, A', hc⟩
    refine ⟨_, rfl, [(g, .cells cur 24 fz)], fun W hW => ?_, ⟨_, _, rfl⟩, A'⟩
    exact row_pairs h (hW _ (List.mem_singleton.2 rfl)) hc (Nat.le_refl _) (fun _ => rfl)
  · have h0 : ps = [] := List.eq_nil_of_length_eq_zero (by omega)
    subst h0
    have S1 := D.items
    have hdl := dItems_length [] room h
    have A1 := A.alloc (.cells #[.int .i64 10, .bool false, .int .i64 N, .int .i64 0, .int .i64 0, .string ⟨#[]⟩] 24)
    have HO := hid' (fun W a (A : Ats w0 W M (a :: K)) => at_dopen A hm N [] room D h hr)
    have HI := hid' (fun W a (A : Ats w0 W M (a :: K)) => at_items A _ S1 (by simp only [hdl]; omega) hm)
    simp only [List.length_nil] at HO ⊢
    clear S1 h1 D h
    go_enter Try.func35, Try.ntmps35
    go_wp2_with fail
    refine (HO.out _ _ A1).mono ?_
    rintro x w2 ⟨rfl, A2⟩
    clear A1
    (try clear Rk); (try clear yk); (try clear Zk)
    have Rk := cells_of (A2.box _ m0)
    have yk := blk_lt (A2.box _ m0)
    (try simp only at Rk yk)
    go_wp2_with fail
    refine (HI.out _ _ A2).mono ?_
    rintro x w3 ⟨g, cap, cur, fz, rfl, hcap, A3, RL⟩
    simp only [hdl] at hcap ⊢
    have hcap' : (1 : Int) ≤ (cap : Int) := by omega
    clear RL
    go_wp2_with fail
    go_ret2
    refine ⟨_, rfl, [], fun W hW => ⟨_, _, rfl, Nat.le_refl _, fun hp => absurd hp (by simp)⟩, ⟨_, _, rfl⟩, (A3.keep (List.sublist_cons_self _ _)).keep (List.sublist_cons_self _ _)⟩
end Go.Proofs.Ythkhdbinkcgpgaa
