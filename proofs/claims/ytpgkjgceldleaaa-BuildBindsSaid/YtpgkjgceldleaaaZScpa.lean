/- Scp, Scn, Sco -/
import Derived.Test.YtpgkjgceldleaaaZOps
import Derived.Test.YtpgkjgceldleaaaZDictc
import Derived.Test.YtpgkjgceldleaaaZDictb
import Derived.Test.YtpgkjgceldleaaaZHeapc
import Derived.Test.YtpgkjgceldleaaaZChar
/- The system's dictionary as plain data. -/
namespace Go.Proofs.Ytpgkjgceldleaaa
open Go.RowKit

abbrev opO (n : Int) : O := ⟨7, true, n, 0, 0, ⟨#[]⟩⟩
/-- The first k pairs of the system's dictionary. -/
noncomputable def sysK (k : Nat) : List (O × O) := (List.range k).map fun (i : Nat) => (nameO (opN ((i : Int) + 1)), opO ((i : Int) + 1))
theorem sysK_length (k : Nat) : (sysK k).length = k := by simp [sysK]
theorem sysK_succ (k : Nat) : sysK (k + 1) = sysK k ++ [(nameO (opN ((k : Int) + 1)), opO ((k : Int) + 1))] := by simp [sysK, List.range_succ]
theorem opN_nat (k : Nat) : opN ((k : Int) + 1) = ⟨((opT.map Prod.snd).getD k []).toArray⟩ := by
  unfold opN
  rw [show ((k : Int) + 1 - 1).toNat = k by omega]
theorem opN_size (k : Nat) : (opN ((k : Int) + 1)).size ≤ 100 := by
  rw [opN_nat, List.getD_eq_getElem?_getD, List.getElem?_map]
  cases h : opT[k]? with
  | none => simp [ByteArray.size]
  | some p => simpa [ByteArray.size] using opT_sizes p (List.mem_of_getElem? h)
theorem opN_inj {i j : Nat} (hi : i < 162) (hj : j < 162) (h : opN ((i : Int) + 1) = opN ((j : Int) + 1)) : i = j := by
  rw [opN_nat, opN_nat, ByteArray.mk.injEq] at h
  have hl : (opT.map Prod.snd).length = 162 := by rw [List.length_map, opT_length]
  have h2 := Array.toList_inj.2 h
  simp only [List.getD_eq_getElem?_getD] at h2
  rw [List.getElem?_eq_getElem (by omega), List.getElem?_eq_getElem (by omega)] at h2
  simp only [Option.getD_some] at h2
  exact (List.getElem_inj opT_apart).1 h2
theorem opN_add : opN 11 = ⟨#[97, 100, 100]⟩ := by
  have := opN_nat 10
  rw [List.getD_eq_getElem?_getD, List.getElem?_map, opT_add] at this
  exact this
theorem setK_new {ps : List (O × O)} {k v : O} (h : ∀ p ∈ ps, sameO p.1 k = false) : setK ps k v = ps ++ [(k, v)] := by
  induction ps with
  | nil => rfl
  | cons p ps ih =>
    unfold setK
    rw [if_neg (by rw [h p (List.mem_cons_self ..)]; decide), ih fun x hx => h x (List.mem_cons_of_mem _ hx)]
    rfl
theorem sysK_set (k : Nat) (hk : k < 162) : setK (sysK k) (nameO (opN ((k : Int) + 1))) (opO ((k : Int) + 1)) = sysK (k + 1) := by
  rw [sysK_succ]
  refine setK_new fun p hp => ?_
  obtain ⟨i, hi, rfl⟩ := List.mem_map.1 hp
  have hi := List.mem_range.1 hi
  simp only
  rw [same_name]
  exact decide_eq_false fun e => by have := opN_inj (by omega) hk e; omega
/-- What stands for an operator's name. -/
theorem sysK_get (k i : Nat) (hi : i < k) (hk : k ≤ 162) : getK (sysK k) (nameO (opN ((i : Int) + 1))) = some (opO ((i : Int) + 1)) := by
  induction k with
  | zero => omega
  | succ k ih =>
    rw [← sysK_set k (by omega), get_set, same_name]
    by_cases e : i = k
    · subst e; simp
    · rw [if_neg]
      · exact ih (by omega) (by omega)
      · simp only [decide_eq_true_eq]
        exact fun h => e (opN_inj (by omega) (by omega) h.symm)
theorem may_op (L : List C) (n : Int) (h1 : 1 ≤ n) (h2 : n ≤ 200) : mayH L (opO n) = true := by
  simp [mayH, held, mayO, eqO, bareO, O.nil]
  omega
/-- The heap while the system's dictionary is filled. -/
noncomputable abbrev sysH (k : Nat) : List C := [dcell (sysK k) 162, dcell [] 200]
/-- The heap of a new scope. -/
noncomputable abbrev sysL (lk : Bool) (ps : List (O × O)) : List C := [dcellk lk (sysK 162) 162, dcell ps 200]
theorem sys_1 : dictH [] 162 = ([dcell [] 162], dicO 0, 0) := dict_new [] 162 (by decide) (by decide) (by decide)
theorem sys_2 : dictH [dcell [] 162] 200 = (sysH 0, dicO 1, 0) := dict_new [dcell [] 162] 200 (by decide) (by decide) (by simp [used, C.size, dItems_length [] 162 (by simp)])
theorem sys_D (k : Nat) (hk : k ≤ 162) : DicAt (sysH k) 0 (dcell (sysK k) 162) := ⟨rfl, rfl, rfl, rfl, by rw [dItems_length _ _ (by rw [sysK_length]; exact hk)]; decide, by decide⟩
theorem sys_lock : lockH (sysH 162) (dicO 0) = (sysL true [], 0) := by
  unfold lockH
  rw [show (dicO 0) = dicO ((0 : Nat) : Int) from rfl, (sys_D 162 (by decide)).find]
  simp
end Go.Proofs.Ytpgkjgceldleaaa
/- Walk: scope.New. -/
namespace Go.Proofs.Ytpgkjgceldleaaa
open Go.RowKit

/-- A heap, and boxes. -/
def HeapS (w0 : World) (M : List (Nat × List C)) (K : List (Nat × Obj)) (hp : Nat) (W : World) : Prop := ∃ L, Ats w0 W ((hp, L) :: M) K
theorem HeapS.drew {w0 : World} {M : List (Nat × List C)} {K : List (Nat × Obj)} {hp : Nat} {W : World} (h : HeapS w0 M K hp W) : HeapS w0 M K hp W.drew := by
  obtain ⟨b, h⟩ := h
  exact ⟨b, h.pure (Chg.refl NoB W).drew⟩
theorem HeapS.cells {w0 : World} {M : List (Nat × List C)} {K : List (Nat × Obj)} {hp g : Nat} {cs : Array Value} {T : TypeId} {fz : Nat × Nat} (W : World) (h : HeapS w0 M ((g, .cells cs T fz) :: K) hp W) (i : Nat) : W.cell? ⟨g, i, none⟩ = cs[i]? := by
  obtain ⟨b, h⟩ := h
  exact cells_of (h.box _ (List.mem_cons_self ..)) i

set_option maxRecDepth 100000 in
set_option maxHeartbeats 4000000 in
theorem scp_new {w0 w : World} {hp : Nat} {M : List (Nat × List C)} {K : List (Nat × Obj)} (A : Ats w0 w ((hp, []) :: M) K) :
    Calls Try.prog 8 #[ptr hp] w fun e w' => ∃ sp lb, e = .returned (.tuple #[ptr sp, .int .i64 0]) ∧
      Ats w0 w' ((hp, sysL true []) :: M) ((sp, .cells #[ptr hp, .slice (some ⟨lb, 0, none⟩) 2 2] 67) :: (lb, .cells (((dicO 0).cells ++ (dicO 1).cells).toArray) 36) :: K) := by
  go_enter Try.func8, Try.ntmps8
  go_wp2_with fail
  refine (at_copy A).mono ?_
  rintro e w1 ⟨rfl, A1⟩
  go_wp2_with fail
  refine (count_any w1).mono ?_
  rintro e w2 ⟨rfl, X2⟩
  have A2 := (A1.drop).pure X2
  clear A A1 X2
  go_wp2_with fail
  refine (at_dnew A2 162 sys_1).mono ?_
  rintro e w3 ⟨rfl, A3⟩
  go_wp2_with fail
  have A4 := A3.alloc (.cells #[.int .i64 10, .bool false, .int .i64 0, .int .i64 0, .int .i64 0, .string ⟨#[]⟩] 36)
  refine (at_dnew A4 200 sys_2).mono ?_
  rintro e w4 ⟨rfl, A5⟩
  clear A2 A3 A4
  go_wp2_with fail
  have A6 := A5.alloc (.cells #[.int .i64 10, .bool false, .int .i64 1, .int .i64 0, .int .i64 0, .string ⟨#[]⟩] 36)
  clear A5
  generalize hW : w4.alloc _ = w5 at *
  clear hW
  generalize w3.heap.size = da at *
  generalize w4.heap.size = db at *
  go_loopw [7] (fun nv wr => ∃ k : Nat, k ≤ 162 ∧ nv = .int .i64 ((k : Int) + 1) ∧ Ats w0 wr ((hp, sysH k) :: M) ((db, obox (dicO 1)) :: (da, obox (dicO 0)) :: K)) (fun nv _ => 163 - (intOf nv).toNat)
  case atStart => exact ⟨0, by omega, rfl, A6⟩
  case round =>
    obtain ⟨k, hk, rfl, A7⟩ := hrel
    clear A6
    go_wp2_with fail
    refine (count_any wr).mono ?_
    rintro e w6 ⟨rfl, X6⟩
    have A8 := A7.pure X6
    clear A7 X6
    by_cases hlt : k < 162
    · have hlt' : (k : Int) < 162 := by omega
      have h0k : (0 : Int) ≤ k := by omega
      have A9 := A8.perm (List.Perm.swap _ _ _)
      have HN := hid' (fun w => name_any ((k : Int) + 1) (by omega) (by omega) w)
      have hset := sysK_set k hlt
      have hkey := key_name (sysH k) (opN ((k : Int) + 1)) false (opN_size k)
      have hmay := may_name (sysH k) (opN ((k : Int) + 1)) false (opN_size k)
      have hop := may_op (sysH k) ((k : Int) + 1) (by omega) (by omega)
      have hD := sys_D k (by omega)
      have hL : (sysK k).length = k := sysK_length k
      have HS := hid' (fun (w2 : World) (A2 : Ats w0 w2 ((hp, sysH k) :: M) ((da, obox (dicO 0)) :: (db, obox (dicO 1)) :: K)) => by
        have := at_dsetK A2 0 (sysK k) 162 hD (by omega) (by omega) (by omega) (nameO (opN ((k : Int) + 1))) (opO ((k : Int) + 1)) hkey hop hmay
        rw [hset] at this
        exact this)
      clear hset hkey hmay hop hD hL
      generalize opN ((k : Int) + 1) = nm at *
      have S0 : HeapS w0 M ((da, obox (dicO 0)) :: (db, obox (dicO 1)) :: K) hp w6 := ⟨_, A9⟩
      have RC := fun W => HeapS.cells (w0 := w0) (M := M) (K := (db, obox (dicO 1)) :: K) (hp := hp) (g := da) (cs := #[.int .i64 10, .bool false, .int .i64 0, .int .i64 0, .int .i64 0, .string ⟨#[]⟩]) (T := 36) (fz := (0, 0)) W
      have lda := blk_lt (A9.box _ (List.mem_cons_self ..))
      simp only at lda
      have HA := hid' A9
      have LS := hid' (fun W L (h : Ats w0 W ((hp, L) :: M) ((da, obox (dicO 0)) :: (db, obox (dicO 1)) :: K)) => h.perm (List.Perm.swap (db, obox (dicO 1)) (da, obox (dicO 0)) K))
      clear A8 A9
      generalize ((da, obox (dicO 0)) :: (db, obox (dicO 1)) :: K : List (Nat × Obj)) = K' at *
      go_wp2_with fail
      go_region_held3 (fun W' => HeapS w0 M K' hp W') (first | assumption | (exact HeapS.drew (by assumption)) | (exact ⟨_, by assumption⟩))
        (first | (go_at_call 15; refine (HN.out _).mono ?_; rintro r w7 ⟨rfl, X7⟩; have A10 := HA.out.pure ((Chg.refl NoB w6).drew.trans X7)) | (go_at_call 27; refine (HS.out _ A10).mono ?_; rintro r w8 ⟨rfl, A11⟩))
      go_wp2_with fail
      go_roundw
      case rel => exact ⟨k + 1, by omega, by go_num, LS.out _ _ A11⟩
      case measure => simp [intOf]; omega
    · obtain rfl : k = 162 := by omega
      have R8 := cells_of (A8.box _ (List.mem_cons_of_mem _ (List.mem_cons_self ..)))
      have R9 := cells_of (A8.box _ (List.mem_cons_self ..))
      have l8 := blk_lt (A8.box _ (List.mem_cons_of_mem _ (List.mem_cons_self ..)))
      have l9 := blk_lt (A8.box _ (List.mem_cons_self ..))
      simp only at l8 l9
      go_wp2_with fail
      refine (at_lock A8 _ sys_lock).mono ?_
      rintro e w7 ⟨rfl, A9⟩
      clear R8 R9 l8 l9 A8
      have R8 := cells_of (A9.box _ (List.mem_cons_of_mem _ (List.mem_cons_self ..)))
      have R9 := cells_of (A9.box _ (List.mem_cons_self ..))
      have l8 := blk_lt (A9.box _ (List.mem_cons_of_mem _ (List.mem_cons_self ..)))
      have l9 := blk_lt (A9.box _ (List.mem_cons_self ..))
      simp only at l8 l9
      have A10 := (A9.keep (K' := K) ((List.sublist_cons_self _ _).trans (List.sublist_cons_self _ _)))
      go_wp2_with fail
      go_ret2
      have A11 := (A10.alloc (.cells #[.int .i64 10, .bool false, .int .i64 0, .int .i64 0, .int .i64 0, .string ⟨#[]⟩, .int .i64 10, .bool false, .int .i64 1, .int .i64 0, .int .i64 0, .string ⟨#[]⟩] 36)).alloc (.cells #[ptr hp, .slice (some ⟨w7.heap.size, 0, none⟩) 2 2] 67)
      simp only [World.size_alloc] at A11
      exact ⟨_, _, rfl, A11⟩
end Go.Proofs.Ytpgkjgceldleaaa
/- Walks: scope's dictionary, Begin, End, Depth, Def. -/
namespace Go.Proofs.Ytpgkjgceldleaaa
open Go.RowKit

abbrev scpBox (hp g n cap : Nat) : Obj := .cells #[ptr hp, .slice (some ⟨g, 0, none⟩) n cap] 67
/-- A scope: its dictionaries. -/
def ScpAt (w0 w : World) (M : List (Nat × List C)) (K : List (Nat × Obj)) (sp hp : Nat) (ds : List O) : Prop :=
  ∃ g cap cur, ds.length ≤ cap ∧ cap ≤ maxLen ∧ cur.size = cap * 6 ∧ cur.toList.take (ds.length * 6) = ds.flatMap O.cells ∧ Ats w0 w M ((g, .cells cur 36) :: (sp, scpBox hp g ds.length cap) :: K)
def dictE (L : List C) (d : O) : Int := if d.kind = 10 then if mayH L d = true then 0 else 1 else 6
theorem HeapS.cellsOf {w0 : World} {M : List (Nat × List C)} {K : List (Nat × Obj)} {hp g : Nat} {cs : Array Value} {T : TypeId} {fz : Nat × Nat} (h : (g, Obj.cells cs T fz) ∈ K) : ∀ W, HeapS w0 M K hp W → ∀ i, W.cell? ⟨g, i, none⟩ = cs[i]? := by
  rintro W ⟨L, A⟩ i
  exact cells_of (A.box _ h) i
theorem ScpAt.parts {w0 w : World} {M : List (Nat × List C)} {K : List (Nat × Obj)} {sp hp : Nat} {ds : List O} (S : ScpAt w0 w M K sp hp ds) :
    ∃ g cap cur, RowG 36 6 [(g, .cells cur 36)] (.slice (some ⟨g, 0, none⟩) ds.length cap) ds.length (ds.flatMap O.cells) ∧ Ats w0 w M ([(g, .cells cur 36)] ++ (sp, scpBox hp g ds.length cap) :: K) ∧ ds.length ≤ cap := by
  obtain ⟨g, cap, cur, h1, h2, h3, h4, A⟩ := S
  exact ⟨g, cap, cur, .inr ⟨g, cap, cur, rfl, rfl, h1, h2, h3, h4, flat_length O.cells 6 cells_length ds⟩, A, h1⟩
theorem ScpAt.mk' {w0 w : World} {M : List (Nat × List C)} {K R : List (Nat × Obj)} {sp hp g n cap : Nat} {ds : List O} (hn : ds.length = n) (h0 : 0 < n) (hR : RowG 36 6 R (.slice (some ⟨g, 0, none⟩) n cap) n (ds.flatMap O.cells))
    (A : Ats w0 w M (R ++ (sp, scpBox hp g n cap) :: K)) : ScpAt w0 w M K sp hp ds := by
  subst hn
  rcases hR with ⟨e, -⟩ | ⟨g', cap', cur, e, rfl, h1, h2, h3, h4, -⟩
  · simp at e
  · simp only [Value.slice.injEq, Option.some.injEq, Addr.mk.injEq, and_true, true_and] at e
    obtain ⟨rfl, rfl⟩ := e
    exact ⟨g, cap, cur, h1, h2, h3, h4, A⟩
theorem ScpAt.pure {w0 w w' : World} {M : List (Nat × List C)} {K : List (Nat × Obj)} {sp hp : Nat} {ds : List O} (S : ScpAt w0 w M K sp hp ds) (X : Chg NoB w w') : ScpAt w0 w' M K sp hp ds := by
  obtain ⟨g, cap, cur, h1, h2, h3, h4, A⟩ := S
  exact ⟨g, cap, cur, h1, h2, h3, h4, A.pure X⟩
theorem cells6 (w : World) (x : O) (j : Nat) (u : Value) (h : x.cells[j]? = some u) : ((w.alloc (.cells x.cells.toArray 36)).drew).cell? ((⟨w.heap.size, 0, none⟩ : Addr).add j) = some u := by
  have := World.news_of_block (w := (w.alloc (.cells x.cells.toArray 36)).drew) (B := w.heap.size) (cs := x.cells.toArray) (t := 36) (fr := (0, 0)) (blk_drew (blk_new w _)) j u (by simpa using h)
  exact this
theorem one6 (x : O) : ∀ u ∈ x.cells, u.oneCell' = true := by
  intro u hu
  simp only [O.cells, List.mem_cons, List.not_mem_nil, or_false] at hu
  rcases hu with rfl | rfl | rfl | rfl | rfl | rfl <;> rfl
theorem last_cells (ds : List O) (d : O) (n _cap : Nat) (cur : Array Value) (hn : ds.length = n) (h4 : cur.toList.take ((n + 1) * 6) = (ds ++ [d]).flatMap O.cells) (j : Nat) (hj : j < 6) : cur[n * 6 + j]? = d.cells[j]? := by
  have h : (cur.toList.take ((n + 1) * 6))[n * 6 + j]? = cur.toList[n * 6 + j]? := List.getElem?_take_of_lt (by rw [Nat.succ_mul]; omega)
  rw [← Array.getElem?_toList, ← h, h4, flat_get O.cells 6 cells_length j hj, List.getElem?_append_right (by omega), hn, Nat.sub_self]
  rfl
set_option maxRecDepth 100000 in
set_option maxHeartbeats 2000000 in
theorem scp_def {w0 w : World} {M : List (Nat × List C)} {K : List (Nat × Obj)} {sp hp : Nat} {ds : List O} {d : O} {L L' : List C} {e : Int} (S : ScpAt w0 w ((hp, L) :: M) K sp hp (ds ++ [d])) (hl : ds.length ≤ 1000) (k v : O)
    (HS : ∀ w2 K2, Ats w0 w2 ((hp, L) :: M) K2 → Calls Try.prog 27 #[ptr hp, d.val, k.val, v.val] w2 fun x w' => x = .returned (.int .i64 e) ∧ Ats w0 w' ((hp, L') :: M) K2) :
    Calls Try.prog 17 #[ptr sp, k.val, v.val] w fun x w' => x = .returned (.int .i64 e) ∧ ScpAt w0 w' ((hp, L') :: M) K sp hp (ds ++ [d]) := by
  obtain ⟨n, hn⟩ : ∃ n, ds.length = n := ⟨_, rfl⟩
  obtain ⟨g, cap, cur, h1, h2, h3, h4, A⟩ := S
  have hnn : (ds ++ [d]).length = n + 1 := by simp [hn]
  rw [hnn] at h1 h4 A
  have q := last_cells ds d n cap cur hn h4
  have q0 := q 0 (by decide)
  have q1 := q 1 (by decide)
  have q2 := q 2 (by decide)
  have q3 := q 3 (by decide)
  have q4 := q 4 (by decide)
  have q5 := q 5 (by decide)
  clear q
  have HB := hid' (fun w' (A' : Ats w0 w' ((hp, L') :: M) ((g, .cells cur 36) :: (sp, scpBox hp g (n + 1) cap) :: K)) => (⟨g, cap, cur, by rw [hnn]; exact h1, h2, h3, by rw [hnn]; exact h4, by rw [hnn]; exact A'⟩ : ScpAt w0 w' ((hp, L') :: M) K sp hp (ds ++ [d])))
  have hn2 : (n : Int) ≤ 1000 := by omega
  have hnc : (n : Int) < cap := by omega
  have h0n : (0 : Int) ≤ n := by omega
  have hnl : (n : Int) < (n : Int) + 1 := by omega
  have hwn : IntKind.i64.wrap (n : Int) = n := IntWalk.i64_in _ (by omega)
  have hidx : n * 6 + 6 ≤ cur.size := by rw [h3]; have := Nat.mul_le_mul_right 6 h1; rw [Nat.succ_mul] at this; exact this
  clear h2 h3 h4 hn hl hnn
  obtain ⟨dk, dx, dn, dp, dl, dS⟩ := d
  obtain ⟨kk, kx, kn, kp, kl, ks⟩ := k
  obtain ⟨vk, vx, vn, vp, vl, vs⟩ := v
  simp only [O.cells, List.getElem?_cons_zero, List.getElem?_cons_succ, Nat.add_zero] at q0 q1 q2 q3 q4 q5
  have A1 := (A.alloc (.cells #[.int .i64 kk, .bool kx, .int .i64 kn, .int .i64 kp, .int .i64 kl, .string ks] 36)).alloc (.cells #[.int .i64 vk, .bool vx, .int .i64 vn, .int .i64 vp, .int .i64 vl, .string vs] 36)
  simp only [World.size_alloc] at A1
  have R1 := HeapS.cellsOf (w0 := w0) (M := M) (hp := hp) (List.mem_cons_self (a := (w.heap.size + 1, Obj.cells #[.int .i64 vk, .bool vx, .int .i64 vn, .int .i64 vp, .int .i64 vl, .string vs] 36)) (l := (w.heap.size, Obj.cells #[.int .i64 kk, .bool kx, .int .i64 kn, .int .i64 kp, .int .i64 kl, .string ks] 36) :: (g, .cells cur 36) :: (sp, scpBox hp g (n + 1) cap) :: K))
  have R2 := HeapS.cellsOf (w0 := w0) (M := M) (hp := hp) (m1 (a := (w.heap.size, Obj.cells #[.int .i64 kk, .bool kx, .int .i64 kn, .int .i64 kp, .int .i64 kl, .string ks] 36)) (b := (w.heap.size + 1, Obj.cells #[.int .i64 vk, .bool vx, .int .i64 vn, .int .i64 vp, .int .i64 vl, .string vs] 36)) (l := (g, .cells cur 36) :: (sp, scpBox hp g (n + 1) cap) :: K))
  have R3 := HeapS.cellsOf (w0 := w0) (M := M) (hp := hp) (m2 (a := (g, .cells cur 36)) (b := (w.heap.size + 1, Obj.cells #[.int .i64 vk, .bool vx, .int .i64 vn, .int .i64 vp, .int .i64 vl, .string vs] 36)) (c := (w.heap.size, Obj.cells #[.int .i64 kk, .bool kx, .int .i64 kn, .int .i64 kp, .int .i64 kl, .string ks] 36)) (l := (sp, scpBox hp g (n + 1) cap) :: K))
  have R4 := HeapS.cellsOf (w0 := w0) (M := M) (hp := hp) (m3 (a := (sp, scpBox hp g (n + 1) cap)) (b := (w.heap.size + 1, Obj.cells #[.int .i64 vk, .bool vx, .int .i64 vn, .int .i64 vp, .int .i64 vl, .string vs] 36)) (c := (w.heap.size, Obj.cells #[.int .i64 kk, .bool kx, .int .i64 kn, .int .i64 kp, .int .i64 kl, .string ks] 36)) (d := (g, .cells cur 36)) (l := K))
  have l1 := blk_lt (A1.box _ m0)
  have l2 := blk_lt (A1.box _ m1)
  have l3 := blk_lt (A1.box _ m2)
  have l4 := blk_lt (A1.box _ m3)
  have LS := hid' (fun W (h : Ats w0 W ((hp, L') :: M) ((w.heap.size + 1, Obj.cells #[.int .i64 vk, .bool vx, .int .i64 vn, .int .i64 vp, .int .i64 vl, .string vs] 36) :: (w.heap.size, Obj.cells #[.int .i64 kk, .bool kx, .int .i64 kn, .int .i64 kp, .int .i64 kl, .string ks] 36) :: (g, .cells cur 36) :: (sp, scpBox hp g (n + 1) cap) :: K)) => HB.out W (h.keep ((List.sublist_cons_self _ _).trans (List.sublist_cons_self _ _))))
  have HS := hid' (fun w2 => HS w2 ((w.heap.size + 1, Obj.cells #[.int .i64 vk, .bool vx, .int .i64 vn, .int .i64 vp, .int .i64 vl, .string vs] 36) :: (w.heap.size, Obj.cells #[.int .i64 kk, .bool kx, .int .i64 kn, .int .i64 kp, .int .i64 kl, .string ks] 36) :: (g, .cells cur 36) :: (sp, scpBox hp g (n + 1) cap) :: K))
  simp only at l1 l2 l3 l4
  clear A HB
  generalize ((w.heap.size + 1, Obj.cells #[.int .i64 vk, .bool vx, .int .i64 vn, .int .i64 vp, .int .i64 vl, .string vs] 36) :: (w.heap.size, Obj.cells #[.int .i64 kk, .bool kx, .int .i64 kn, .int .i64 kp, .int .i64 kl, .string ks] 36) :: (g, .cells cur 36) :: (sp, scpBox hp g (n + 1) cap) :: K : List (Nat × Obj)) = K' at *
  have S1 : HeapS w0 M K' hp ((w.alloc (.cells #[.int .i64 kk, .bool kx, .int .i64 kn, .int .i64 kp, .int .i64 kl, .string ks] 36)).alloc (.cells #[.int .i64 vk, .bool vx, .int .i64 vn, .int .i64 vp, .int .i64 vl, .string vs] 36)) := ⟨_, A1⟩
  have HA := hid' A1
  clear A1
  go_enter Try.func17, Try.ntmps17
  go_wp2_with fail
  generalize hW : (w.alloc _).alloc _ = w1 at *
  clear hW
  go_region_held3 (fun W' => HeapS w0 M K' hp W') (first | assumption | (exact HeapS.drew (by assumption)) | (exact ⟨_, by assumption⟩))
    ((go_at_call 27; refine (HS.out _ (by first | exact HA.out | exact HA.out.drew)).mono ?_; rintro r w4 ⟨rfl, A4⟩))
  go_wp2_with fail
  go_ret
  exact ⟨rfl, LS.out _ A4⟩
end Go.Proofs.Ytpgkjgceldleaaa
