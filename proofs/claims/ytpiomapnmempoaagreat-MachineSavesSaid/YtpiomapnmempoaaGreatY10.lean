/- Parts of the proof: Dpk, Scp, Scn. -/
import Derived.Test.YtpiomapnmempoaaGreatY08
import Derived.Test.YtpiomapnmempoaaGreatY09
namespace Go.Proofs.YtpiomapnmempoaaGreat
open Go.RowKit
variable {w w0 : World} {hp : Nat} {M : List (Nat × List C)} {K : List (Nat × Obj)}
theorem at_dsetK {L : List C} (A : Ats w0 w ((hp, L) :: M) K) (N : Nat) (ps : List (O × O)) (room : Nat) (D : DicAt L N (dcell ps room)) (h : ps.length < room) (hr : room ≤ 1000) (hf : ps.length < 256)
 (k v : O) {key : O} (hk : keyD L k = (key, 0)) (hmv : mayH L v = true) (hmk : mayH L key = true) :
 Calls Tryz.prog 38 #[ptr hp, (dicO N).val, k.val, v.val] w fun x w' => x = .returned (.int .i64 0) ∧ Ats w0 w' ((hp, L.set N (dcell (setK ps key v) room)) :: M) K := by
 obtain ⟨r, b, hP, hQ⟩ := place_at ps key v; refine at_dset A N ps room D (by omega) hr hf k v hk hmv hmk r b hP ?_
 rcases hQ with ⟨rfl, kk, u, h1, h2, -, -⟩ | ⟨rfl, -, h2, -⟩
 · exact .inl ⟨rfl, rfl, kk, u, h1, by rw [h2]⟩
 · exact .inr (.inl ⟨rfl, h, rfl, by rw [h2]⟩)
theorem at_dgetK {lk : Bool} {L : List C} (A : Ats w0 w M K) (hm : (hp, L) ∈ M) (N : Nat) (ps : List (O × O)) (room : Nat) (D : DicAt L N (dcellk lk ps room)) (h : ps.length ≤ room) (hr : room ≤ 1000) (hf : ps.length < 256)
 (k : O) {key : O} (hk : keyD L k = (key, 0)) (v : O) (e : Int) (hv : (getK ps key = some v ∧ e = 0) ∨ (getK ps key = none ∧ v = O.nil ∧ e = 9)) :
 Calls Tryz.prog 100 #[ptr hp, (dicO N).val, k.val] w fun x w' => x = .returned (.tuple #[v.val, .int .i64 e]) ∧ Ats w0 w' M K := by
 obtain ⟨r, b, hP, hQ⟩ := place_at ps key O.nil
 rcases hQ with ⟨rfl, kk, u, h1, -, -, h2⟩ | ⟨rfl, h2, -, -⟩
 · rcases hv with ⟨h3, rfl⟩ | ⟨h3, -⟩
   · obtain rfl : u = v := by rw [h2] at h3; exact Option.some.inj h3
     exact at_dgetSome A hm N ps room D h hr hf k hk r hP kk u h1
   · rw [h2] at h3; simp at h3
 · rcases hv with ⟨h3, -⟩ | ⟨-, rfl, rfl⟩
   · rw [h2] at h3; simp at h3
   · exact at_dgetNone A hm N ps room D h hr hf k hk r hP
abbrev opO (n : Int) : O := ⟨7, true, n, 0, 0, ⟨#[]⟩⟩
noncomputable def sysK (k : Nat) : List (O × O) := (List.range k).map fun (i : Nat) => (nameO (opN ((i : Int) + 1)), opO ((i : Int) + 1))
theorem sysK_length (k : Nat) : (sysK k).length = k := by simp [sysK]
theorem sysK_succ (k : Nat) : sysK (k + 1) = sysK k ++ [(nameO (opN ((k : Int) + 1)), opO ((k : Int) + 1))] := by simp [sysK, List.range_succ]
theorem opN_nat (k : Nat) : opN ((k : Int) + 1) = ⟨((opT.map Prod.snd).getD k []).toArray⟩ := by
 unfold opN; rw [show ((k : Int) + 1 - 1).toNat = k by omega]
theorem opN_size (k : Nat) : (opN ((k : Int) + 1)).size ≤ 100 := by
 rw [opN_nat, List.getD_eq_getElem?_getD, List.getElem?_map]
 cases h : opT[k]? with
 | none => simp [ByteArray.size]
 | some p => simpa [ByteArray.size] using opT_sizes p (List.mem_of_getElem? h)
theorem opN_inj {i j : Nat} (hi : i < 162) (hj : j < 162) (h : opN ((i : Int) + 1) = opN ((j : Int) + 1)) : i = j := by
 rw [opN_nat, opN_nat, ByteArray.mk.injEq] at h
 have hl : (opT.map Prod.snd).length = 162 := by rw [List.length_map, opT_length]
 have h2 := Array.toList_inj.2 h; simp only [List.getD_eq_getElem?_getD] at h2; rw [List.getElem?_eq_getElem (by omega), List.getElem?_eq_getElem (by omega)] at h2; simp only [Option.getD_some] at h2; exact (List.getElem_inj opT_apart).1 h2
theorem setK_new {ps : List (O × O)} {k v : O} (h : ∀ p ∈ ps, sameO p.1 k = false) : setK ps k v = ps ++ [(k, v)] := by
 induction ps with
 | nil => rfl
 | cons p ps ih =>
  unfold setK; rw [if_neg (by rw [h p (List.mem_cons_self ..)]; decide), ih fun x hx => h x (List.mem_cons_of_mem _ hx)]; rfl
theorem sysK_set (k : Nat) (hk : k < 162) : setK (sysK k) (nameO (opN ((k : Int) + 1))) (opO ((k : Int) + 1)) = sysK (k + 1) := by
 rw [sysK_succ]; refine setK_new fun p hp => ?_; obtain ⟨i, hi, rfl⟩ := List.mem_map.1 hp; have hi := List.mem_range.1 hi; simp only; rw [same_name]
 exact decide_eq_false fun e => by have := opN_inj (by omega) hk e; omega
theorem sysK_get (k i : Nat) (hi : i < k) (hk : k ≤ 162) : getK (sysK k) (nameO (opN ((i : Int) + 1))) = some (opO ((i : Int) + 1)) := by
 induction k with
 | zero => omega
 | succ k ih =>
  rw [← sysK_set k (by omega), get_set, same_name]
  by_cases e : i = k
  · subst e; simp
  · rw [if_neg]
    · exact ih (by omega) (by omega)
    · simp only [decide_eq_true_eq]; exact fun h => e (opN_inj (by omega) (by omega) h.symm)
theorem may_op (L : List C) (n : Int) (h1 : 1 ≤ n) (h2 : n ≤ 200) : mayH L (opO n) = true := by
 simp [mayH, held, mayO, eqO, bareO, O.nil]
 omega
noncomputable abbrev sysH (k : Nat) : List C := [dcell (sysK k) 162, dcell [] 200]
noncomputable abbrev sysL (lk : Bool) (ps : List (O × O)) : List C := [dcellk lk (sysK 162) 162, dcell ps 200]
theorem sys_1 : dictH [] 162 = ([dcell [] 162], dicO 0, 0) := dict_new [] 162 (by decide) (by decide) (by decide)
theorem sys_2 : dictH [dcell [] 162] 200 = (sysH 0, dicO 1, 0) := dict_new [dcell [] 162] 200 (by decide) (by decide) (by simp [used, C.size, dItems_length [] 162 (by simp)])
theorem sys_D (k : Nat) (hk : k ≤ 162) : DicAt (sysH k) 0 (dcell (sysK k) 162) := ⟨rfl, rfl, rfl, rfl, by rw [dItems_length _ _ (by rw [sysK_length]; exact hk)]; decide, by decide⟩
theorem sys_lock : lockH (sysH 162) (dicO 0) = (sysL true [], 0) := by
 unfold lockH; rw [show (dicO 0) = dicO ((0 : Nat) : Int) from rfl, (sys_D 162 (by decide)).find]; simp
def HeapS (w0 : World) (M : List (Nat × List C)) (K : List (Nat × Obj)) (hp : Nat) (W : World) : Prop := ∃ L, Ats w0 W ((hp, L) :: M) K
theorem HeapS.drew {W : World} (h : HeapS w0 M K hp W) : HeapS w0 M K hp W.drew := by
 obtain ⟨b, h⟩ := h; exact ⟨b, h.pure (Chg.refl NoB W).drew⟩
theorem HeapS.cells {g : Nat} {cs : Array Value} {T : TypeId} {fz : Nat × Nat} (W : World) (h : HeapS w0 M ((g, .cells cs T fz) :: K) hp W) (i : Nat) : W.cell? ⟨g, i, none⟩ = cs[i]? := by
 obtain ⟨b, h⟩ := h; exact cells_of (h.box _ (List.mem_cons_self ..)) i
set_option maxRecDepth 100000 in
set_option maxHeartbeats 4000000 in
theorem scp_new (A : Ats w0 w ((hp, []) :: M) K) :
 Calls Tryz.prog 23 #[ptr hp] w fun e w' => ∃ sp lb, e = .returned (.tuple #[ptr sp, .int .i64 0]) ∧
  Ats w0 w' ((hp, sysL true []) :: M) ((sp, .cells #[ptr hp, .slice (some ⟨lb, 0, none⟩) 2 2] 91) :: (lb, .cells (((dicO 0).cells ++ (dicO 1).cells).toArray) 49) :: K) := by
 go_enter Tryz.func23, Tryz.ntmps23
 go_wp2_with fail
 refine (at_copy A).mono ?_; rintro e w1 ⟨rfl, A1⟩; go_wp2_with fail
 refine (count_any w1).mono ?_; rintro e w2 ⟨rfl, X2⟩; have A2 := (A1.drop).pure X2; clear A A1 X2; go_wp2_with fail
 refine (at_dnew A2 162 sys_1).mono ?_; rintro e w3 ⟨rfl, A3⟩; go_wp2_with fail
 have A4 := A3.alloc (.cells #[.int .i64 10, .bool false, .int .i64 0, .int .i64 0, .int .i64 0, .string ⟨#[]⟩] 49); refine (at_dnew A4 200 sys_2).mono ?_; rintro e w4 ⟨rfl, A5⟩; clear A2 A3 A4; go_wp2_with fail
 have A6 := A5.alloc (.cells #[.int .i64 10, .bool false, .int .i64 1, .int .i64 0, .int .i64 0, .string ⟨#[]⟩] 49); clear A5; generalize hW : w4.alloc _ = w5 at *; clear hW; generalize w3.heap.size = da at *; generalize w4.heap.size = db at *
 go_loopw [7] (fun nv wr => ∃ k : Nat, k ≤ 162 ∧ nv = .int .i64 ((k : Int) + 1) ∧ Ats w0 wr ((hp, sysH k) :: M) ((db, obox (dicO 1)) :: (da, obox (dicO 0)) :: K)) (fun nv _ => 163 - (intOf nv).toNat)
 case atStart => exact ⟨0, by omega, rfl, A6⟩
 case round =>
  obtain ⟨k, hk, rfl, A7⟩ := hrel; clear A6; go_wp2_with fail
  refine (count_any wr).mono ?_; rintro e w6 ⟨rfl, X6⟩; have A8 := A7.pure X6; clear A7 X6
  by_cases hlt : k < 162
  · have hlt' : (k : Int) < 162 := by omega
    have h0k : (0 : Int) ≤ k := by omega
    have A9 := A8.perm (List.Perm.swap _ _ _); have HN := hid' (fun w => name_any ((k : Int) + 1) (by omega) (by omega) w); have hset := sysK_set k hlt; have hkey := key_name (sysH k) (opN ((k : Int) + 1)) false (opN_size k); have hmay := may_name (sysH k) (opN ((k : Int) + 1)) false (opN_size k); have hop := may_op (sysH k) ((k : Int) + 1) (by omega) (by omega); have hD := sys_D k (by omega); have hL : (sysK k).length = k := sysK_length k
    have HS := hid' (fun (w2 : World) (A2 : Ats w0 w2 ((hp, sysH k) :: M) ((da, obox (dicO 0)) :: (db, obox (dicO 1)) :: K)) => by
     have := at_dsetK A2 0 (sysK k) 162 hD (by omega) (by omega) (by omega) (nameO (opN ((k : Int) + 1))) (opO ((k : Int) + 1)) hkey hop hmay; rw [hset] at this
     exact this)
    clear hset hkey hmay hop hD hL; generalize opN ((k : Int) + 1) = nm at *
    have S0 : HeapS w0 M ((da, obox (dicO 0)) :: (db, obox (dicO 1)) :: K) hp w6 := ⟨_, A9⟩
    have RC := fun W => HeapS.cells (w0 := w0) (M := M) (K := (db, obox (dicO 1)) :: K) (hp := hp) (g := da) (cs := #[.int .i64 10, .bool false, .int .i64 0, .int .i64 0, .int .i64 0, .string ⟨#[]⟩]) (T := 49) (fz := (0, 0)) W; have lda := blk_lt (A9.box _ (List.mem_cons_self ..)); simp only at lda; have HA := hid' A9; have LS := hid' (fun W L (h : Ats w0 W ((hp, L) :: M) ((da, obox (dicO 0)) :: (db, obox (dicO 1)) :: K)) => h.perm (List.Perm.swap (db, obox (dicO 1)) (da, obox (dicO 0)) K)); clear A8 A9; generalize ((da, obox (dicO 0)) :: (db, obox (dicO 1)) :: K : List (Nat × Obj)) = K' at *; go_wp2_with fail
    go_region_held3 (fun W' => HeapS w0 M K' hp W') (first | assumption | (exact HeapS.drew (by assumption)) | (exact ⟨_, by assumption⟩))
     (first | (go_at_call 31; refine (HN.out _).mono ?_; rintro r w7 ⟨rfl, X7⟩; have A10 := HA.out.pure ((Chg.refl NoB w6).drew.trans X7)) | (go_at_call 38; refine (HS.out _ A10).mono ?_; rintro r w8 ⟨rfl, A11⟩))
    go_wp2_with fail
    go_roundw
    case rel => exact ⟨k + 1, by omega, by go_num, LS.out _ _ A11⟩
    case measure => simp [intOf]; omega
  · obtain rfl : k = 162 := by omega
    have R8 := cells_of (A8.box _ (List.mem_cons_of_mem _ (List.mem_cons_self ..))); have R9 := cells_of (A8.box _ (List.mem_cons_self ..)); have l8 := blk_lt (A8.box _ (List.mem_cons_of_mem _ (List.mem_cons_self ..))); have l9 := blk_lt (A8.box _ (List.mem_cons_self ..)); simp only at l8 l9; go_wp2_with fail
    refine (at_lock A8 _ sys_lock).mono ?_; rintro e w7 ⟨rfl, A9⟩; clear R8 R9 l8 l9 A8; have R8 := cells_of (A9.box _ (List.mem_cons_of_mem _ (List.mem_cons_self ..))); have R9 := cells_of (A9.box _ (List.mem_cons_self ..)); have l8 := blk_lt (A9.box _ (List.mem_cons_of_mem _ (List.mem_cons_self ..))); have l9 := blk_lt (A9.box _ (List.mem_cons_self ..)); simp only at l8 l9
    have A10 := (A9.keep (K' := K) ((List.sublist_cons_self _ _).trans (List.sublist_cons_self _ _)))
    go_wp2_with fail
    go_ret2
    have A11 := (A10.alloc (.cells #[.int .i64 10, .bool false, .int .i64 0, .int .i64 0, .int .i64 0, .string ⟨#[]⟩, .int .i64 10, .bool false, .int .i64 1, .int .i64 0, .int .i64 0, .string ⟨#[]⟩] 49)).alloc (.cells #[ptr hp, .slice (some ⟨w7.heap.size, 0, none⟩) 2 2] 91); simp only [World.size_alloc] at A11; exact ⟨_, _, rfl, A11⟩
end Go.Proofs.YtpiomapnmempoaaGreat
