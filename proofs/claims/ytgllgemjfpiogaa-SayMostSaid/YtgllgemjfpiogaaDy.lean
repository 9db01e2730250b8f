/- known of tympanlaw12. -/
import Derived.Test.YtgllgemjfpiogaaDp
namespace Go.Proofs.Ytgllgemjfpiogaa
open Go.RowKit

theorem at_hnew {w0 w : World} {M : List (Nat × List C)} {K : List (Nat × Obj)} (A : Ats w0 w M K) :
    Calls Try.prog 10 #[] w fun e w' => ∃ hp, e = .returned (ptr hp) ∧ Ats w0 w' ((hp, []) :: M) K :=
  (new_any w).mono fun e w' ⟨h1, h2⟩ => ⟨_, h1, h2 ▸ A.new⟩
abbrev nameO (s : ByteArray) : O := ⟨5, false, 0, 0, 0, s⟩
abbrev ka : ByteArray := ⟨#[97]⟩
theorem ka_list : ka.toList = [97] := by rw [ByteArray.toList_eq]
theorem k12_1 : dictH [] 1 = ([dcell [] 1], dicO 0, 0) := dict_new [] 1 (by decide) (by decide) (by decide)
theorem k12_2 : stringH [dcell [] 1] ka = ([dcell [] 1, txt [97]], ⟨8, false, 1, 0, 1, ⟨#[]⟩⟩, 0) := by
  have hs : ka.size = 1 := rfl
  unfold stringH
  rw [hs, if_neg (by omega), ka_list, add_fits _ _ (by simp) (by simp [used, C.size, dItems, pairsL])]
  simp [objOf, C.kind, C.size]
theorem k12_D1 : DicAt [dcell [] 1, txt [97]] 0 (dcell [] 1) := ⟨rfl, rfl, rfl, rfl, by decide, by decide⟩
theorem k12_D2 : DicAt [dcell [(nameO ka, numO 5)] 1, txt [97]] 0 (dcell [(nameO ka, numO 5)] 1) := ⟨rfl, rfl, rfl, rfl, by decide, by decide⟩
theorem k12_k1 : keyD [dcell [] 1, txt [97]] ⟨8, false, 1, 0, 1, ⟨#[]⟩⟩ = (nameO ka, 0) := by
  have := key_str [dcell [] 1, txt [97]] 1 ka false (by rw [ka_list]; rfl) (by decide) (by decide)
  rw [if_neg (by decide)] at this
  exact this
theorem place_nil (k : O) : PlaceS [] k 0 false := .inr ⟨rfl, rfl, fun j p h => by simp at h⟩
theorem place_one (s : ByteArray) (v : O) : PlaceS [(nameO s, v)] (nameO s) 0 true := .inl ⟨rfl, ⟨_, rfl, by rw [same_name]; simp⟩, fun j p h => absurd h (by omega)⟩
theorem place_num (s : ByteArray) (v : O) (n : Int) : PlaceS [(nameO s, v)] (numO n) 0 false := .inr ⟨rfl, rfl, fun j p h => by
  cases j with
  | zero => simp at h; subst h; exact same_name_num s n
  | succ j => simp at h⟩

set_option maxRecDepth 100000 in
set_option maxHeartbeats 4000000 in
theorem known12_any (w : World) :
   Calls Try.prog 9 #[] w fun e w' => e = .returned (.bool true) ∧ Chg NoB w w' := by
  go_enter Try.func9, Try.ntmps9
  go_wp2_with fail
  refine (at_hnew (Ats.start (Chg.refl NoB w))).mono ?_
  rintro e w1 ⟨hp, rfl, A0⟩
  go_wp2_with fail
  refine (at_dnew A0 1 k12_1).mono ?_
  rintro e w2 ⟨rfl, A1⟩
  go_wp2_with fail
  refine (at_string (A1.alloc _) ka k12_2).mono ?_
  rintro e w3 ⟨rfl, A2⟩
  have R2 := cells_of (A2.box _ (List.mem_cons_self ..))
  have v2 := blk_lt (A2.box _ (List.mem_cons_self ..))
  simp only at v2
  clear A0 A1
  go_wp2_with fail
  have hs := at_dset (A2.alloc (.cells #[.int .i64 8, .bool false, .int .i64 1, .int .i64 0, .int .i64 1, .string ⟨#[]⟩] 28)) 0 [] 1 k12_D1 (by simp) (by omega) (by simp) ⟨8, false, 1, 0, 1, ⟨#[]⟩⟩ (numO 5) k12_k1 (may_num _ _ (by omega) (by omega)) (may_name _ _ _ (by decide)) 0 false (place_nil _)
    (L' := [dcell [(nameO ka, numO 5)] 1, txt [97]]) (e := 0) (.inr (.inl ⟨rfl, by simp, rfl, rfl⟩))
  refine hs.mono ?_
  rintro e w4 ⟨rfl, A3⟩
  clear hs R2 A2
  have R2 := cells_of (A3.box _ (List.mem_cons_of_mem _ (List.mem_cons_self ..)))
  have v2 := blk_lt (A3.box _ (List.mem_cons_of_mem _ (List.mem_cons_self ..)))
  simp only at v2
  go_wp2_with fail
  refine (at_dgetSome A3 (List.mem_cons_self ..) 0 _ 1 k12_D2 (by simp) (by omega) (by simp) (nameO ka) (key_name _ ka false (by decide)) 0 (place_one ka (numO 5)) _ (numO 5) rfl).mono ?_
  rintro e w5 ⟨rfl, A4⟩
  clear R2 A3
  have R2 := cells_of (A4.box _ (List.mem_cons_of_mem _ (List.mem_cons_self ..)))
  have v2 := blk_lt (A4.box _ (List.mem_cons_of_mem _ (List.mem_cons_self ..)))
  simp only at v2
  go_wp2_with fail
  have hs := at_dset (A4.alloc (.cells #[.int .i64 3, .bool false, .int .i64 5, .int .i64 0, .int .i64 0, .string ⟨#[]⟩] 28)) 0 _ 1 k12_D2 (by simp) (by omega) (by simp) (numO 5) (numO 5) (key_num _ 5 (by omega) (by omega)) (may_num _ _ (by omega) (by omega)) (may_num _ _ (by omega) (by omega)) 0 false (place_num ka (numO 5) 5)
    (e := 20) (.inr (.inr ⟨rfl, by simp, rfl, rfl⟩))
  refine hs.mono ?_
  rintro e w6 ⟨rfl, A5⟩
  go_wp2_with fail
  go_ret
  exact ⟨rfl, A5.chg⟩
end Go.Proofs.Ytgllgemjfpiogaa
