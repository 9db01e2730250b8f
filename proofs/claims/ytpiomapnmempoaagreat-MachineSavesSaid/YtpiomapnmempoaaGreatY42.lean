/- Parts of the proof: Umh. -/
import Derived.Test.YtpiomapnmempoaaGreatY15
namespace Go.Proofs.YtpiomapnmempoaaGreat
open Go.RowKit
def LC1 (w0 : World) (M : List (Nat × List C)) (KB : List (Nat × Obj)) (cp hp sp : Nat) (ds l : List O) (v : O) (e : Int) (s3 s4 : Value) (wx : World) : Prop :=
 s4 = .int .i64 e ∧ ∃ q, s3 = ptr q ∧ TabAt w0 wx M ((q, .cells v.cells.toArray 49) :: KB) cp hp sp ds l
set_option maxRecDepth 100000 in
set_option maxHeartbeats 4000000 in
theorem m_dict {w0 w : World} {M M' : List (Nat × List C)} {K : List (Nat × Obj)} {cp hp sp wb g : Nat} {ds l : List O} {a v : O} {cur : Array Value} {e : Int} (S : TabAt w0 w M ((wb, wkBox hp cp sp (.slice (some ⟨g, 0, none⟩) 1 1) (.slice none 0 0)) :: K) cp hp sp ds l) (hg : (g, .cells cur 49) ∈ K) (hc : cur.toList = [a].flatMap O.cells)
 (H : ∀ w' K', TabAt w0 w' M K' cp hp sp ds l → Calls Tryz.prog 35 #[ptr hp, .int .i64 a.n] w' fun r w2 => r = .returned (.tuple #[v.val, .int .i64 e]) ∧ TabAt w0 w2 M' K' cp hp sp ds l) :
 Calls Tryz.prog 160 #[ptr wb] w (Gave w0 M' K cp hp sp ds l wb 1 [v] e) := by
 obtain ⟨q0, q1, q2, q3, q4, q5⟩ := at6a hc; obtain ⟨ak, ax, an, ap, al, aS⟩ := a; obtain ⟨vk, vx, vn, vp, vl, vs⟩ := v; simp only at q0 q1 q2 q3 q4 q5
 obtain ⟨KB, hKB⟩ : ∃ KB, KB = (wb, wkBox hp cp sp (.slice (some ⟨g, 0, none⟩) 1 1) (.slice none 0 0)) :: K := ⟨_, rfl⟩
 have hw : (wb, wkBox hp cp sp (.slice (some ⟨g, 0, none⟩) 1 1) (.slice none 0 0)) ∈ KB := by rw [hKB]; exact m0
 have hg' : (g, Obj.cells cur 49) ∈ KB := by rw [hKB]; exact List.mem_cons_of_mem _ hg
 rw [← hKB] at S; have HKB := hid' hKB; have HH := hid' H; have HS := hid' S; have HA1 : Hid (∀ o, TabAt w0 (w.alloc o).drew M ((w.heap.size, o) :: KB) cp hp sp ds l) := hid' (fun o => (S.alloc o).drew)
 have HA2 : Hid (∀ o o', TabAt w0 ((w.alloc o).alloc o').drew M ((w.heap.size + 1, o') :: (w.heap.size, o) :: KB) cp hp sp ds l) := hid' (fun o o' => by
  have h := ((S.alloc o).alloc o').drew
  rwa [World.size_alloc] at h)
 have RW := TB.cells (w0 := w0) (cp := cp) (hp := hp) (sp := sp) hw; have RG := TB.cells (w0 := w0) (cp := cp) (hp := hp) (sp := sp) hg'; have lw := blk_lt (S.box _ hw); have lg := blk_lt (S.box _ hg'); simp only at lw lg; have hS1 := TB.of S; clear H hw hg hg' S hc hKB; go_enter Tryz.func160, Tryz.ntmps160
 go_wp2_with fail
 go_cut [3, 4] (fun s3 s4 wx => LC1 w0 M' KB cp hp sp ds l ⟨vk, vx, vn, vp, vl, vs⟩ e s3 s4 wx)
 case first =>
  go_region_held3 (fun W' => TB w0 cp hp sp KB W') (first | (with_reducible assumption) | (with_reducible exact TB.of S4) | (with_reducible exact TB.more S4) | (with_reducible exact TB.more2 S4) | (with_reducible exact TB.drew (by with_reducible assumption)) | (with_reducible exact TB.alloc (by with_reducible assumption) _) | (with_reducible exact TB.alloc (TB.of S4) _) | (with_reducible exact TB.alloc (TB.more S4) _) | (with_reducible exact TB.alloc (TB.alloc (TB.of S4) _) _) | (with_reducible exact TB.drew (TB.alloc (by with_reducible assumption) _)) | (with_reducible exact TB.drew (TB.alloc (TB.alloc (by with_reducible assumption) _) _)))
   ((go_at_call 35; refine (HH.out _ _ (by first | (with_reducible exact HS.out.drew) | (with_reducible exact HA1.out _) | (with_reducible exact HA2.out _ _) | (with_reducible exact HS.out))).mono ?_; rintro r w4 ⟨rfl, S4⟩; (try (with_reducible have yz : w.heap.size < w4.heap.size := blk_lt (S4.box _ m0))); (try (with_reducible have Rz : ∀ i, w4.cell? ⟨w.heap.size, i, none⟩ = #[Value.int .i64 0, .bool false, .int .i64 0, .int .i64 0, .int .i64 0, .string ⟨#[]⟩][i]? := cells_of (S4.box _ m0))); (try (with_reducible have Zz : ∀ i, w4.frozen? ⟨w.heap.size, i, none⟩ = false := free_of (S4.box _ m0))); (try (with_reducible have t1 := TB.more (S4.putO vk vx vn vp vl vs)))))
  all_goals
   go_wp2_with fail
   go_meet
  · exact ⟨rfl, _, rfl, S4.alloc (Obj.cells #[.int .i64 vk, .bool vx, .int .i64 vn, .int .i64 vp, .int .i64 vl, .string vs] 49)⟩
  · exact ⟨rfl, _, rfl, S4.putO vk vx vn vp vl vs⟩
 case rest =>
  obtain ⟨rfl, q, rfl, S4⟩ := hcut; have S4 : TabAt w0 _ M' ((q, Obj.cells #[.int .i64 vk, .bool vx, .int .i64 vn, .int .i64 vp, .int .i64 vl, .string vs] 49) :: KB) cp hp sp ds l := S4; rw [HKB.out] at S4; clear HH HS HA1 HA2 RW RG lw lg hS1
  (try clear Rz); (try clear yz); (try clear Zz)
  have Rz := cells_of (S4.box _ m0); have yz := blk_lt (S4.box _ m0)
  (try simp only at Rz yz)
  have S5 := S4.alloc (Obj.cells #[.int .i64 vk, .bool vx, .int .i64 vn, .int .i64 vp, .int .i64 vl, .string vs] 49); have S6 := S5.perm (List.perm_middle (l₁ := [_, _])); clear S4 S5; go_wp2_with fail
  refine (give_any S6 _ 1 1).mono ?_; rintro r w6 ⟨rfl, S7⟩; go_wp2_with fail
  go_ret; exact ⟨rfl, _, _, _, [_, _], S7, .inr ⟨_, _, 1, rfl, m0, rfl, rfl⟩⟩
end Go.Proofs.YtpiomapnmempoaaGreat
