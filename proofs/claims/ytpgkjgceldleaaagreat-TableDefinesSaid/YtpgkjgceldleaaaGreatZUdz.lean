/- TableDefines, whole. -/
import Derived.Test.YtpgkjgceldleaaaGreatZUde
namespace Go.Proofs.YtpgkjgceldleaaaGreat
open Go.RowKit

set_option maxRecDepth 100000 in
set_option maxHeartbeats 4000000 in
theorem tableDefines_any (s : ByteArray) (v u : Int) (store : Bool) (hs : s.size ≤ maxLen) (hv0 : -32768 ≤ v) (hv1 : v < 32768) (hu0 : -32768 ≤ u) (hu1 : u < 32768) (w : World) :
    Calls Tryz.prog 3 #[.string s, .int .i16 v, .int .i16 u, .bool store] w fun e w' => e = .returned (.bool true) ∧ Chg NoB w w' := by
  have HKN := hid' (known20_any w)
  by_cases h1 : 100 < s.size
  · have h1' : (100 : Int) < s.size := by omega
    have hm : (s.size : Int) ≤ 9223372036854775807 := by unfold maxLen at hs; omega
    clear hs h1
    go_enter Tryz.func3, Tryz.ntmps3
    go_wp2_with fail
    refine HKN.out.mono ?_
    rintro r w1 ⟨rfl, X1⟩
    go_wp2_with fail
    go_ret
    exact ⟨rfl, X1⟩
  · have c100 : ¬ (100 : Int) < s.size := by omega
    by_cases h2 : (s.toList == [97, 100, 100]) = true
    · go_enter Tryz.func3, Tryz.ntmps3
      go_wp2_with fail
      refine HKN.out.mono ?_
      rintro r w1 ⟨rfl, X1⟩
      go_wp2_with fail
      go_ret
      exact ⟨rfl, X1⟩
    · have h2' : (s.toList == [97, 100, 100]) = false := by simpa using h2
      rcases num20_miss s w with ⟨i, fam, h⟩ | h
      · have HN := hid' (fun W => number_hit i fam _ h W)
        rw [ba_toArray] at HN
        clear h h1 h2
        go_enter Tryz.func3, Tryz.ntmps3
        go_wp2_with fail
        refine HKN.out.mono ?_
        rintro r w1 ⟨rfl, X1⟩
        go_wp2_with fail
        refine (HN.out _).mono ?_
        rintro r w2 ⟨rfl, X2⟩
        go_wp2_with fail
        go_ret
        exact ⟨rfl, X1.pure X2⟩
      · cases store
        · exact tableDefines_def s v u (by omega) ⟨hv0, hv1⟩ ⟨hu0, hu1⟩ h2' h w
        · exact tableDefines_store s v u (by omega) ⟨hv0, hv1⟩ ⟨hu0, hu1⟩ h2' h w
end Go.Proofs.YtpgkjgceldleaaaGreat
