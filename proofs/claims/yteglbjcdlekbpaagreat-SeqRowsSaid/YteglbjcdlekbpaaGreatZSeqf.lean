/- Walks: seq.Do where it hands on to another function (printed by gensdo.py). -/
import Derived.Test.YteglbjcdlekbpaaGreatZSeqa
namespace Go.Proofs.YteglbjcdlekbpaaGreat
open Go.RowKit

set_option maxRecDepth 100000 in
theorem sdo_42 {w0 w : World} {M M' : List (Nat × List C)} {K : List (Nat × Obj)} {sp hp : Nat} {l l' : List O} {e : Int} (S : StkAt w0 w M K sp l)
    (HS : ∀ w', StkAt w0 w' M K sp l → Calls Tryz.prog 103 #[ptr hp, ptr sp, .int .i64 42] w' fun r w2 => r = .returned (.int .i64 e) ∧ StkAt w0 w2 M' K sp l') :
    Calls Tryz.prog 59 #[ptr hp, ptr sp, .int .i64 42] w fun r w' => r = .returned (.int .i64 e) ∧ StkAt w0 w' M' K sp l' := by
  obtain ⟨bs, hbs⟩ := fam_is (i := 41) (f := 2) (by decide +kernel)
  have HF := hid' (fun w' => family_at 41 2 bs hbs w')
  have HS := hid' HS
  clear hbs
  go_enter Tryz.func59, Tryz.ntmps59
  go_wp2_with fail
  refine (HF.out _).mono ?_
  rintro r w2 ⟨rfl, X2⟩
  have S2 := S.pure X2
  clear S X2
  go_wp2_with fail
  refine (HS.out _ S2).mono ?_
  rintro r w3 ⟨rfl, S3⟩
  go_wp2_with fail
  go_ret
  exact ⟨rfl, S3⟩
set_option maxRecDepth 100000 in
theorem sdo_43 {w0 w : World} {M M' : List (Nat × List C)} {K : List (Nat × Obj)} {sp hp : Nat} {l l' : List O} {e : Int} (S : StkAt w0 w M K sp l)
    (HS : ∀ w', StkAt w0 w' M K sp l → Calls Tryz.prog 103 #[ptr hp, ptr sp, .int .i64 43] w' fun r w2 => r = .returned (.int .i64 e) ∧ StkAt w0 w2 M' K sp l') :
    Calls Tryz.prog 59 #[ptr hp, ptr sp, .int .i64 43] w fun r w' => r = .returned (.int .i64 e) ∧ StkAt w0 w' M' K sp l' := by
  obtain ⟨bs, hbs⟩ := fam_is (i := 42) (f := 2) (by decide +kernel)
  have HF := hid' (fun w' => family_at 42 2 bs hbs w')
  have HS := hid' HS
  clear hbs
  go_enter Tryz.func59, Tryz.ntmps59
  go_wp2_with fail
  refine (HF.out _).mono ?_
  rintro r w2 ⟨rfl, X2⟩
  have S2 := S.pure X2
  clear S X2
  go_wp2_with fail
  refine (HS.out _ S2).mono ?_
  rintro r w3 ⟨rfl, S3⟩
  go_wp2_with fail
  go_ret
  exact ⟨rfl, S3⟩
set_option maxRecDepth 100000 in
theorem sdo_44 {w0 w : World} {M M' : List (Nat × List C)} {K : List (Nat × Obj)} {sp hp : Nat} {l l' : List O} {e : Int} (S : StkAt w0 w M K sp l)
    (HS : ∀ w', StkAt w0 w' M K sp l → Calls Tryz.prog 103 #[ptr hp, ptr sp, .int .i64 44] w' fun r w2 => r = .returned (.int .i64 e) ∧ StkAt w0 w2 M' K sp l') :
    Calls Tryz.prog 59 #[ptr hp, ptr sp, .int .i64 44] w fun r w' => r = .returned (.int .i64 e) ∧ StkAt w0 w' M' K sp l' := by
  obtain ⟨bs, hbs⟩ := fam_is (i := 43) (f := 2) (by decide +kernel)
  have HF := hid' (fun w' => family_at 43 2 bs hbs w')
  have HS := hid' HS
  clear hbs
  go_enter Tryz.func59, Tryz.ntmps59
  go_wp2_with fail
  refine (HF.out _).mono ?_
  rintro r w2 ⟨rfl, X2⟩
  have S2 := S.pure X2
  clear S X2
  go_wp2_with fail
  refine (HS.out _ S2).mono ?_
  rintro r w3 ⟨rfl, S3⟩
  go_wp2_with fail
  go_ret
  exact ⟨rfl, S3⟩
set_option maxRecDepth 100000 in
theorem sdo_45 {w0 w : World} {M M' : List (Nat × List C)} {K : List (Nat × Obj)} {sp hp : Nat} {l l' : List O} {e : Int} (S : StkAt w0 w M K sp l)
    (HS : ∀ w', StkAt w0 w' M K sp l → Calls Tryz.prog 103 #[ptr hp, ptr sp, .int .i64 45] w' fun r w2 => r = .returned (.int .i64 e) ∧ StkAt w0 w2 M' K sp l') :
    Calls Tryz.prog 59 #[ptr hp, ptr sp, .int .i64 45] w fun r w' => r = .returned (.int .i64 e) ∧ StkAt w0 w' M' K sp l' := by
  obtain ⟨bs, hbs⟩ := fam_is (i := 44) (f := 2) (by decide +kernel)
  have HF := hid' (fun w' => family_at 44 2 bs hbs w')
  have HS := hid' HS
  clear hbs
  go_enter Tryz.func59, Tryz.ntmps59
  go_wp2_with fail
  refine (HF.out _).mono ?_
  rintro r w2 ⟨rfl, X2⟩
  have S2 := S.pure X2
  clear S X2
  go_wp2_with fail
  refine (HS.out _ S2).mono ?_
  rintro r w3 ⟨rfl, S3⟩
  go_wp2_with fail
  go_ret
  exact ⟨rfl, S3⟩
set_option maxRecDepth 100000 in
theorem sdo_48 {w0 w : World} {M M' : List (Nat × List C)} {K : List (Nat × Obj)} {sp hp : Nat} {l l' : List O} {e : Int} (S : StkAt w0 w M K sp l)
    (HS : ∀ w', StkAt w0 w' M K sp l → Calls Tryz.prog 105 #[ptr hp, ptr sp] w' fun r w2 => r = .returned (.int .i64 e) ∧ StkAt w0 w2 M' K sp l') :
    Calls Tryz.prog 59 #[ptr hp, ptr sp, .int .i64 48] w fun r w' => r = .returned (.int .i64 e) ∧ StkAt w0 w' M' K sp l' := by
  obtain ⟨bs, hbs⟩ := fam_is (i := 47) (f := 2) (by decide +kernel)
  have HF := hid' (fun w' => family_at 47 2 bs hbs w')
  have HS := hid' HS
  clear hbs
  go_enter Tryz.func59, Tryz.ntmps59
  go_wp2_with fail
  refine (HF.out _).mono ?_
  rintro r w2 ⟨rfl, X2⟩
  have S2 := S.pure X2
  clear S X2
  go_wp2_with fail
  refine (HS.out _ S2).mono ?_
  rintro r w3 ⟨rfl, S3⟩
  go_wp2_with fail
  go_ret
  exact ⟨rfl, S3⟩
set_option maxRecDepth 100000 in
theorem sdo_53 {w0 w : World} {M M' : List (Nat × List C)} {K : List (Nat × Obj)} {sp hp : Nat} {l l' : List O} {e : Int} (S : StkAt w0 w M K sp l)
    (HS : ∀ w', StkAt w0 w' M K sp l → Calls Tryz.prog 112 #[ptr hp, ptr sp, .int .i64 53] w' fun r w2 => r = .returned (.int .i64 e) ∧ StkAt w0 w2 M' K sp l') :
    Calls Tryz.prog 59 #[ptr hp, ptr sp, .int .i64 53] w fun r w' => r = .returned (.int .i64 e) ∧ StkAt w0 w' M' K sp l' := by
  obtain ⟨bs, hbs⟩ := fam_is (i := 52) (f := 2) (by decide +kernel)
  have HF := hid' (fun w' => family_at 52 2 bs hbs w')
  have HS := hid' HS
  clear hbs
  go_enter Tryz.func59, Tryz.ntmps59
  go_wp2_with fail
  refine (HF.out _).mono ?_
  rintro r w2 ⟨rfl, X2⟩
  have S2 := S.pure X2
  clear S X2
  go_wp2_with fail
  refine (HS.out _ S2).mono ?_
  rintro r w3 ⟨rfl, S3⟩
  go_wp2_with fail
  go_ret
  exact ⟨rfl, S3⟩
set_option maxRecDepth 100000 in
theorem sdo_54 {w0 w : World} {M M' : List (Nat × List C)} {K : List (Nat × Obj)} {sp hp : Nat} {l l' : List O} {e : Int} (S : StkAt w0 w M K sp l)
    (HS : ∀ w', StkAt w0 w' M K sp l → Calls Tryz.prog 112 #[ptr hp, ptr sp, .int .i64 54] w' fun r w2 => r = .returned (.int .i64 e) ∧ StkAt w0 w2 M' K sp l') :
    Calls Tryz.prog 59 #[ptr hp, ptr sp, .int .i64 54] w fun r w' => r = .returned (.int .i64 e) ∧ StkAt w0 w' M' K sp l' := by
  obtain ⟨bs, hbs⟩ := fam_is (i := 53) (f := 2) (by decide +kernel)
  have HF := hid' (fun w' => family_at 53 2 bs hbs w')
  have HS := hid' HS
  clear hbs
  go_enter Tryz.func59, Tryz.ntmps59
  go_wp2_with fail
  refine (HF.out _).mono ?_
  rintro r w2 ⟨rfl, X2⟩
  have S2 := S.pure X2
  clear S X2
  go_wp2_with fail
  refine (HS.out _ S2).mono ?_
  rintro r w3 ⟨rfl, S3⟩
  go_wp2_with fail
  go_ret
  exact ⟨rfl, S3⟩
set_option maxRecDepth 100000 in
theorem sdo_57 {w0 w : World} {M M' : List (Nat × List C)} {K : List (Nat × Obj)} {sp hp : Nat} {l l' : List O} {e : Int} (S : StkAt w0 w M K sp l)
    (HS : ∀ w', StkAt w0 w' M K sp l → Calls Tryz.prog 114 #[ptr hp, ptr sp] w' fun r w2 => r = .returned (.int .i64 e) ∧ StkAt w0 w2 M' K sp l') :
    Calls Tryz.prog 59 #[ptr hp, ptr sp, .int .i64 57] w fun r w' => r = .returned (.int .i64 e) ∧ StkAt w0 w' M' K sp l' := by
  obtain ⟨bs, hbs⟩ := fam_is (i := 56) (f := 2) (by decide +kernel)
  have HF := hid' (fun w' => family_at 56 2 bs hbs w')
  have HS := hid' HS
  clear hbs
  go_enter Tryz.func59, Tryz.ntmps59
  go_wp2_with fail
  refine (HF.out _).mono ?_
  rintro r w2 ⟨rfl, X2⟩
  have S2 := S.pure X2
  clear S X2
  go_wp2_with fail
  refine (HS.out _ S2).mono ?_
  rintro r w3 ⟨rfl, S3⟩
  go_wp2_with fail
  go_ret
  exact ⟨rfl, S3⟩
set_option maxRecDepth 100000 in
theorem sdo_58 {w0 w : World} {M M' : List (Nat × List C)} {K : List (Nat × Obj)} {sp hp : Nat} {l l' : List O} {e : Int} (S : StkAt w0 w M K sp l)
    (HS : ∀ w', StkAt w0 w' M K sp l → Calls Tryz.prog 115 #[ptr hp, ptr sp] w' fun r w2 => r = .returned (.int .i64 e) ∧ StkAt w0 w2 M' K sp l') :
    Calls Tryz.prog 59 #[ptr hp, ptr sp, .int .i64 58] w fun r w' => r = .returned (.int .i64 e) ∧ StkAt w0 w' M' K sp l' := by
  obtain ⟨bs, hbs⟩ := fam_is (i := 57) (f := 2) (by decide +kernel)
  have HF := hid' (fun w' => family_at 57 2 bs hbs w')
  have HS := hid' HS
  clear hbs
  go_enter Tryz.func59, Tryz.ntmps59
  go_wp2_with fail
  refine (HF.out _).mono ?_
  rintro r w2 ⟨rfl, X2⟩
  have S2 := S.pure X2
  clear S X2
  go_wp2_with fail
  refine (HS.out _ S2).mono ?_
  rintro r w3 ⟨rfl, S3⟩
  go_wp2_with fail
  go_ret
  exact ⟨rfl, S3⟩
end Go.Proofs.YteglbjcdlekbpaaGreat
