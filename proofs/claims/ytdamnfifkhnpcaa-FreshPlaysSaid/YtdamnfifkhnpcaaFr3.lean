/-
  The chapter's examples are as they are told.
-/
import Derived.Test.YtdamnfifkhnpcaaFr2
namespace Go.Proofs.Ytdamnfifkhnpcaa
open Go.RowKit
set_option linter.unusedSimpArgs false
set_option linter.unusedVariables false

theorem first_any (w : World) :
    Calls Try.prog 8 #[] w fun e w' => e = .returned (.bool true) ∧ Kept w w' := by
  have h1 : newerB 0 255 = true := by decide
  have h2 : newerB 5 5 = false := by decide
  have h3 : keeps [] 1 0 = true := by decide
  have h4 : keeps (putL [] 1 0 7) 1 0 = false := by decide
  go_enter Try.func8, Try.ntmps8
  go_wp2_with fail
  refine (new_any _ _).mono ?_
  rintro e w1 ⟨rfl, hB, hk, hsz⟩
  have HS := Lib.hid hsz
  clear hsz
  go_wp2_with fail
  refine (newer_any _ _ _).mono ?_
  rintro e w2 ⟨rfl, rfl⟩
  go_wp2_with fail
  refine (newer_any _ _ _).mono ?_
  rintro e w2 ⟨rfl, rfl⟩
  go_wp2_with fail
  refine (put_any _ _ _ _ _ _ _ _ hB).mono ?_
  rintro e w2 ⟨rfl, hB2, hk2⟩
  go_wp2_with fail
  refine (put_any _ _ _ _ _ _ _ _ hB2).mono ?_
  rintro e w3 ⟨rfl, hB3, hk3⟩
  go_wp2_with fail
  go_ret
  refine ⟨rfl, ?_⟩
  have k2 : Kept w w2 := hk.andThen hk2 fun i hi hr => by omega
  exact k2.andThen hk3 fun i hi hr => by omega
end Go.Proofs.Ytdamnfifkhnpcaa
