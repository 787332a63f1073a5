/-
  Of two samples' numbers that are unlike one is newer, but of those that are half the round apart none is: the walk of the statement FreshNewer.
-/
import Derived.Test.YtdamnfifkhnpcaaFr3
namespace Go.Proofs.Ytdamnfifkhnpcaa
open Go.RowKit
set_option linter.unusedSimpArgs false
set_option linter.unusedVariables false

theorem chRange_yes {ch : Int} (h1 : 1 ≤ ch) (h2 : ch < 48) : (chRange ch).isSome = true := by
  unfold chRange
  rw [if_neg (by omega), if_neg (by omega)]
  repeat' split
  all_goals rfl

theorem keeps_nil {ch seq : Int} (h1 : 1 ≤ ch) (h2 : ch < 48) : keeps [] ch seq = true := by
  simp [keeps, chRange_yes h1 h2, look]

theorem keeps_one {ch seq old v : Int} {age : Int} (h1 : 1 ≤ ch) (h2 : ch < 48) : keeps [(ch, ⟨v, old, age⟩)] ch seq = newerB seq old := by
  simp [keeps, chRange_yes h1 h2, look]

theorem putL_nil {ch seq v : Int} (h1 : 1 ≤ ch) (h2 : ch < 48) : putL [] ch seq v = [(ch, ⟨v, seq, 0⟩)] := by
  simp [putL, keeps_nil h1 h2, lset]

theorem newer_both {a b : Int} (ha : 0 ≤ a) (ha2 : a ≤ 255) (hb : 0 ≤ b) (hb2 : b ≤ 255) :
    (newerB a b = true ∧ newerB b a = false ∧ (a != b) = true ∧ ((a - b) % 256 != 128) = true) ∨
    (newerB a b = false ∧ newerB b a = true ∧ (a != b) = true ∧ ((a - b) % 256 != 128) = true) ∨
    (newerB a b = false ∧ newerB b a = false ∧ (a != b) = false) ∨
    (newerB a b = false ∧ newerB b a = false ∧ (a != b) = true ∧ ((a - b) % 256 != 128) = false) := by
  simp only [newerB, decide_eq_true_eq, decide_eq_false_iff_not, bne_iff_ne, ne_eq, bne_eq_false_iff_eq]
  omega

/-- What the statement's last test comes to. -/
def NewerEnd (e : Ending) (W w' : World) : Prop := e = .returned (.bool true) ∧ Kept W w'

set_option maxHeartbeats 1000000 in
theorem freshNewer_walk (a b v v2 ch : Int) (W : World) (ha : 0 ≤ a) (ha2 : a ≤ 255) (hb : 0 ≤ b) (hb2 : b ≤ 255)
    (hc : -9223372036854775808 ≤ ch) (hc2 : ch ≤ 9223372036854775807) :
    Calls Try.prog 3 #[.int .u8 a, .int .u8 b, .int .i64 v, .int .i64 v2, .int .i64 ch] W fun e w' => NewerEnd e W w' := by
  have hm0 := Int.emod_nonneg ch (show (47 : Int) ≠ 0 by decide)
  have hm1 := Int.emod_lt_of_pos ch (show (0 : Int) < 47 by decide)
  have H := Lib.hid (newer_both ha ha2 hb hb2)
  go_enter Try.func3, Try.ntmps3
  go_wp2_with fail
  refine (first_any _).mono ?_
  rintro e w1 ⟨rfl, k1⟩
  go_wp2_with fail
  refine (number_any _ _ _ (by decide) (by decide) hc hc2).mono ?_
  rintro e w2 ⟨rfl, rfl⟩
  generalize hq : ch % 47 = q at *
  clear hq
  go_wp2_with fail
  refine (new_any _ _).mono ?_
  rintro e w2 ⟨rfl, hB, hk, hsz⟩
  have HS := Lib.hid hsz
  clear hsz
  go_wp2_with fail
  refine (newer_any _ _ _).mono ?_
  rintro e w3 ⟨rfl, rfl⟩
  go_wp2_with fail
  refine (newer_any _ _ _).mono ?_
  rintro e w3 ⟨rfl, rfl⟩
  go_wp2_with fail
  refine (put_any _ _ _ _ _ _ _ _ hB).mono ?_
  rintro e w3 ⟨rfl, hB2, hk2⟩
  rw [keeps_nil (by omega) (by omega)]
  rw [putL_nil (by omega) (by omega)] at hB2
  go_wp2_with fail
  refine (put_any _ _ _ _ _ _ _ _ hB2).mono ?_
  rintro e w4 ⟨rfl, hB3, hk3⟩
  rw [keeps_one (by omega) (by omega)]
  go_wp2_with fail
  refine (get_any _ _ _ _ _ _ hB3).mono ?_
  rintro e w5 ⟨rfl, hk4⟩
  have HK : Hid (Kept W w5) := by
    have a1 : Kept W w2 := k1.trans hk
    have a2 : Kept W w3 := a1.andThen hk2 fun i hi hr => by have := k1.size; omega
    have a3 : Kept W w4 := a2.andThen hk3 fun i hi hr => by have := k1.size; omega
    exact a3.trans hk4
  have hf : getF (max (min 3 1000) 0) (putL [(q + 1, ⟨v, b, 0⟩)] (q + 1) a v2) (q + 1) = true := by
    have hz : (0 : Int) ≤ max (min 3 1000) 0 := by omega
    unfold putL
    split <;> simp [getF, look, lset, hz]
  have hv : getV (putL [(q + 1, ⟨v, b, 0⟩)] (q + 1) a v2) (q + 1) = if newerB a b then v2 else v := by
    unfold putL
    rw [keeps_one (by omega) (by omega)]
    split <;> simp [getV, look, lset]
  rw [hf, hv]
  clear hf hv hB hB2 hB3 hk hk2 hk3 hk4 k1 HS
  rcases H.out with ⟨g1, g2, g3, g4⟩ | ⟨g1, g2, g3, g4⟩ | ⟨g1, g2, g3⟩ | ⟨g1, g2, g3, g4⟩
  all_goals
    clear H
    rw [g1, g2]
    simp only [if_true, Bool.false_eq_true, if_false]
    clear g1 g2
    go_wp2_with fail
    go_ret
    exact ⟨rfl, HK.out⟩
end Go.Proofs.Ytdamnfifkhnpcaa
