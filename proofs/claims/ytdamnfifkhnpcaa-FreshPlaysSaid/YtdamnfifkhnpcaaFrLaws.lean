/-
  A sample is fresh for so many cycles and then no more; channels know nothing of each other: the walks of the statements FreshAges and FreshApart.
-/
import Derived.Test.YtdamnfifkhnpcaaFrNewer
namespace Go.Proofs.Ytdamnfifkhnpcaa
open Go.RowKit
set_option linter.unusedSimpArgs false
set_option linter.unusedVariables false

/-- So many cycles go by. -/
def agedN : Nat → List (Int × Smp) → List (Int × Smp)
  | 0, L => L
  | n + 1, L => aged (agedN n L)

theorem agedN_one (n : Nat) (ch v seq : Int) (hn : n ≤ 1000) : agedN n [(ch, ⟨v, seq, 0⟩)] = [(ch, ⟨v, seq, n⟩)] := by
  induction n with
  | zero => rfl
  | succ n ih =>
    rw [agedN, ih (by omega)]
    simp only [aged, older, List.map_cons, List.map_nil]
    rw [show min ((n : Int) + 1) 1000 = ((n + 1 : Nat) : Int) from by omega]

/-- A bank of the call's own: it lies beyond all that was there. -/
structure OwnBank (W w : World) (p r : Nat) (s : Int) (L : List (Int × Smp)) : Prop where
  bank : BankAt w p r s L
  kept : Kept W w
  p0 : W.heap.size ≤ p
  r0 : W.heap.size ≤ r

theorem OwnBank.step {W w w' : World} {p r : Nat} {s : Int} {L L' : List (Int × Smp)} (h : OwnBank W w p r s L) (hb : BankAt w' p r s L') (hu : Upd (· = r) w w') : OwnBank W w' p r s L' :=
  ⟨hb, h.kept.andThen hu fun i hi hr => by have := h.r0; omega, h.p0, h.r0⟩
theorem OwnBank.kept_ {W w w' : World} {p r : Nat} {s : Int} {L : List (Int × Smp)} (h : OwnBank W w p r s L) (hu : Kept w w') : OwnBank W w' p r s L :=
  ⟨h.bank.upd hu id id, h.kept.trans hu, h.p0, h.r0⟩

theorem newer_next {a : Int} (h0 : 0 ≤ a) (h1 : a ≤ 255) : newerB ((a + 1) % 256) a = true := by
  simp only [newerB, decide_eq_true_eq]; omega
theorem putL_one {ch seq old v v2 age : Int} (h1 : 1 ≤ ch) (h2 : ch < 48) : putL [(ch, ⟨v, old, age⟩)] ch seq v2 = if newerB seq old = true then [(ch, ⟨v2, seq, 0⟩)] else [(ch, ⟨v, old, age⟩)] := by
  simp [putL, keeps_one h1 h2, lset]
theorem getV_one (ch v seq age : Int) : getV [(ch, ⟨v, seq, age⟩)] ch = v := by simp [getV, look]
theorem getF_one (s ch v seq age : Int) : getF s [(ch, ⟨v, seq, age⟩)] ch = decide (age ≤ s) := by simp [getF, look]
theorem ageL_one (ch v seq age : Int) : ageL [(ch, ⟨v, seq, age⟩)] ch = age := by simp [ageL, look]
theorem keeps_out (L : List (Int × Smp)) (seq : Int) {ch : Int} (h : chRange ch = none) : keeps L ch seq = false := by simp [keeps, h]
theorem putL_out (L : List (Int × Smp)) (seq v : Int) {ch : Int} (h : chRange ch = none) : putL L ch seq v = L := by simp [putL, keeps_out L seq h]

/-- The end of a statement's walk. -/
def SaysTrue (W : World) (e : Ending) (w' : World) : Prop := e = .returned (.bool true) ∧ Kept W w'

set_option maxHeartbeats 1000000 in
theorem freshAges_walk (s n ch seq : Int) (W : World) (hs : -9223372036854775808 ≤ s) (hs2 : s ≤ 9223372036854775807) (hn : -9223372036854775808 ≤ n) (hn2 : n ≤ 9223372036854775807)
    (hc : -9223372036854775808 ≤ ch) (hc2 : ch ≤ 9223372036854775807) (hq : 0 ≤ seq) (hq2 : seq ≤ 255) :
    Calls Try.prog 6 #[.int .i64 s, .int .i64 n, .int .i64 ch, .int .u8 seq] W (SaysTrue W) := by
  have hm0 := Int.emod_nonneg ch (show (47 : Int) ≠ 0 by decide)
  have hm1 := Int.emod_lt_of_pos ch (show (0 : Int) < 47 by decide)
  have hm2 := Int.emod_nonneg s (show (30 : Int) ≠ 0 by decide)
  have hm3 := Int.emod_lt_of_pos s (show (0 : Int) < 30 by decide)
  have hm4 := Int.emod_nonneg n (show (60 : Int) ≠ 0 by decide)
  have hm5 := Int.emod_lt_of_pos n (show (0 : Int) < 60 by decide)
  go_enter Try.func6, Try.ntmps6
  go_wp2_with fail
  refine (first_any _).mono ?_
  rintro e w1 ⟨rfl, k1⟩
  go_wp2_with fail
  refine (number_any _ _ _ (by decide) (by decide) hs hs2).mono ?_
  rintro e w2 ⟨rfl, rfl⟩
  generalize hqs : s % 30 = s1 at *
  clear hqs
  go_wp2_with fail
  refine (number_any _ _ _ (by decide) (by decide) hn hn2).mono ?_
  rintro e w2 ⟨rfl, rfl⟩
  generalize hqs : n % 60 = n1 at *
  clear hqs
  go_wp2_with fail
  refine (number_any _ _ _ (by decide) (by decide) hc hc2).mono ?_
  rintro e w2 ⟨rfl, rfl⟩
  generalize hqs : ch % 47 = q at *
  clear hqs
  go_wp2_with fail
  refine (new_any _ _).mono ?_
  rintro e w2 ⟨rfl, hB, hk, hsz⟩
  have hss : max (min s1 1000) 0 = s1 := by omega
  rw [hss] at hB
  have hO : OwnBank W w2 (w1.heap.size + 1) w1.heap.size s1 [] := ⟨hB, k1.trans hk, by have := k1.size; omega, k1.size⟩
  clear hsz hss hB hk k1
  generalize w1.heap.size + 1 = p at *
  generalize w1.heap.size = r at *
  go_wp2_with fail
  refine (get_any _ _ _ _ _ _ hO.bank).mono ?_
  rintro e w3 ⟨rfl, hk⟩
  replace hO := hO.kept_ hk
  clear hk
  rw [show getV [] (q + 1) = 0 from rfl, show getF s1 [] (q + 1) = false from rfl]
  go_wp2_with fail
  refine (age_any _ _ _ _ _ _ hO.bank).mono ?_
  rintro e w4 ⟨rfl, hk⟩
  replace hO := hO.kept_ hk
  clear hk
  rw [show ageL [] (q + 1) = 1000 from rfl]
  go_wp2_with fail
  refine (put_any _ _ _ _ _ _ _ _ hO.bank).mono ?_
  rintro e w5 ⟨rfl, hB, hu⟩
  replace hO := hO.step hB hu
  clear hB hu
  rw [keeps_nil (by omega) (by omega)]
  rw [putL_nil (by omega) (by omega)] at hO
  obtain ⟨m, rfl⟩ : ∃ m : Nat, n1 = m := ⟨n1.toNat, by omega⟩
  go_wp2_with fail
  go_loopw [14] (fun i wr => ∃ k : Nat, k ≤ m ∧ i = .int .i64 k ∧ OwnBank W wr p r s1 (agedN k [(q + 1, ⟨5, seq, 0⟩)])) (fun i _ => m - (intOf i).toNat)
  case atStart => exact ⟨0, Nat.zero_le _, rfl, hO⟩
  case round =>
    clear hO
    obtain ⟨k, hk, rfl, hO⟩ := hrel
    by_cases hlt : k < m
    · go_wp2_with fail
      refine (tick_any _ _ _ _ _ hO.bank).mono ?_
      rintro e w6 ⟨rfl, hB, hu⟩
      have hO2 := hO.step hB hu
      clear hB hu hO
      go_wp2_with fail
      go_roundw
      case rel => exact ⟨k + 1, by omega, by go_num, hO2⟩
      case measure => simp [intOf]; omega
    · obtain rfl : m = k := by omega
      rw [agedN_one m _ _ _ (by omega)] at hO
      clear hlt hk
      go_wp2_with fail
      refine (get_any _ _ _ _ _ _ hO.bank).mono ?_
      rintro e w6 ⟨rfl, hk⟩
      replace hO := hO.kept_ hk
      clear hk
      rw [show getV [(q + 1, (⟨5, seq, m⟩ : Smp))] (q + 1) = 5 from by simp [getV, look], show getF s1 [(q + 1, (⟨5, seq, m⟩ : Smp))] (q + 1) = decide ((m : Int) ≤ s1) from by simp [getF, look]]
      go_wp2_with fail
      refine (age_any _ _ _ _ _ _ hO.bank).mono ?_
      rintro e w7 ⟨rfl, hk⟩
      replace hO := hO.kept_ hk
      clear hk
      rw [show ageL [(q + 1, (⟨5, seq, m⟩ : Smp))] (q + 1) = m from by simp [ageL, look]]
      go_wp2_with fail
      refine (put_any _ _ _ _ _ _ _ _ hO.bank).mono ?_
      rintro e w8 ⟨rfl, hB, hu⟩
      replace hO := hO.step hB hu
      clear hB hu
      rw [keeps_one (by omega) (by omega), newer_next hq hq2]
      rw [putL_one (by omega) (by omega), newer_next hq hq2, if_pos rfl] at hO
      go_wp2_with fail
      refine (get_any _ _ _ _ _ _ hO.bank).mono ?_
      rintro e w9 ⟨rfl, hk⟩
      replace hO := hO.kept_ hk
      clear hk
      rw [getV_one, getF_one]
      go_wp2_with fail
      refine (age_any _ _ _ _ _ _ hO.bank).mono ?_
      rintro e w10 ⟨rfl, hk⟩
      replace hO := hO.kept_ hk
      clear hk
      rw [ageL_one]
      go_wp2_with fail
      refine (put_any _ _ _ _ _ _ _ _ hO.bank).mono ?_
      rintro e w11 ⟨rfl, hB, hu⟩
      replace hO := hO.step hB hu
      clear hB hu
      rw [keeps_out _ _ (by decide)]
      rw [putL_out _ _ _ (by decide)] at hO
      go_wp2_with fail
      refine (put_any _ _ _ _ _ _ _ _ hO.bank).mono ?_
      rintro e w12 ⟨rfl, hB, hu⟩
      replace hO := hO.step hB hu
      clear hB hu
      rw [keeps_out _ _ (by decide)]
      rw [putL_out _ _ _ (by decide)] at hO
      go_wp2_with fail
      go_ret
      exact ⟨rfl, hO.kept⟩

set_option maxHeartbeats 1000000 in
theorem freshApart_walk (a c v v2 n : Int) (W : World) (ha : -9223372036854775808 ≤ a) (ha2 : a ≤ 9223372036854775807) (hc : -9223372036854775808 ≤ c) (hc2 : c ≤ 9223372036854775807)
    (hn : -9223372036854775808 ≤ n) (hn2 : n ≤ 9223372036854775807) :
    Calls Try.prog 7 #[.int .i64 a, .int .i64 c, .int .i64 v, .int .i64 v2, .int .i64 n] W (SaysTrue W) := by
  have hm0 := Int.emod_nonneg a (show (47 : Int) ≠ 0 by decide)
  have hm1 := Int.emod_lt_of_pos a (show (0 : Int) < 47 by decide)
  have hm2 := Int.emod_nonneg c (show (47 : Int) ≠ 0 by decide)
  have hm3 := Int.emod_lt_of_pos c (show (0 : Int) < 47 by decide)
  have hm4 := Int.emod_nonneg n (show (9 : Int) ≠ 0 by decide)
  have hm5 := Int.emod_lt_of_pos n (show (0 : Int) < 9 by decide)
  go_enter Try.func7, Try.ntmps7
  go_wp2_with fail
  refine (first_any _).mono ?_
  rintro e w1 ⟨rfl, k1⟩
  go_wp2_with fail
  refine (number_any _ _ _ (by decide) (by decide) ha ha2).mono ?_
  rintro e w2 ⟨rfl, rfl⟩
  generalize hqs : a % 47 = x at *
  clear hqs
  go_wp2_with fail
  refine (number_any _ _ _ (by decide) (by decide) hc hc2).mono ?_
  rintro e w2 ⟨rfl, rfl⟩
  generalize hqs : c % 47 = y at *
  clear hqs
  by_cases hxy : x = y
  · subst hxy
    go_wp2_with fail
    go_ret
    exact ⟨rfl, k1⟩
  have hne : (x + 1 == y + 1) = false := by simp; omega
  go_wp2_with fail
  refine (number_any _ _ _ (by decide) (by decide) hn hn2).mono ?_
  rintro e w2 ⟨rfl, rfl⟩
  generalize hqs : n % 9 = n1 at *
  clear hqs
  go_wp2_with fail
  refine (new_any _ _).mono ?_
  rintro e w2 ⟨rfl, hB, hk, hsz⟩
  have hO : OwnBank W w2 (w1.heap.size + 1) w1.heap.size 20 [] := ⟨hB, k1.trans hk, by have := k1.size; omega, k1.size⟩
  clear hsz hB hk k1
  generalize w1.heap.size + 1 = p at *
  generalize w1.heap.size = r at *
  go_wp2_with fail
  refine (put_any _ _ _ _ _ _ _ _ hO.bank).mono ?_
  rintro e w3 ⟨rfl, hB, hu⟩
  replace hO := hO.step hB hu
  clear hB hu
  rw [keeps_nil (by omega) (by omega)]
  rw [putL_nil (by omega) (by omega)] at hO
  obtain ⟨m, rfl⟩ : ∃ m : Nat, n1 = m := ⟨n1.toNat, by omega⟩
  go_wp2_with fail
  go_loopw [13] (fun i wr => ∃ k : Nat, k ≤ m ∧ i = .int .i64 k ∧ OwnBank W wr p r 20 (agedN k [(x + 1, ⟨v, 200, 0⟩)])) (fun i _ => m - (intOf i).toNat)
  case atStart => exact ⟨0, Nat.zero_le _, rfl, hO⟩
  case round =>
    clear hO
    obtain ⟨k, hk, rfl, hO⟩ := hrel
    by_cases hlt : k < m
    · go_wp2_with fail
      refine (tick_any _ _ _ _ _ hO.bank).mono ?_
      rintro e w6 ⟨rfl, hB, hu⟩
      have hO2 := hO.step hB hu
      clear hB hu hO
      go_wp2_with fail
      go_roundw
      case rel => exact ⟨k + 1, by omega, by go_num, hO2⟩
      case measure => simp [intOf]; omega
    · obtain rfl : m = k := by omega
      rw [agedN_one m _ _ _ (by omega)] at hO
      clear hlt hk
      go_wp2_with fail
      refine (put_any _ _ _ _ _ _ _ _ hO.bank).mono ?_
      rintro e w6 ⟨rfl, hB, hu⟩
      replace hO := hO.step hB hu
      clear hB hu
      have hyx : ¬ y + 1 = x + 1 := by omega
      have hxy' : ¬ x + 1 = y + 1 := by omega
      have hL : putL [(x + 1, (⟨v, 200, m⟩ : Smp))] (y + 1) 3 v2 = [(x + 1, ⟨v, 200, m⟩), (y + 1, ⟨v2, 3, 0⟩)] := by
        simp [putL, keeps, chRange_yes (show 1 ≤ y + 1 by omega) (show y + 1 < 48 by omega), look, lset, hyx]
      have hkp : keeps [(x + 1, (⟨v, 200, m⟩ : Smp))] (y + 1) 3 = true := by
        simp [keeps, chRange_yes (show 1 ≤ y + 1 by omega) (show y + 1 < 48 by omega), look, hyx]
      rw [hkp]
      rw [hL] at hO
      clear hL hkp
      have g1 : getV [(x + 1, (⟨v, 200, m⟩ : Smp)), (y + 1, ⟨v2, 3, 0⟩)] (x + 1) = v := by simp [getV, look]
      have g2 : getF 20 [(x + 1, (⟨v, 200, m⟩ : Smp)), (y + 1, ⟨v2, 3, 0⟩)] (x + 1) = true := by simp [getF, look]; omega
      have g3 : getV [(x + 1, (⟨v, 200, m⟩ : Smp)), (y + 1, ⟨v2, 3, 0⟩)] (y + 1) = v2 := by simp [getV, look, hyx]
      have g4 : getF 20 [(x + 1, (⟨v, 200, m⟩ : Smp)), (y + 1, ⟨v2, 3, 0⟩)] (y + 1) = true := by simp [getF, look, hyx]
      have g5 : ageL [(x + 1, (⟨v, 200, m⟩ : Smp)), (y + 1, ⟨v2, 3, 0⟩)] (x + 1) = m := by simp [ageL, look]
      have g6 : ageL [(x + 1, (⟨v, 200, m⟩ : Smp)), (y + 1, ⟨v2, 3, 0⟩)] (y + 1) = 0 := by simp [ageL, look, hyx]
      have G := Lib.hid (And.intro g1 (And.intro g2 (And.intro g3 (And.intro g4 (And.intro g5 g6)))))
      clear g1 g2 g3 g4 g5 g6
      go_wp2_with fail
      refine (get_any _ _ _ _ _ _ hO.bank).mono ?_
      rintro e w7 ⟨rfl, hk⟩
      replace hO := hO.kept_ hk
      clear hk
      rw [G.out.1, G.out.2.1]
      go_wp2_with fail
      refine (get_any _ _ _ _ _ _ hO.bank).mono ?_
      rintro e w8 ⟨rfl, hk⟩
      replace hO := hO.kept_ hk
      clear hk
      rw [G.out.2.2.1, G.out.2.2.2.1]
      go_wp2_with fail
      refine (age_any _ _ _ _ _ _ hO.bank).mono ?_
      rintro e w9 ⟨rfl, hk⟩
      replace hO := hO.kept_ hk
      clear hk
      rw [G.out.2.2.2.2.1]
      go_wp2_with fail
      refine (age_any _ _ _ _ _ _ hO.bank).mono ?_
      rintro e w10 ⟨rfl, hk⟩
      replace hO := hO.kept_ hk
      clear hk
      rw [G.out.2.2.2.2.2]
      go_wp2_with fail
      go_ret
      exact ⟨rfl, hO.kept⟩

theorem newer_step {a q : Int} (ha : 0 ≤ a) (ha2 : a ≤ 255) (hq : 0 ≤ q) (hq2 : q < 127) : newerB ((a + (q + 1)) % 256) a = true := by
  simp only [newerB, decide_eq_true_eq]; omega
theorem newer_self (a : Int) : newerB a a = false := by simp [newerB]
theorem newer_back {a q : Int} (ha : 0 ≤ a) (ha2 : a ≤ 255) (hq : 0 ≤ q) (hq2 : q < 127) : newerB ((a - (q + 1)) % 256) a = false := by
  simp only [newerB, decide_eq_false_iff_not]; omega

set_option maxHeartbeats 1000000 in
theorem freshRows_walk (n seq ch step : Int) (W : World) (hn : -9223372036854775808 ≤ n) (hn2 : n ≤ 9223372036854775807) (hq : 0 ≤ seq) (hq2 : seq ≤ 255)
    (hc : -9223372036854775808 ≤ ch) (hc2 : ch ≤ 9223372036854775807) (hs : -9223372036854775808 ≤ step) (hs2 : step ≤ 9223372036854775807) :
    Calls Try.prog 4 #[.int .i64 n, .int .u8 seq, .int .i64 ch, .int .i64 step] W (SaysTrue W) := by
  have hm0 := Int.emod_nonneg ch (show (47 : Int) ≠ 0 by decide)
  have hm1 := Int.emod_lt_of_pos ch (show (0 : Int) < 47 by decide)
  have hm2 := Int.emod_nonneg n (show (600 : Int) ≠ 0 by decide)
  have hm3 := Int.emod_lt_of_pos n (show (0 : Int) < 600 by decide)
  have hm4 := Int.emod_nonneg step (show (127 : Int) ≠ 0 by decide)
  have hm5 := Int.emod_lt_of_pos step (show (0 : Int) < 127 by decide)
  go_enter Try.func4, Try.ntmps4
  go_wp2_with fail
  refine (first_any _).mono ?_
  rintro e w1 ⟨rfl, k1⟩
  go_wp2_with fail
  refine (number_any _ _ _ (by decide) (by decide) hn hn2).mono ?_
  rintro e w2 ⟨rfl, rfl⟩
  generalize hqs : n % 600 = n1 at *
  clear hqs
  go_wp2_with fail
  refine (number_any _ _ _ (by decide) (by decide) hc hc2).mono ?_
  rintro e w2 ⟨rfl, rfl⟩
  generalize hqs : ch % 47 = x at *
  clear hqs
  go_wp2_with fail
  refine (number_any _ _ _ (by decide) (by decide) hs hs2).mono ?_
  rintro e w2 ⟨rfl, rfl⟩
  generalize hqs : step % 127 = q at *
  clear hqs
  go_wp2_with fail
  refine (new_any _ _).mono ?_
  rintro e w2 ⟨rfl, hB, hk, hsz⟩
  have hO : OwnBank W w2 (w1.heap.size + 1) w1.heap.size 5 [] := ⟨hB, k1.trans hk, by have := k1.size; omega, k1.size⟩
  clear hsz hB hk k1
  generalize w1.heap.size + 1 = p at *
  generalize w1.heap.size = r at *
  go_wp2_with fail
  refine (put_any _ _ _ _ _ _ _ _ hO.bank).mono ?_
  rintro e w3 ⟨rfl, hB, hu⟩
  replace hO := hO.step hB hu
  clear hB hu
  rw [keeps_nil (by omega) (by omega)]
  rw [putL_nil (by omega) (by omega)] at hO
  obtain ⟨m, rfl⟩ : ∃ m : Nat, n1 = m := ⟨n1.toNat, by omega⟩
  go_wp2_with fail
  go_loopw [1, 11] (fun sq i wr => ∃ (k : Nat) (b vv : Int), k ≤ m ∧ i = .int .i64 k ∧ sq = .int .u8 b ∧ 0 ≤ b ∧ b ≤ 255 ∧ OwnBank W wr p r 5 [(x + 1, ⟨vv, b, 0⟩)]) (fun _ i _ => m - (intOf i).toNat)
  case atStart => exact ⟨0, seq, _, Nat.zero_le _, rfl, rfl, hq, hq2, hO⟩
  case round =>
    clear hO
    obtain ⟨k, b, vv, hk, rfl, rfl, hb0, hb1, hO⟩ := hrel
    by_cases hlt : k < m
    · have hb2 := Int.emod_nonneg (b + (q + 1)) (show (256 : Int) ≠ 0 by decide)
      have hb3 := Int.emod_lt_of_pos (b + (q + 1)) (show (0 : Int) < 256 by decide)
      go_wp2_with fail
      refine (put_any _ _ _ _ _ _ _ _ hO.bank).mono ?_
      rintro e w6 ⟨rfl, hB, hu⟩
      replace hO := hO.step hB hu
      clear hB hu
      rw [keeps_one (by omega) (by omega), newer_step hb0 hb1 hm4 hm5]
      rw [putL_one (by omega) (by omega), newer_step hb0 hb1 hm4 hm5, if_pos rfl] at hO
      generalize hgb : (b + (q + 1)) % 256 = b1 at *
      clear hgb
      go_wp2_with fail
      refine (put_any _ _ _ _ _ _ _ _ hO.bank).mono ?_
      rintro e w7 ⟨rfl, hB, hu⟩
      replace hO := hO.step hB hu
      clear hB hu
      rw [keeps_one (by omega) (by omega), newer_self]
      rw [putL_one (by omega) (by omega), newer_self, if_neg (by decide)] at hO
      go_wp2_with fail
      refine (put_any _ _ _ _ _ _ _ _ hO.bank).mono ?_
      rintro e w8 ⟨rfl, hB, hu⟩
      replace hO := hO.step hB hu
      clear hB hu
      rw [keeps_one (by omega) (by omega), newer_back hb2 (by omega) hm4 hm5]
      rw [putL_one (by omega) (by omega), newer_back hb2 (by omega) hm4 hm5, if_neg (by decide)] at hO
      go_wp2_with fail
      refine (get_any _ _ _ _ _ _ hO.bank).mono ?_
      rintro e w9 ⟨rfl, hk'⟩
      replace hO := hO.kept_ hk'
      clear hk'
      rw [getV_one, getF_one]
      go_wp2_with fail
      go_roundw
      case rel => exact ⟨k + 1, b1, k, by omega, by go_num, rfl, hb2, by omega, hO⟩
      case measure => simp [intOf]; omega
    · obtain rfl : m = k := by omega
      clear hlt hk
      go_wp2_with fail
      go_ret
      exact ⟨rfl, hO.kept⟩
end Go.Proofs.Ytdamnfifkhnpcaa
