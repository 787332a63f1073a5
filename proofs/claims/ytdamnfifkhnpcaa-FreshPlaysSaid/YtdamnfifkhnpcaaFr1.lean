/-
  The walks of a bank of samples, one a function.
-/
import Derived.Test.YtdamnfifkhnpcaaProg
import Derived.Test.YtdamnfifkhnpcaaMap
import Derived.Test.YtdamnfifkhnpcaaBase
import Derived.Lib.Hide
namespace Go.Proofs.Ytdamnfifkhnpcaa
open Go.RowKit
set_option linter.unusedSimpArgs false
set_option linter.unusedVariables false

set_option maxHeartbeats 400000 in
theorem of_any (a b : Int) (w : World) :
    Calls Try.prog 24 #[.int .i64 a, .int .i64 b] w fun e w' => e = .returned (.agg #[.int .i64 (min a b), .int .i64 (max a b)]) ∧ Below w.heap.size w w' := by
  go_enter Try.func24, Try.ntmps24
  go_wp2
  exact bodyPost_ret (v := .agg #[.int .i64 (min a b), .int .i64 (max a b)]) (by simp [results, Try.results24, go_sem]) rfl ⟨rfl, (Below.refl _ _).alloc (Nat.le_refl _) _⟩

theorem clamp_any (a b c : Int) (w : World) :
    Calls Try.prog 21 #[.int .i64 a, .int .i64 b, .int .i64 c] w fun e w' => e = .returned (.int .i64 (max (min a c) b)) ∧ w = w' := by
  go_enter Try.func21, Try.ntmps21
  go_wp2
  go_ret
  exact ⟨rfl, rfl⟩

theorem emod_of_tmod (a b : Int) (hb : 1 ≤ b) : a % b = if a.tmod b < 0 then a.tmod b + b else a.tmod b := by
  have h1 : a.tmod b < b := Int.tmod_lt_of_pos a (by omega)
  have h2 : -b < a.tmod b := Int.lt_tmod_of_pos a (by omega)
  have h4 : (a.tmod b) % b = a % b := by
    rw [Int.tmod_eq_emod]; split
    · simp
    · rw [show ((b.natAbs : Nat) : Int) = b from by omega]; simp
  split
  · rw [← h4, ← Int.add_emod_right, Int.emod_eq_of_lt (by omega) (by omega)]
  · rw [← h4, Int.emod_eq_of_lt (by omega) (by omega)]

theorem number_any (a b : Int) (w : World) (hb : 1 ≤ b) (hb2 : b ≤ 9223372036854775807) (ha : -9223372036854775808 ≤ a) (ha2 : a ≤ 9223372036854775807) :
    Calls Try.prog 9 #[.int .i64 a, .int .i64 b] w fun e w' => e = .returned (.int .i64 (a % b)) ∧ w = w' := by
  have h1 : a.tmod b < b := Int.tmod_lt_of_pos a (by omega)
  have h2 : -b < a.tmod b := Int.lt_tmod_of_pos a (by omega)
  have H3 := Lib.hid (emod_of_tmod a b hb)
  by_cases hn : a.tmod b < 0
  · go_enter Try.func9, Try.ntmps9
    go_wp2
    go_ret
    exact ⟨ret_int (by rw [H3.out, if_pos hn]), rfl⟩
  · go_enter Try.func9, Try.ntmps9
    go_wp2
    go_ret
    exact ⟨ret_int (by rw [H3.out, if_neg (by omega)]), rfl⟩

def newerB (a b : Int) : Bool := decide (1 ≤ (a - b) % 256 ∧ (a - b) % 256 ≤ 127)

theorem newer_any (a b : Int) (w : World) :
    Calls Try.prog 11 #[.int .u8 a, .int .u8 b] w fun e w' => e = .returned (.bool (newerB a b)) ∧ w = w' := by
  by_cases h : 1 ≤ (a - b) % 256
  · go_enter Try.func11, Try.ntmps11
    go_wp2
    go_ret
    exact ⟨ret_bool (by simp only [newerB, h, true_and]), rfl⟩
  · go_enter Try.func11, Try.ntmps11
    go_wp2
    go_ret
    exact ⟨ret_bool (by simp only [newerB]; symm; rw [decide_eq_false_iff_not]; omega), rfl⟩

/-- The channels, and between what their values are. -/
def chRange (ch : Int) : Option (Int × Int) :=
  if ch < 1 then none else if 48 ≤ ch then none
  else if 46 ≤ ch then some (-500000, 500000) else if 30 ≤ ch then some (0, 1) else if 29 ≤ ch then some (0, 127)
  else if 25 ≤ ch then some (-30000, 30000) else if 23 ≤ ch then some (-500, 1500) else if 15 ≤ ch then some (0, 6000)
  else if 12 ≤ ch then some (0, 500000) else if 9 ≤ ch then some (0, 60000) else if 5 ≤ ch then some (-500000, 500000) else some (0, 60000)

theorem chRange_none {ch : Int} (h : chRange ch = none) : ch < 1 ∨ 48 ≤ ch := by
  unfold chRange at h
  by_cases h1 : ch < 1
  · exact .inl h1
  · by_cases h2 : 48 ≤ ch
    · exact .inr h2
    · rw [if_neg h1, if_neg h2] at h
      exfalso
      revert h
      repeat' split
      all_goals simp

theorem chRange_cases {ch : Int} (h1 : 1 ≤ ch) (h2 : ch < 48) : (46 ≤ ch ∧ ch < 48) ∨ (30 ≤ ch ∧ ch < 46) ∨ (29 ≤ ch ∧ ch < 30) ∨
    (25 ≤ ch ∧ ch < 29) ∨ (23 ≤ ch ∧ ch < 25) ∨ (15 ≤ ch ∧ ch < 23) ∨ (12 ≤ ch ∧ ch < 15) ∨ (9 ≤ ch ∧ ch < 12) ∨ (5 ≤ ch ∧ ch < 9) ∨ (1 ≤ ch ∧ ch < 5) := by omega

theorem chRange_in {ch : Int} {x : Int × Int} (h : chRange ch = some x) : 1 ≤ ch ∧ ch < 48 := by
  unfold chRange at h
  by_cases h1 : ch < 1
  · rw [if_pos h1] at h; cases h
  · by_cases h2 : 48 ≤ ch
    · rw [if_neg h1, if_pos h2] at h; cases h
    · omega

set_option maxHeartbeats 1000000 in
theorem range_no (ch : Int) (w : World) (h : chRange ch = none) :
    Calls Try.prog 22 #[.int .i64 ch] w fun e w' => e = .returned (.tuple #[.agg #[.int .i64 0, .int .i64 0], .bool false]) ∧ Below w.heap.size w w' := by
  have h' := chRange_none h
  clear h
  by_cases h1 : ch < 1
  · clear h'
    go_enter Try.func22, Try.ntmps22
    go_wp2_with fail
    exact bodyPost_ret (v := .tuple #[.agg #[.int .i64 0, .int .i64 0], .bool false]) (by simp [results, Try.results22, go_sem]) rfl ⟨rfl, (Below.refl _ _).alloc (Nat.le_refl _) _⟩
  · have h2 : 48 ≤ ch := by omega
    clear h'
    go_enter Try.func22, Try.ntmps22
    go_wp2_with fail
    exact bodyPost_ret (v := .tuple #[.agg #[.int .i64 0, .int .i64 0], .bool false]) (by simp [results, Try.results22, go_sem]) rfl ⟨rfl, (Below.refl _ _).alloc (Nat.le_refl _) _⟩

set_option maxHeartbeats 4000000 in
theorem range_yes (ch a b : Int) (w : World) (h : chRange ch = some (a, b)) :
    Calls Try.prog 22 #[.int .i64 ch] w fun e w' => e = .returned (.tuple #[.agg #[.int .i64 a, .int .i64 b], .bool true]) ∧ Below w.heap.size w w' := by
  obtain ⟨g1, g2⟩ := chRange_in h
  rcases chRange_cases g1 g2 with ⟨h1, h2⟩ | ⟨h1, h2⟩ | ⟨h1, h2⟩ | ⟨h1, h2⟩ | ⟨h1, h2⟩ | ⟨h1, h2⟩ | ⟨h1, h2⟩ | ⟨h1, h2⟩ | ⟨h1, h2⟩ | ⟨h1, h2⟩
  all_goals
    unfold chRange at h
    repeat (first | rw [if_pos (by omega)] at h | rw [if_neg (by omega)] at h)
    simp only [Option.some.injEq, Prod.mk.injEq] at h
    obtain ⟨rfl, rfl⟩ := h
    clear g1 g2
    go_enter Try.func22, Try.ntmps22
    go_wp2_with (first | (go_at_call 24; refine (of_any _ _ _).mono ?_; rintro e w1 ⟨rfl, hb⟩; obtain ⟨hc, hf⟩ := bcell hb))
    refine bodyPost_ret (v := .tuple #[.agg #[.int .i64 _, .int .i64 _], .bool true]) ?_ rfl ⟨rfl, ?_⟩
    · simp [results, Try.results22, go_sem, hc]; omega
    · exact ((((Below.refl _ _).alloc (Nat.le_refl _) _).trans (hb.mono (by simp))).setCell (Nat.le_refl _) _).setCell (Nat.le_refl _) _

/-- The bank in memory: its own block, its map's. -/
structure BankAt (w : World) (p r : Nat) (s : Int) (L : List (Int × Smp)) : Prop where
  blk : Blk w p 48 #[.int .i64 s, .map (some r)]
  map : w.heap[r]? = some (mapObj L)
  good : Good L

theorem BankAt.ne {w : World} {p r : Nat} {s : Int} {L : List (Int × Smp)} (h : BankAt w p r s L) : p ≠ r := by
  intro e
  have h1 := h.blk
  have h2 := h.map
  unfold Blk at h1
  rw [e, h2] at h1
  cases h1

theorem BankAt.upd {w w' : World} {p r : Nat} {s : Int} {L : List (Int × Smp)} {S : Nat → Prop} (h : BankAt w p r s L) (hu : Upd S w w') (hp : ¬ S p) (hr : ¬ S r) : BankAt w' p r s L :=
  ⟨h.blk.upd hu hp, (hu.block r (heap_lt h.map) hr).trans h.map, h.good⟩

theorem BankAt.alloc {w : World} {p r : Nat} {s : Int} {L : List (Int × Smp)} (h : BankAt w p r s L) (o : Obj) : BankAt (w.alloc o) p r s L :=
  h.upd ((Upd.refl (fun _ => False) w).alloc o) id id

theorem BankAt.put {w : World} {p r : Nat} {s : Int} {L : List (Int × Smp)} (h : BankAt w p r s L) (L' : List (Int × Smp)) (ho : Good L') : BankAt (ChangeMaps.setBlock w r (mapObj L')) p r s L' := by
  refine ⟨?_, ?_, ho⟩
  · have hn := h.ne
    have hb := h.blk
    unfold Blk at hb ⊢
    rw [← hb]
    simp only [ChangeMaps.setBlock, Array.getElem?_setIfInBounds]
    rw [if_neg (by omega)]
  · have hl := heap_lt h.map
    simp only [ChangeMaps.setBlock, Array.getElem?_setIfInBounds]
    simp [hl]

theorem new_any (s : Int) (w : World) :
    Calls Try.prog 10 #[.int .i64 s] w fun e w' => e = .returned (.pointer (some ⟨w.heap.size + 1, 0, none⟩)) ∧
      BankAt w' (w.heap.size + 1) w.heap.size (max (min s 1000) 0) [] ∧ Upd (fun _ => False) w w' ∧ w'.heap.size = w.heap.size + 2 := by
  have hmm := @run_makeMap Try.prog
  go_enter Try.func10, Try.ntmps10
  go_wp2_with (first | (go_at_call 21; refine (clamp_any _ _ _ _).mono ?_; rintro e w1 ⟨rfl, rfl⟩))
  go_ret
  refine ⟨rfl, ⟨?_, ?_, ?_⟩, ((Upd.refl _ _).alloc _).alloc _, by simp⟩
  · have := Blk.new (w.alloc (.map #[] 0)) 48 #[.int .i64 (max (min s 1000) 0), .map (some w.heap.size)]
    simpa using this
  · exact ((MapKept.heap_alloc (w.alloc (.map #[] 0)) _).2 _ (by simp)).trans (MapKept.heap_alloc w _).1
  · exact Good.nil

theorem zero_last (w : World) : (zeroValue 54).run Try.prog w = .ok (.agg #[.int .i64 0, .int .u8 0, .int .i64 0]) w := by kernel_rfl

set_option maxHeartbeats 1000000 in
theorem put_out (p r : Nat) (s ch seq v : Int) (L : List (Int × Smp)) (w : World) (h : BankAt w p r s L) (hch : chRange ch = none) :
    Calls Try.prog 12 #[.pointer (some ⟨p, 0, none⟩), .int .i64 ch, .int .u8 seq, .int .i64 v] w fun e w' => e = .returned (.bool false) ∧ BankAt w' p r s L ∧ Upd (· = r) w w' := by
  go_enter Try.func12, Try.ntmps12
  go_wp2_with (first | (go_at_call 22; refine (range_no _ _ hch).mono ?_; rintro e w1 ⟨rfl, hb⟩))
  go_ret
  exact ⟨rfl, (h.upd (Upd.none (S := fun _ => False) hb) id id).alloc _, (Upd.none hb).alloc _⟩

set_option maxHeartbeats 1000000 in
theorem put_new (p r : Nat) (s ch seq v a b : Int) (L : List (Int × Smp)) (w : World) (h : BankAt w p r s L) (hch : chRange ch = some (a, b)) (hl : look L ch = none) :
    Calls Try.prog 12 #[.pointer (some ⟨p, 0, none⟩), .int .i64 ch, .int .u8 seq, .int .i64 v] w fun e w' => e = .returned (.bool true) ∧
      BankAt w' p r s (lset L ch ⟨v, seq, 0⟩) ∧ Upd (· = r) w w' := by
  have Hl := Lib.hid hl
  clear hl
  go_enter Try.func12, Try.ntmps12
  go_wp2_with (first
   | (go_at_call 22; refine (range_yes _ _ _ _ hch).mono ?_; rintro e w1 ⟨rfl, hb⟩; have h1 := h.upd (Upd.none (S := fun _ => False) hb) id id; have hq1 := (h1.blk.cell 1).trans rfl; have hqlt := h1.blk.lt)
   | (at_lookup; refine wpList_look_none _ rfl _ _ rfl Try.underlying46 Try.underlying3 zero_last r L _ rfl rfl (h1.alloc _).map Hl.out ?_)
   | (at_mapUpdate; refine wpList_putm _ rfl _ _ _ rfl Try.underlying46 Try.underlying3 r L ch ⟨v, seq, 0⟩ rfl rfl rfl ((h1.alloc _).alloc _).map ?_))
  go_ret
  exact ⟨rfl, ((h1.alloc _).alloc _).put _ (h.good.lset _ _ (Int.le_refl 0) (show (0 : Int) ≤ 1000 by decide)), (((Upd.none (S := fun x => x = r) hb).alloc _).alloc _).setBlock (fun _ => rfl) _⟩

set_option maxHeartbeats 1000000 in
theorem put_old (p r : Nat) (s ch seq v a b : Int) (L : List (Int × Smp)) (u : Smp) (w : World) (h : BankAt w p r s L) (hch : chRange ch = some (a, b)) (hl : look L ch = some u) (hn : newerB seq u.seq = true) :
    Calls Try.prog 12 #[.pointer (some ⟨p, 0, none⟩), .int .i64 ch, .int .u8 seq, .int .i64 v] w fun e w' => e = .returned (.bool true) ∧
      BankAt w' p r s (lset L ch ⟨v, seq, 0⟩) ∧ Upd (· = r) w w' := by
  have Hl := Lib.hid hl
  clear hl
  go_enter Try.func12, Try.ntmps12
  go_wp2_with (first
   | (go_at_call 22; refine (range_yes _ _ _ _ hch).mono ?_; rintro e w1 ⟨rfl, hb⟩; have h1 := h.upd (Upd.none (S := fun _ => False) hb) id id; have hq1 := (h1.blk.cell 1).trans rfl; have hqlt := h1.blk.lt)
   | (at_lookup; refine wpList_look_some _ rfl _ _ rfl Try.underlying46 Try.underlying3 zero_last r L _ u rfl rfl (h1.alloc _).map Hl.out ?_)
   | (go_at_call 11; refine (newer_any _ _ _).mono ?_; rintro e w1 ⟨rfl, rfl⟩)
   | (at_mapUpdate; refine wpList_putm _ rfl _ _ _ rfl Try.underlying46 Try.underlying3 r L ch ⟨v, seq, 0⟩ rfl rfl rfl ((h1.alloc _).alloc _).map ?_))
  go_ret
  exact ⟨rfl, ((h1.alloc _).alloc _).put _ (h.good.lset _ _ (Int.le_refl 0) (show (0 : Int) ≤ 1000 by decide)), (((Upd.none (S := fun x => x = r) hb).alloc _).alloc _).setBlock (fun _ => rfl) _⟩

set_option maxHeartbeats 1000000 in
theorem put_late (p r : Nat) (s ch seq v a b : Int) (L : List (Int × Smp)) (u : Smp) (w : World) (h : BankAt w p r s L) (hch : chRange ch = some (a, b)) (hl : look L ch = some u) (hn : newerB seq u.seq = false) :
    Calls Try.prog 12 #[.pointer (some ⟨p, 0, none⟩), .int .i64 ch, .int .u8 seq, .int .i64 v] w fun e w' => e = .returned (.bool false) ∧
      BankAt w' p r s L ∧ Upd (· = r) w w' := by
  have Hl := Lib.hid hl
  clear hl
  go_enter Try.func12, Try.ntmps12
  go_wp2_with (first
   | (go_at_call 22; refine (range_yes _ _ _ _ hch).mono ?_; rintro e w1 ⟨rfl, hb⟩; have h1 := h.upd (Upd.none (S := fun _ => False) hb) id id; have hq1 := (h1.blk.cell 1).trans rfl; have hqlt := h1.blk.lt)
   | (at_lookup; refine wpList_look_some _ rfl _ _ rfl Try.underlying46 Try.underlying3 zero_last r L _ u rfl rfl (h1.alloc _).map Hl.out ?_)
   | (go_at_call 11; refine (newer_any _ _ _).mono ?_; rintro e w1 ⟨rfl, rfl⟩))
  go_ret
  exact ⟨rfl, (h1.alloc _).alloc _, ((Upd.none hb).alloc _).alloc _⟩

/-- What a sample that comes does to the list, and whether it is taken. -/
def keeps (L : List (Int × Smp)) (ch seq : Int) : Bool :=
  (chRange ch).isSome && (match look L ch with
  | some s => newerB seq s.seq
  | none => true)
def putL (L : List (Int × Smp)) (ch seq v : Int) : List (Int × Smp) := if keeps L ch seq then lset L ch ⟨v, seq, 0⟩ else L

theorem put_any (p r : Nat) (s ch seq v : Int) (L : List (Int × Smp)) (w : World) (h : BankAt w p r s L) :
    Calls Try.prog 12 #[.pointer (some ⟨p, 0, none⟩), .int .i64 ch, .int .u8 seq, .int .i64 v] w fun e w' => e = .returned (.bool (keeps L ch seq)) ∧
      BankAt w' p r s (putL L ch seq v) ∧ Upd (· = r) w w' := by
  unfold putL keeps
  cases hc : chRange ch with
  | none => simpa using put_out p r s ch seq v L w h hc
  | some x =>
    obtain ⟨a, b⟩ := x
    cases hl : look L ch with
    | none => simpa using put_new p r s ch seq v a b L w h hc hl
    | some u =>
      cases hn : newerB seq u.seq with
      | true => simpa [hn] using put_old p r s ch seq v a b L u w h hc hl hn
      | false => simpa [hn] using put_late p r s ch seq v a b L u w h hc hl hn

/-- A channel's value; whether it is fresh; how old it is. -/
def getV (L : List (Int × Smp)) (ch : Int) : Int := ((look L ch).map (·.v)).getD 0
def getF (s : Int) (L : List (Int × Smp)) (ch : Int) : Bool := match look L ch with | some u => decide (u.age ≤ s) | none => false
def ageL (L : List (Int × Smp)) (ch : Int) : Int := ((look L ch).map (·.age)).getD 1000

theorem get_none (p r : Nat) (s ch : Int) (L : List (Int × Smp)) (w : World) (h : BankAt w p r s L) (hl : look L ch = none) :
    Calls Try.prog 13 #[.pointer (some ⟨p, 0, none⟩), .int .i64 ch] w fun e w' => e = .returned (.tuple #[.int .i64 0, .bool false]) ∧ Kept w w' := by
  have hq0 := (h.blk.cell 0).trans rfl
  have hq1 := (h.blk.cell 1).trans rfl
  have hqlt := h.blk.lt
  have Hl := Lib.hid hl
  clear hl
  go_enter Try.func13, Try.ntmps13
  go_wp2_with (first
   | (at_lookup; refine wpList_look_none _ rfl _ _ rfl Try.underlying46 Try.underlying3 zero_last r L _ rfl rfl h.map Hl.out ?_))
  go_quiet (fail)
  go_wp2
  go_ret2
  exact ⟨rfl, (Kept.new _ _).drewN _⟩

theorem get_some (p r : Nat) (s ch : Int) (L : List (Int × Smp)) (u : Smp) (w : World) (h : BankAt w p r s L) (hl : look L ch = some u) :
    Calls Try.prog 13 #[.pointer (some ⟨p, 0, none⟩), .int .i64 ch] w fun e w' => e = .returned (.tuple #[.int .i64 u.v, .bool (decide (u.age ≤ s))]) ∧ Kept w w' := by
  have hq0 := (h.blk.cell 0).trans rfl
  have hq1 := (h.blk.cell 1).trans rfl
  have hqlt := h.blk.lt
  have Hl := Lib.hid hl
  clear hl
  go_enter Try.func13, Try.ntmps13
  go_wp2_with (first
   | (at_lookup; refine wpList_look_some _ rfl _ _ rfl Try.underlying46 Try.underlying3 zero_last r L _ u rfl rfl h.map Hl.out ?_))
  go_quiet (fail)
  go_wp2
  go_ret2
  exact ⟨rfl, (Kept.new _ _).drewN _⟩

theorem get_any (p r : Nat) (s ch : Int) (L : List (Int × Smp)) (w : World) (h : BankAt w p r s L) :
    Calls Try.prog 13 #[.pointer (some ⟨p, 0, none⟩), .int .i64 ch] w fun e w' => e = .returned (.tuple #[.int .i64 (getV L ch), .bool (getF s L ch)]) ∧ Kept w w' := by
  unfold getV getF
  cases hl : look L ch with
  | none => simpa using get_none p r s ch L w h hl
  | some u => simpa using get_some p r s ch L u w h hl

theorem age_none (p r : Nat) (s ch : Int) (L : List (Int × Smp)) (w : World) (h : BankAt w p r s L) (hl : look L ch = none) :
    Calls Try.prog 19 #[.pointer (some ⟨p, 0, none⟩), .int .i64 ch] w fun e w' => e = .returned (.int .i64 1000) ∧ Kept w w' := by
  have hq1 := (h.blk.cell 1).trans rfl
  have hqlt := h.blk.lt
  have Hl := Lib.hid hl
  clear hl
  go_enter Try.func19, Try.ntmps19
  go_wp2_with (first
   | (at_lookup; refine wpList_look_none _ rfl _ _ rfl Try.underlying46 Try.underlying3 zero_last r L _ rfl rfl h.map Hl.out ?_))
  go_ret
  exact ⟨rfl, Kept.new _ _⟩

theorem age_some (p r : Nat) (s ch : Int) (L : List (Int × Smp)) (u : Smp) (w : World) (h : BankAt w p r s L) (hl : look L ch = some u) :
    Calls Try.prog 19 #[.pointer (some ⟨p, 0, none⟩), .int .i64 ch] w fun e w' => e = .returned (.int .i64 u.age) ∧ Kept w w' := by
  have hq1 := (h.blk.cell 1).trans rfl
  have hqlt := h.blk.lt
  have Hl := Lib.hid hl
  clear hl
  go_enter Try.func19, Try.ntmps19
  go_wp2_with (first
   | (at_lookup; refine wpList_look_some _ rfl _ _ rfl Try.underlying46 Try.underlying3 zero_last r L _ u rfl rfl h.map Hl.out ?_))
  go_ret
  exact ⟨rfl, Kept.new _ _⟩

theorem age_any (p r : Nat) (s ch : Int) (L : List (Int × Smp)) (w : World) (h : BankAt w p r s L) :
    Calls Try.prog 19 #[.pointer (some ⟨p, 0, none⟩), .int .i64 ch] w fun e w' => e = .returned (.int .i64 (ageL L ch)) ∧ Kept w w' := by
  unfold ageL
  cases hl : look L ch with
  | none => simpa using age_none p r s ch L w h hl
  | some u => simpa using age_some p r s ch L u w h hl
end Go.Proofs.Ytdamnfifkhnpcaa
