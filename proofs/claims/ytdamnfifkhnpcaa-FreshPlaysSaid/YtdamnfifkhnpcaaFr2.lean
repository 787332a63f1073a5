/-
  A cycle goes by in a bank of samples: each one is a cycle older.
-/
import Derived.Test.YtdamnfifkhnpcaaFr1
import Derived.StillTailTactics
namespace Go.Proofs.Ytdamnfifkhnpcaa
open Go.RowKit
set_option linter.unusedSimpArgs false
set_option linter.unusedVariables false

/-- The loop over the bank's map under way. -/
def Ticking (w : World) (p r : Nat) (s : Int) (L : List (Int × Smp)) (i : Nat) (wr : World) : Prop :=
  ∃ seen, wr.heap[i]? = some (.mapIter (some r) L.length seen L.length) ∧ BankAt wr p r s (ageOn (seenF seen) 0 L) ∧ Upd (· = r) w wr ∧ w.heap.size ≤ i

def tickLeft (n i : Nat) (wr : World) : Nat := match wr.heap[i]? with | some (.mapIter _ _ seen _) => unseen n seen | _ => 0

theorem tick_start {w : World} {p r : Nat} {s : Int} {L : List (Int × Smp)} (h : BankAt w p r s L) : Ticking w p r s L w.heap.size (w.alloc (.mapIter (some r) L.length #[] L.length)) := by
  refine ⟨#[], (MapKept.heap_alloc w _).1, ?_, (Upd.refl _ w).alloc _, Nat.le_refl _⟩
  have := ageOn_none L 0
  rw [show seenF #[] = fun _ => false from by funext k; simp [seenF], this]
  exact h.alloc _

theorem tick_next {w wr w1 : World} {p r i j : Nat} {s ch : Int} {L : List (Int × Smp)} {seen : Array Nat} {sm : Smp} (h : BankAt w p r s L) (hb1 : BankAt w1 p r s (ageOn (seenF seen) 0 L)) (hu1 : Upd (fun b => b = r) w w1)
    (hst : Stepped wr w1 i r (ageOn (seenF seen) 0 L) seen j ch sm) (hle : w.heap.size ≤ i) (hlen : (ageOn (seenF seen) 0 L).length = L.length) (o : Obj) :
    Ticking w p r s L i (ChangeMaps.setBlock (w1.alloc o).drew r (mapObj (lset (ageOn (seenF seen) 0 L) ch (older sm)))) := by
  have hri : r ≠ i := by have := heap_lt h.map; omega
  have hget : L[j]? = some (ch, sm) := by
    have := hst.get
    rwa [ageOn_get (seenF seen) L 0 j (by rw [Nat.zero_add]; exact hst.fresh)] at this
  have hl := ageOn_lset (seenF seen) L h.good.once 0 j ch sm hget (by rw [Nat.zero_add]; exact hst.fresh)
  rw [Nat.zero_add] at hl
  have hs : seenF (seen.push j) = fun k => seenF seen k || k == j := by
    funext k
    simp only [seenF]
    exact contains_push seen j k
  have hgood := hb1.good.lset ch (older sm) (older_ok (hb1.good.ages _ (List.mem_of_getElem? hst.get))).1 (older_ok (hb1.good.ages _ (List.mem_of_getElem? hst.get))).2
  refine ⟨seen.push j, ?_, ?_, ?_, hle⟩
  · have h1 := hst.iter
    rw [hlen] at h1
    have h2 : (w1.alloc o).heap[i]? = w1.heap[i]? := (MapKept.heap_alloc w1 o).2 i (heap_lt h1)
    have h3 : (ChangeMaps.setBlock (w1.alloc o).drew r (mapObj (lset (ageOn (seenF seen) 0 L) ch (older sm)))).heap[i]? = (w1.alloc o).heap[i]? := by
      simp only [ChangeMaps.setBlock, Array.getElem?_setIfInBounds]
      rw [if_neg (by omega)]
      rfl
    rw [h3, h2, h1]
  · rw [hs, ← hl]
    exact BankAt.put (w := (w1.alloc o).drew) ((hb1.alloc o).upd ((Upd.refl (fun _ => False) _).drew) id id) _ hgood
  · exact ((hu1.alloc o).drew).setBlock (fun _ => rfl) _

theorem tick_less {w wr w1 : World} {p r i j : Nat} {s ch : Int} {L : List (Int × Smp)} {seen : Array Nat} {sm : Smp} (h : BankAt w p r s L)
    (hit : wr.heap[i]? = some (.mapIter (some r) L.length seen L.length))
    (hst : Stepped wr w1 i r (ageOn (seenF seen) 0 L) seen j ch sm) (hle : w.heap.size ≤ i) (hlen : (ageOn (seenF seen) 0 L).length = L.length) (o o' : Obj) :
    tickLeft L.length i (ChangeMaps.setBlock (w1.alloc o).drew r o') < tickLeft L.length i wr := by
  have hri : r ≠ i := by have := heap_lt h.map; omega
  have h1 := hst.iter
  rw [hlen] at h1
  have h2 : (w1.alloc o).heap[i]? = w1.heap[i]? := (MapKept.heap_alloc w1 o).2 i (heap_lt h1)
  have h3 : (ChangeMaps.setBlock (w1.alloc o).drew r o').heap[i]? = (w1.alloc o).heap[i]? := by
    simp only [ChangeMaps.setBlock, Array.getElem?_setIfInBounds]
    rw [if_neg (by omega)]
    rfl
  unfold tickLeft
  rw [h3, h2, h1, hit]
  have := hst.lt
  rw [hlen] at this
  exact unseen_push this hst.fresh

theorem tick_any (p r : Nat) (s : Int) (L : List (Int × Smp)) (w : World) (h : BankAt w p r s L) :
    Calls Try.prog 16 #[.pointer (some ⟨p, 0, none⟩)] w fun e w' => e = .returned (.tuple #[]) ∧ BankAt w' p r s (aged L) ∧ Upd (· = r) w w' := by
  have hq1 := (h.blk.cell 1).trans rfl
  have hqlt := h.blk.lt
  go_enter Try.func16, Try.ntmps16
  go_wp2_with (first
    | (at_range; refine wpList_range_map _ rfl _ rfl Try.underlying46 r L rfl h.map ?_))
  go_frame
  obtain ⟨i, hi⟩ : ∃ i, w.heap.size = i := ⟨_, rfl⟩
  have hstart := tick_start h
  rw [hi] at hstart ⊢
  have Hi := Lib.hid hi
  clear hi
  go_loopw [2] (fun _ wr => Ticking w p r s L i wr) (fun _ wr => tickLeft L.length i wr)
  case atStart => exact hstart
  case round =>
    obtain ⟨seen, hit, hb, hu, hle⟩ := hrel
    have hlen := Lib.hid (ageOn_length (seenF seen) L 0)
    go_wp2_with (first
      | (at_next; refine wpList_next_map _ rfl _ rfl i r (ageOn (seenF seen) 0 L) seen L.length rfl (by rw [hlen.out]; exact hit) hb.map (by rw [hlen.out]; exact Nat.le_refl _) ?_ ?_))
    · intro hall
      rw [hlen.out] at hall
      go_wp2
      go_end0
      refine ⟨rfl, ?_, hu⟩
      have := ageOn_all (seenF seen) L 0 (fun j hj => by rw [Nat.zero_add]; exact hall j hj)
      rw [← this]
      exact hb
    · intro j ch sm w1 hst hen
      clear hstart
      have hu1 : Upd (fun b => b = r) w w1 := ⟨hst.os.trans hu.os, hst.tape.trans hu.tape, hst.output.trans hu.output, by rw [hst.size]; exact hu.size, fun k hk hs => by
        rw [hst.rest k (by omega)]; exact hu.block k hk hs⟩
      have hb1 : BankAt w1 p r s (ageOn (seenF seen) 0 L) := by
        have hpi : p ≠ i := by have := h.blk.lt; omega
        have hri : r ≠ i := by have := heap_lt h.map; omega
        exact ⟨(hst.rest p hpi).trans hb.blk, (hst.rest r hri).trans hb.map, hb.good⟩
      have hk1 := (hb1.blk.cell 1).trans rfl
      have hklt := hb1.blk.lt
      have hag := hb1.good.ages _ (List.mem_of_getElem? hst.get)
      simp only at hag
      obtain ⟨hag0, hag1⟩ := hag
      go_wp2
      refine still_tail 6 (by kernel_rfl) (by kernel_rfl) ?_
      simp only [List.take_succ_cons, List.take_zero, List.drop_succ_cons, List.drop_zero]
      repeat still_step
      refine wpStill_nil ?_
      refine wpList_putm _ rfl _ _ _ rfl Try.underlying46 Try.underlying3 r (ageOn (seenF seen) 0 L) ch (older sm) rfl rfl rfl (hb1.alloc _).map ?_
      go_frame
      go_wp2
      go_roundw
      case rel => exact tick_next h hb1 hu1 hst hle hlen.out _
      case measure => exact tick_less h hit hst hle hlen.out _ _
end Go.Proofs.Ytdamnfifkhnpcaa
