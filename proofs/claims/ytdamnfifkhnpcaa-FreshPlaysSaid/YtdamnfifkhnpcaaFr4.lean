/-
  The walks of the document's own bank (arrays of 48 channels), told by the same list of samples.
-/
import Derived.Test.YtdamnfifkhnpcaaFrLaws
namespace Go.Proofs.Ytdamnfifkhnpcaa
open Go.RowKit
set_option linter.unusedSimpArgs false
set_option linter.unusedVariables false

/-- A channel's four cells. -/
def RefCell (cs : Array Value) (c : Nat) : Option Smp → Prop
  | some u => cs[1 + c]? = some (.int .i64 u.v) ∧ cs[49 + c]? = some (.int .u8 u.seq) ∧ cs[97 + c]? = some (.int .i64 u.age) ∧ cs[145 + c]? = some (.bool true)
  | none => (∃ x : Int, cs[97 + c]? = some (.int .i64 x) ∧ 0 ≤ x ∧ x ≤ 1000) ∧ cs[145 + c]? = some (.bool false)

structure RefAt (w : World) (b : Nat) (s : Int) (L : List (Int × Smp)) (cs : Array Value) : Prop where
  blk : Blk w b 61 cs
  size : cs.size = 193
  s0 : cs[0]? = some (.int .i64 s)
  cells : ∀ c, c < 48 → RefCell cs c (look L c)
  keys : ∀ x ∈ L, 1 ≤ x.1 ∧ x.1 < 48

theorem RefAt.upd {w w' : World} {b : Nat} {s : Int} {L : List (Int × Smp)} {cs : Array Value} {S : Nat → Prop} (h : RefAt w b s L cs) (hu : Upd S w w') (hb : ¬ S b) : RefAt w' b s L cs :=
  ⟨h.blk.upd hu hb, h.size, h.s0, h.cells, h.keys⟩

theorem RefAt.out {w : World} {b : Nat} {s : Int} {L : List (Int × Smp)} {cs : Array Value} (h : RefAt w b s L cs) {ch : Int} (hc : ch < 1 ∨ 48 ≤ ch) : look L ch = none := by
  cases hl : look L ch with
  | none => rfl
  | some u => have := h.keys _ (look_mem hl); simp only at this; omega

theorem refnewer_any (a b : Int) (w : World) :
    Calls Try.prog 23 #[.int .u8 a, .int .u8 b] w fun e w' => e = .returned (.bool (newerB a b)) ∧ w = w' := by
  by_cases h : 1 ≤ (a - b) % 256
  · go_enter Try.func23, Try.ntmps23
    go_wp2
    go_ret
    exact ⟨ret_bool (by simp only [newerB, h, true_and]), rfl⟩
  · go_enter Try.func23, Try.ntmps23
    go_wp2
    go_ret
    exact ⟨ret_bool (by simp only [newerB]; symm; rw [decide_eq_false_iff_not]; omega), rfl⟩

def refZero (s : Int) : Array Value := (.int .i64 s :: (List.replicate 48 (.int .i64 0) ++ List.replicate 48 (.int .u8 0) ++ List.replicate 48 (.int .i64 0) ++ List.replicate 48 (.bool false))).toArray

theorem build_ref (s : Int) (w : World) : (Instr.build 61 #[(0, .int .i64 s)]).run Try.prog w = .ok (.agg (refZero s)) w := by kernel_rfl

theorem box_ref (s : Int) (w : World) : (Instr.box 61 (.agg (refZero s))).run Try.prog w = .ok (.pointer (some ⟨w.heap.size, 0, none⟩)) (w.alloc (.cells (refZero s) 61)) := by kernel_rfl

theorem refZero_cells (s : Int) (c : Nat) (hc : c < 48) : (refZero s)[97 + c]? = some (.int .i64 0) ∧ (refZero s)[145 + c]? = some (.bool false) := by
  constructor
  · simp only [refZero, List.getElem?_toArray]
    rw [show 97 + c = (96 + c) + 1 from by omega, List.getElem?_cons_succ, List.getElem?_append_left (by simp; omega), List.getElem?_append_right (by simp), List.getElem?_replicate]
    simp; omega
  · simp only [refZero, List.getElem?_toArray]
    rw [show 145 + c = (144 + c) + 1 from by omega, List.getElem?_cons_succ, List.getElem?_append_right (by simp), List.getElem?_replicate]
    simp; omega

theorem refZero_size (s : Int) : (refZero s).size = 193 := by simp only [refZero, List.size_toArray, List.length_cons, List.length_append, List.length_replicate]
theorem refZero_0 (s : Int) : (refZero s)[0]? = some (.int .i64 s) := by simp only [refZero, List.getElem?_toArray, List.getElem?_cons_zero]

theorem refnew_any (s : Int) (w : World) :
    Calls Try.prog 14 #[.int .i64 s] w fun e w' => e = .returned (.pointer (some ⟨w.heap.size, 0, none⟩)) ∧ RefAt w' w.heap.size (min (max s 0) 1000) [] (refZero (min (max s 0) 1000)) ∧ Kept w w' := by
  go_enter Try.func14, Try.ntmps14
  go_wp2_with (first
    | ((with_reducible refine wpList_build _ rfl 61 _ rfl ?v1 ?h1 ?_); (case h1 => exact build_ref _ _))
    | ((with_reducible refine wpList_box _ rfl 61 _ rfl ?v2 ?w2 ?h2 ?_); (case h2 => exact box_ref _ _)))
  go_ret
  refine ⟨rfl, ⟨Blk.new _ _ _, refZero_size _, refZero_0 _, ?_, by simp⟩, Kept.new _ _⟩
  intro c hc
  simp only [look, RefCell]
  have := refZero_cells (min (max s 0) 1000) c hc
  exact ⟨⟨0, this.1, by decide, by decide⟩, this.2⟩

theorem look_keys {L : List (Int × Smp)} {ch : Int} {u : Smp} (h : look L ch = some u) : ∃ x ∈ L, x.1 = ch := ⟨_, look_mem h, rfl⟩

theorem keys_lset {L : List (Int × Smp)} {ch : Int} {u : Smp} (h : ∀ x ∈ L, 1 ≤ x.1 ∧ x.1 < 48) (h1 : 1 ≤ ch) (h2 : ch < 48) : ∀ x ∈ lset L ch u, 1 ≤ x.1 ∧ x.1 < 48 := fun x hx => by
  rcases mem_lset L ch u x hx with rfl | hx
  · exact ⟨h1, h2⟩
  · exact h x hx

set_option maxHeartbeats 1000000 in
theorem refput_out (b : Nat) (s ch seq v : Int) (L : List (Int × Smp)) (cs : Array Value) (w : World) (h : RefAt w b s L cs) (hc : ch < 1 ∨ 48 ≤ ch) :
    Calls Try.prog 15 #[.pointer (some ⟨b, 0, none⟩), .int .i64 ch, .int .u8 seq, .int .i64 v] w fun e w' => e = .returned (.bool false) ∧ w = w' := by
  by_cases h1 : ch < 1
  · clear hc
    go_enter Try.func15, Try.ntmps15
    go_wp2_with fail
    go_ret
    exact ⟨rfl, rfl⟩
  · have h2 : 48 ≤ ch := by omega
    clear hc
    go_enter Try.func15, Try.ntmps15
    go_wp2_with fail
    go_ret
    exact ⟨rfl, rfl⟩

set_option maxHeartbeats 1000000 in
theorem refput_late (b : Nat) (s seq v : Int) (c : Nat) (L : List (Int × Smp)) (cs : Array Value) (u : Smp) (w : World) (h : RefAt w b s L cs) (hc1 : 1 ≤ c) (hc2 : c < 48) (hl : look L c = some u) (hn : newerB seq u.seq = false) :
    Calls Try.prog 15 #[.pointer (some ⟨b, 0, none⟩), .int .i64 c, .int .u8 seq, .int .i64 v] w fun e w' => e = .returned (.bool false) ∧ w = w' := by
  have hcell := h.cells c hc2
  rw [hl] at hcell
  obtain ⟨_, g2, _, g4⟩ := hcell
  have k2 := (h.blk.cell (49 + c)).trans g2
  have k4 := (h.blk.cell (145 + c)).trans g4
  clear g2 g4 hl
  go_enter Try.func15, Try.ntmps15
  go_wp2_with (first | (go_at_call 23; refine (refnewer_any _ _ _).mono ?_; rintro e w1 ⟨rfl, rfl⟩))
  go_ret
  exact ⟨rfl, rfl⟩

theorem refcells_put {cs : Array Value} {L : List (Int × Smp)} {c : Nat} {seq v : Int} (hsz : cs.size = 193) (hc : ∀ c, c < 48 → RefCell cs c (look L c)) (hc2 : c < 48) :
    ∀ j, j < 48 → RefCell ((((cs.setIfInBounds (145 + c) (.bool true)).setIfInBounds (1 + c) (.int .i64 v)).setIfInBounds (49 + c) (.int .u8 seq)).setIfInBounds (97 + c) (.int .i64 0)) j (look (lset L c ⟨v, seq, 0⟩) j) := by
  intro j hj
  rw [look_lset]
  by_cases h : j = c
  · subst h
    rw [if_pos rfl]
    simp only [RefCell, Array.getElem?_setIfInBounds, Array.size_setIfInBounds, hsz]
    refine ⟨?_, ?_, ?_, ?_⟩
    · rw [if_neg (by omega), if_neg (by omega), if_pos trivial, if_pos (by omega)]
    · rw [if_neg (by omega), if_pos trivial, if_pos (by omega)]
    · rw [if_pos trivial, if_pos (by omega)]
    · rw [if_neg (by omega), if_neg (by omega), if_neg (by omega), if_pos trivial, if_pos (by omega)]
  · have hne : ¬ ((j : Nat) : Int) = (c : Int) := by omega
    rw [if_neg hne]
    have h0 := hc j hj
    have e : ∀ i, (i = 1 + j ∨ i = 49 + j ∨ i = 97 + j ∨ i = 145 + j) → ((((cs.setIfInBounds (145 + c) (.bool true)).setIfInBounds (1 + c) (.int .i64 v)).setIfInBounds (49 + c) (.int .u8 seq)).setIfInBounds (97 + c) (.int .i64 0))[i]? = cs[i]? := by
      intro i hi
      simp only [Array.getElem?_setIfInBounds]
      rw [if_neg (by omega), if_neg (by omega), if_neg (by omega), if_neg (by omega)]
    cases hl : look L j with
    | none =>
      rw [hl] at h0
      simp only [RefCell] at h0 ⊢
      rw [e _ (by omega), e _ (by omega)]
      exact h0
    | some u =>
      rw [hl] at h0
      simp only [RefCell] at h0 ⊢
      rw [e _ (by omega), e _ (by omega), e _ (by omega), e _ (by omega)]
      exact h0

theorem RefAt.put {w : World} {b : Nat} {s : Int} {L : List (Int × Smp)} {cs : Array Value} (h : RefAt w b s L cs) (c : Nat) (seq v : Int) (hc1 : 1 ≤ c) (hc2 : c < 48) :
    ∃ cs', RefAt ((((w.setCell ⟨b, 145 + c, none⟩ (.bool true)).setCell ⟨b, 1 + c, none⟩ (.int .i64 v)).setCell ⟨b, 49 + c, none⟩ (.int .u8 seq)).setCell ⟨b, 97 + c, none⟩ (.int .i64 0)) b s (lset L c ⟨v, seq, 0⟩) cs' := by
  refine ⟨_, (((h.blk.set_ (145 + c) _).set_ (1 + c) _).set_ (49 + c) _).set_ (97 + c) _, by simp [h.size], ?_, refcells_put h.size h.cells hc2, keys_lset h.keys (by omega) (by omega)⟩
  have := h.s0
  simp only [Array.getElem?_setIfInBounds]
  rw [if_neg (by omega), if_neg (by omega), if_neg (by omega), if_neg (by omega)]
  exact this

set_option maxHeartbeats 1000000 in
theorem refput_new (b : Nat) (s seq v : Int) (c : Nat) (L : List (Int × Smp)) (cs : Array Value) (w : World) (h : RefAt w b s L cs) (hc1 : 1 ≤ c) (hc2 : c < 48) (hl : look L c = none) :
    Calls Try.prog 15 #[.pointer (some ⟨b, 0, none⟩), .int .i64 c, .int .u8 seq, .int .i64 v] w fun e w' => e = .returned (.bool true) ∧ (∃ cs', RefAt w' b s (lset L c ⟨v, seq, 0⟩) cs') ∧ Upd (· = b) w w' := by
  have hcell := h.cells c hc2
  rw [hl] at hcell
  obtain ⟨⟨x, g3, _, _⟩, g4⟩ := hcell
  obtain ⟨x1, hx1⟩ : ∃ x1, cs[1 + c]? = some x1 := ⟨_, Array.getElem?_eq_getElem (by rw [h.size]; omega)⟩
  obtain ⟨x2, hx2⟩ : ∃ x2, cs[49 + c]? = some x2 := ⟨_, Array.getElem?_eq_getElem (by rw [h.size]; omega)⟩
  have k1 := (h.blk.cell (1 + c)).trans hx1
  have k2 := (h.blk.cell (49 + c)).trans hx2
  have k3 := (h.blk.cell (97 + c)).trans g3
  have k4 := (h.blk.cell (145 + c)).trans g4
  have f1 := h.blk.frozen (1 + c)
  have f2 := h.blk.frozen (49 + c)
  have f3 := h.blk.frozen (97 + c)
  have f4 := h.blk.frozen (145 + c)
  clear g3 g4 hl hx1 hx2
  go_enter Try.func15, Try.ntmps15
  go_wp2_with fail
  go_ret
  exact ⟨rfl, h.put c seq v hc1 hc2, ((((Upd.refl (· = b) w).setCell (fun _ => rfl) _).setCell (fun _ => rfl) _).setCell (fun _ => rfl) _).setCell (fun _ => rfl) _⟩

set_option maxHeartbeats 1000000 in
theorem refput_old (b : Nat) (s seq v : Int) (c : Nat) (L : List (Int × Smp)) (cs : Array Value) (u : Smp) (w : World) (h : RefAt w b s L cs) (hc1 : 1 ≤ c) (hc2 : c < 48) (hl : look L c = some u) (hn : newerB seq u.seq = true) :
    Calls Try.prog 15 #[.pointer (some ⟨b, 0, none⟩), .int .i64 c, .int .u8 seq, .int .i64 v] w fun e w' => e = .returned (.bool true) ∧ (∃ cs', RefAt w' b s (lset L c ⟨v, seq, 0⟩) cs') ∧ Upd (· = b) w w' := by
  have hcell := h.cells c hc2
  rw [hl] at hcell
  obtain ⟨g1, g2, g3, g4⟩ := hcell
  have k1 := (h.blk.cell (1 + c)).trans g1
  have k2 := (h.blk.cell (49 + c)).trans g2
  have k3 := (h.blk.cell (97 + c)).trans g3
  have k4 := (h.blk.cell (145 + c)).trans g4
  have f1 := h.blk.frozen (1 + c)
  have f2 := h.blk.frozen (49 + c)
  have f3 := h.blk.frozen (97 + c)
  have f4 := h.blk.frozen (145 + c)
  clear g1 g2 g3 g4 hl
  go_enter Try.func15, Try.ntmps15
  go_wp2_with (first | (go_at_call 23; refine (refnewer_any _ _ _).mono ?_; rintro e w1 ⟨rfl, rfl⟩))
  go_ret
  exact ⟨rfl, h.put c seq v hc1 hc2, ((((Upd.refl (· = b) w).setCell (fun _ => rfl) _).setCell (fun _ => rfl) _).setCell (fun _ => rfl) _).setCell (fun _ => rfl) _⟩

theorem refput_any (b : Nat) (s ch seq v : Int) (L : List (Int × Smp)) (cs : Array Value) (w : World) (h : RefAt w b s L cs) :
    Calls Try.prog 15 #[.pointer (some ⟨b, 0, none⟩), .int .i64 ch, .int .u8 seq, .int .i64 v] w fun e w' => e = .returned (.bool (keeps L ch seq)) ∧ (∃ cs', RefAt w' b s (putL L ch seq v) cs') ∧ Upd (· = b) w w' := by
  by_cases hc : ch < 1 ∨ 48 ≤ ch
  · have hr : chRange ch = none := by
      unfold chRange
      by_cases h1 : ch < 1
      · rw [if_pos h1]
      · rw [if_neg h1, if_pos (by omega)]
    rw [keeps_out L seq hr, putL_out L seq v hr]
    refine (refput_out b s ch seq v L cs w h hc).mono ?_
    rintro e w' ⟨rfl, rfl⟩
    exact ⟨rfl, ⟨cs, h⟩, Upd.refl _ _⟩
  · obtain ⟨c, rfl⟩ : ∃ c : Nat, ch = c := ⟨ch.toNat, by omega⟩
    have hy := chRange_yes (ch := (c : Int)) (by omega) (by omega)
    cases hl : look L c with
    | none =>
      have hk : keeps L c seq = true := by simp [keeps, hy, hl]
      simp only [putL, hk, if_true]
      exact refput_new b s seq v c L cs w h (by omega) (by omega) hl
    | some u =>
      have hk : keeps L c seq = newerB seq u.seq := by simp [keeps, hy, hl]
      cases hn : newerB seq u.seq with
      | true =>
        rw [hn] at hk
        simp only [putL, hk, if_true]
        exact refput_old b s seq v c L cs u w h (by omega) (by omega) hl hn
      | false =>
        rw [hn] at hk
        simp only [putL, hk, Bool.false_eq_true, if_false]
        refine (refput_late b s seq v c L cs u w h (by omega) (by omega) hl hn).mono ?_
        rintro e w' ⟨rfl, rfl⟩
        exact ⟨rfl, ⟨cs, h⟩, Upd.refl _ _⟩

theorem refage_out (b : Nat) (s ch : Int) (L : List (Int × Smp)) (cs : Array Value) (w : World) (h : RefAt w b s L cs) (hc : ch < 1 ∨ 48 ≤ ch) :
    Calls Try.prog 20 #[.pointer (some ⟨b, 0, none⟩), .int .i64 ch] w fun e w' => e = .returned (.int .i64 1000) ∧ w = w' := by
  by_cases h1 : ch < 1
  · clear hc
    go_enter Try.func20, Try.ntmps20
    go_wp2_with fail
    go_ret
    exact ⟨rfl, rfl⟩
  · have h2 : 48 ≤ ch := by omega
    clear hc
    go_enter Try.func20, Try.ntmps20
    go_wp2_with fail
    go_ret
    exact ⟨rfl, rfl⟩

theorem refage_none (b : Nat) (s : Int) (c : Nat) (L : List (Int × Smp)) (cs : Array Value) (w : World) (h : RefAt w b s L cs) (hc1 : 1 ≤ c) (hc2 : c < 48) (hl : look L c = none) :
    Calls Try.prog 20 #[.pointer (some ⟨b, 0, none⟩), .int .i64 c] w fun e w' => e = .returned (.int .i64 1000) ∧ w = w' := by
  have hcell := h.cells c hc2
  rw [hl] at hcell
  obtain ⟨_, g4⟩ := hcell
  have k4 := (h.blk.cell (145 + c)).trans g4
  clear g4 hl
  go_enter Try.func20, Try.ntmps20
  go_wp2_with fail
  go_ret
  exact ⟨rfl, rfl⟩

theorem refage_some (b : Nat) (s : Int) (c : Nat) (L : List (Int × Smp)) (cs : Array Value) (u : Smp) (w : World) (h : RefAt w b s L cs) (hc1 : 1 ≤ c) (hc2 : c < 48) (hl : look L c = some u) :
    Calls Try.prog 20 #[.pointer (some ⟨b, 0, none⟩), .int .i64 c] w fun e w' => e = .returned (.int .i64 u.age) ∧ w = w' := by
  have hcell := h.cells c hc2
  rw [hl] at hcell
  obtain ⟨_, _, g3, g4⟩ := hcell
  have k3 := (h.blk.cell (97 + c)).trans g3
  have k4 := (h.blk.cell (145 + c)).trans g4
  clear g3 g4 hl
  go_enter Try.func20, Try.ntmps20
  go_wp2_with fail
  go_ret
  exact ⟨rfl, rfl⟩

theorem refage_any (b : Nat) (s ch : Int) (L : List (Int × Smp)) (cs : Array Value) (w : World) (h : RefAt w b s L cs) :
    Calls Try.prog 20 #[.pointer (some ⟨b, 0, none⟩), .int .i64 ch] w fun e w' => e = .returned (.int .i64 (ageL L ch)) ∧ w = w' := by
  by_cases hc : ch < 1 ∨ 48 ≤ ch
  · rw [show ageL L ch = 1000 from by simp [ageL, h.out hc]]
    exact refage_out b s ch L cs w h hc
  · obtain ⟨c, rfl⟩ : ∃ c : Nat, ch = c := ⟨ch.toNat, by omega⟩
    cases hl : look L c with
    | none => simpa [ageL, hl] using refage_none b s c L cs w h (by omega) (by omega) hl
    | some u => simpa [ageL, hl] using refage_some b s c L cs u w h (by omega) (by omega) hl

theorem refget_out (b : Nat) (s ch : Int) (L : List (Int × Smp)) (cs : Array Value) (w : World) (h : RefAt w b s L cs) (hc : ch < 1 ∨ 48 ≤ ch) :
    Calls Try.prog 18 #[.pointer (some ⟨b, 0, none⟩), .int .i64 ch] w fun e w' => e = .returned (.agg #[.int .i64 0, .bool false]) ∧ Kept w w' := by
  by_cases h1 : ch < 1
  · clear hc
    go_enter Try.func18, Try.ntmps18
    go_wp2_with fail
    exact bodyPost_ret (v := .agg #[.int .i64 0, .bool false]) (by simp [results, Try.results18, go_sem]) rfl ⟨rfl, Kept.new _ _⟩
  · have h2 : 48 ≤ ch := by omega
    clear hc
    go_enter Try.func18, Try.ntmps18
    go_wp2_with fail
    exact bodyPost_ret (v := .agg #[.int .i64 0, .bool false]) (by simp [results, Try.results18, go_sem]) rfl ⟨rfl, Kept.new _ _⟩

theorem refget_none (b : Nat) (s : Int) (c : Nat) (L : List (Int × Smp)) (cs : Array Value) (w : World) (h : RefAt w b s L cs) (hc1 : 1 ≤ c) (hc2 : c < 48) (hl : look L c = none) :
    Calls Try.prog 18 #[.pointer (some ⟨b, 0, none⟩), .int .i64 c] w fun e w' => e = .returned (.agg #[.int .i64 0, .bool false]) ∧ Kept w w' := by
  have hcell := h.cells c hc2
  rw [hl] at hcell
  obtain ⟨_, g4⟩ := hcell
  have k4 := (h.blk.cell (145 + c)).trans g4
  have hlt := h.blk.lt
  clear g4 hl
  go_enter Try.func18, Try.ntmps18
  go_wp2_with fail
  exact bodyPost_ret (v := .agg #[.int .i64 0, .bool false]) (by simp [results, Try.results18, go_sem]) rfl ⟨rfl, Kept.new _ _⟩

set_option maxHeartbeats 1000000 in
theorem refget_some (b : Nat) (s : Int) (c : Nat) (L : List (Int × Smp)) (cs : Array Value) (u : Smp) (w : World) (h : RefAt w b s L cs) (hc1 : 1 ≤ c) (hc2 : c < 48) (hl : look L c = some u) :
    Calls Try.prog 18 #[.pointer (some ⟨b, 0, none⟩), .int .i64 c] w fun e w' => e = .returned (.agg #[.int .i64 u.v, .bool (decide (u.age ≤ s))]) ∧ Kept w w' := by
  have hcell := h.cells c hc2
  rw [hl] at hcell
  obtain ⟨g1, _, g3, g4⟩ := hcell
  have k0 := (h.blk.cell 0).trans h.s0
  have k1 := (h.blk.cell (1 + c)).trans g1
  have k3 := (h.blk.cell (97 + c)).trans g3
  have k4 := (h.blk.cell (145 + c)).trans g4
  have hlt := h.blk.lt
  clear g1 g3 g4 hl
  go_enter Try.func18, Try.ntmps18
  go_wp2_with fail
  refine still_tail 18 (by kernel_rfl) (by kernel_rfl) ?_
  simp only [List.take_succ_cons, List.take_zero, List.drop_succ_cons, List.drop_zero]
  repeat still_step
  refine wpStill_nil ?_
  go_wp2_with fail
  exact bodyPost_ret (v := .agg #[.int .i64 u.v, .bool (decide (u.age ≤ s))]) (by simp [results, Try.results18, go_sem]) rfl ⟨rfl, (Kept.new _ _).drew⟩

theorem refget_any (b : Nat) (s ch : Int) (L : List (Int × Smp)) (cs : Array Value) (w : World) (h : RefAt w b s L cs) :
    Calls Try.prog 18 #[.pointer (some ⟨b, 0, none⟩), .int .i64 ch] w fun e w' => e = .returned (.agg #[.int .i64 (getV L ch), .bool (getF s L ch)]) ∧ Kept w w' := by
  by_cases hc : ch < 1 ∨ 48 ≤ ch
  · rw [show getV L ch = 0 from by simp [getV, h.out hc], show getF s L ch = false from by simp [getF, h.out hc]]
    exact refget_out b s ch L cs w h hc
  · obtain ⟨c, rfl⟩ : ∃ c : Nat, ch = c := ⟨ch.toNat, by omega⟩
    cases hl : look L c with
    | none => simpa [getV, getF, hl] using refget_none b s c L cs w h (by omega) (by omega) hl
    | some u => simpa [getV, getF, hl] using refget_some b s c L cs u w h (by omega) (by omega) hl
end Go.Proofs.Ytdamnfifkhnpcaa
