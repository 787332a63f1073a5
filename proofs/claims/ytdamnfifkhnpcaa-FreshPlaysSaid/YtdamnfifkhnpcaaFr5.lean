/-
  A cycle goes by in the document's own bank.
-/
import Derived.Test.YtdamnfifkhnpcaaFr4
namespace Go.Proofs.Ytdamnfifkhnpcaa
open Go.RowKit
set_option linter.unusedSimpArgs false
set_option linter.unusedVariables false

/-- The loop over the ages under way: the first k are a cycle older. -/
structure RefTick (W w : World) (b : Nat) (s : Int) (L : List (Int × Smp)) (k : Nat) : Prop where
  ex : ∃ cs, Blk w b 61 cs ∧ cs.size = 193 ∧ cs[0]? = some (.int .i64 s) ∧ (∀ c, c < 48 → RefCell cs c (look (if c < k then aged L else L) c))
  upd : Upd (· = b) W w

theorem refcell_age {cs : Array Value} {c : Nat} {u : Option Smp} (hg : ∀ s, u = some s → 0 ≤ s.age ∧ s.age ≤ 1000) (h : RefCell cs c u) : ∃ x : Int, cs[97 + c]? = some (.int .i64 x) ∧ 0 ≤ x ∧ x ≤ 1000 := by
  cases u with
  | none => exact h.1
  | some u => exact ⟨u.age, h.2.2.1, hg u rfl⟩

theorem refcell_older {cs : Array Value} {c j : Nat} {u : Option Smp} {x : Int} (hsz : cs.size = 193) (hc : c < 48) (hx : cs[97 + c]? = some (.int .i64 x)) (h0 : 0 ≤ x) (h1 : x ≤ 1000) (h : RefCell cs c u) :
    RefCell (cs.setIfInBounds (97 + c) (.int .i64 (min (x + 1) 1000))) c (u.map older) := by
  cases u with
  | none =>
    refine ⟨⟨min (x + 1) 1000, ?_, by omega, by omega⟩, ?_⟩
    · simp only [Array.getElem?_setIfInBounds, hsz]; rw [if_pos trivial, if_pos (by omega)]
    · simp only [Array.getElem?_setIfInBounds]; rw [if_neg (by omega)]; exact h.2
  | some u =>
    obtain ⟨g1, g2, g3, g4⟩ := h
    rw [g3] at hx
    have e : u.age = x := by simpa using hx
    subst e
    refine ⟨?_, ?_, ?_, ?_⟩
    · simp only [Array.getElem?_setIfInBounds]; rw [if_neg (by omega)]; exact g1
    · simp only [Array.getElem?_setIfInBounds]; rw [if_neg (by omega)]; exact g2
    · simp only [Array.getElem?_setIfInBounds, hsz]; rw [if_pos trivial, if_pos (by omega)]; rfl
    · simp only [Array.getElem?_setIfInBounds]; rw [if_neg (by omega)]; exact g4

theorem refcell_far {cs : Array Value} {c j : Nat} {u : Option Smp} {x : Value} (hj : j < 48) (hc : c < 48) (hne : c ≠ j) (h : RefCell cs c u) : RefCell (cs.setIfInBounds (97 + j) x) c u := by
  have e : ∀ i, (i = 1 + c ∨ i = 49 + c ∨ i = 97 + c ∨ i = 145 + c) → (cs.setIfInBounds (97 + j) x)[i]? = cs[i]? := by
    intro i hi
    simp only [Array.getElem?_setIfInBounds]
    rw [if_neg (by omega)]
  cases u with
  | none =>
    simp only [RefCell] at h ⊢
    rw [e _ (by omega), e _ (by omega)]
    exact h
  | some u =>
    simp only [RefCell] at h ⊢
    rw [e _ (by omega), e _ (by omega), e _ (by omega), e _ (by omega)]
    exact h

theorem keys_aged {L : List (Int × Smp)} (h : ∀ x ∈ L, 1 ≤ x.1 ∧ x.1 < 48) : ∀ x ∈ aged L, 1 ≤ x.1 ∧ x.1 < 48 := fun x hx => by
  obtain ⟨y, hy, rfl⟩ := List.mem_map.1 hx
  exact h y hy

set_option maxHeartbeats 1000000 in
theorem reftick_any (b : Nat) (s : Int) (L : List (Int × Smp)) (cs : Array Value) (w : World) (h : RefAt w b s L cs) (hg : Good L) :
    Calls Try.prog 17 #[.pointer (some ⟨b, 0, none⟩)] w fun e w' => e = .returned (.tuple #[]) ∧ (∃ cs', RefAt w' b s (aged L) cs') ∧ Upd (· = b) w w' := by
  have hstart : RefTick w w b s L 0 := ⟨⟨cs, h.blk, h.size, h.s0, fun c hc => by rw [if_neg (by omega)]; exact h.cells c hc⟩, Upd.refl _ _⟩
  go_enter Try.func17, Try.ntmps17
  go_wp2_with fail
  go_loopw [2] (fun i wr => ∃ k : Nat, k ≤ 48 ∧ i = .int .i64 k ∧ RefTick w wr b s L k) (fun i _ => 48 - (intOf i).toNat)
  case atStart => exact ⟨0, by omega, rfl, hstart⟩
  case round =>
    clear hstart
    obtain ⟨k, hk, rfl, hT⟩ := hrel
    by_cases hlt : k < 48
    · obtain ⟨⟨cs1, hb1, hsz1, hs1, hc1⟩, hu⟩ := hT
      have hr := hc1 k hlt
      rw [if_neg (by omega)] at hr
      obtain ⟨x, hx, hx0, hx1⟩ := refcell_age (fun s hs => hg.look hs) hr
      have k3 := (hb1.cell (97 + k)).trans hx
      have f3 := hb1.frozen (97 + k)
      have Hx := Lib.hid hx
      clear hx
      go_wp2_with fail
      refine still_tail 13 (by kernel_rfl) (by kernel_rfl) ?_
      simp only [List.take_succ_cons, List.take_zero, List.drop_succ_cons, List.drop_zero]
      repeat still_step
      refine wpStill_nil ?_
      go_wp2_with fail
      go_roundw
      case rel =>
        refine ⟨k + 1, by omega, by go_num, ⟨_, (hb1.set_ (97 + k) _).drew, by simp [hsz1], ?_, ?_⟩, (hu.setCell (fun _ => rfl) _).drew⟩
        · simp only [Array.getElem?_setIfInBounds]; rw [if_neg (by omega)]; exact hs1
        · intro c hc
          by_cases hck : c = k
          · subst hck
            rw [if_pos (by omega), look_aged]
            exact refcell_older (j := 0) hsz1 hlt Hx.out hx0 hx1 hr
          · have := hc1 c hc
            refine refcell_far hlt hc hck ?_
            by_cases h2 : c < k
            · rw [if_pos h2] at this; rw [if_pos (by omega)]; exact this
            · rw [if_neg h2] at this; rw [if_neg (by omega)]; exact this
      case measure => simp [intOf]; omega
    · obtain rfl : k = 48 := by omega
      go_wp2_with fail
      go_end0
      obtain ⟨⟨cs1, hb1, hsz1, hs1, hc1⟩, hu⟩ := hT
      exact ⟨rfl, ⟨cs1, hb1, hsz1, hs1, fun c hc => by have := hc1 c hc; rwa [if_pos hc] at this, keys_aged h.keys⟩, hu⟩
end Go.Proofs.Ytdamnfifkhnpcaa
