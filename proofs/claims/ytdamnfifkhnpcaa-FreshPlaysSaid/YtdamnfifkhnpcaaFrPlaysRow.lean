/-
  The statement FreshPlays: whatever the arguments, the law's function returns true, and each argument reads afterwards as it read before. No condition.
-/
import Derived.Test.YtdamnfifkhnpcaaRows
import Derived.Test.YtdamnfifkhnpcaaFr6
import Derived.Test.YtdamnfifkhnpcaaStructs
import Derived.ProofKit
import Derived.OpenShut
import Derived.Carry
namespace Go.Proofs.Ytdamnfifkhnpcaa.freshPlays
open Go.ChangeShapes Go.WideShapes Go.ChangeAt Go.RowKit
set_option linter.unusedVariables false

theorem own : ownKnob Try.prog.godebug = none := by kernel_rfl
theorem laidOut : laidOutB Try.prog = true := by kernel_rfl
theorem cellsD : Try.prog.cellsOf 36 = 4 := by kernel_rfl

set_option maxRecDepth 100000 in
theorem lifted (os : Os) (started : os.Started) (H : Type) (enc : TypeId × Value → H) :
    ReturnsInHanded {} Try.checked os 5 .any (Rows.freshPlaysSpec.pre6 enc Try.prog Try.f5 Rows.freshPlaysRow.domain false) (Rows.freshPlaysSpec.post enc Try.prog Try.f5 false true false false) := by
  refine returnsInHanded_of_change (C := Try.checked) own started (by kernel_rfl) Try.func5
    (ChangeSpec.witness6 (enc := enc) (C := Try.checked) false ⟨#[], #[.int .i64 0, .slice none 0 0, .int .i64 0], []⟩ 8 (by kernel_rfl) (by kernel_rfl) (by kernel_rfl) (by kernel_rfl)) ?_
  intro W base args ds gs before hval0 hW hcnd _
  have hval : ∀ (j : Nat) t v, Try.f5.params[j]? = some t → args[j]? = some v → Value.okWide Try.prog W .any base t v := hval0
  have hW' := hW
  obtain ⟨p, q, hA0, hV, rfl, hfz, hnd⟩ := hW
  have hA : DataW.TrodAll enc Try.prog W 0 (fun _ => true) true Try.f5.params.toList args.toList ds p := hA0
  rw [Try.params5] at hA hval
  obtain ⟨v0, vs0, d0, ds0, p0, q0, hargs, rfl, rfl, h0, r0⟩ := trodAll_cons hA
  obtain ⟨v1, vs1, d1, ds1, p1, q1, rfl, rfl, rfl, h1, r1⟩ := trodAll_cons r0
  obtain ⟨v2, vs2, d2, ds2, p2, q2, rfl, rfl, rfl, h2, r2⟩ := trodAll_cons r1
  obtain ⟨rfl, rfl, rfl⟩ := trodAll_nil r2
  obtain rfl : args = #[v0, v1, v2] := by cases args; simp_all
  obtain ⟨rfl, rfl⟩ := trodVars_none hV
  obtain ⟨a0, rfl, rfl, rfl, w0⟩ := open_int Try.underlying3 (hval 0 3 v0 rfl rfl) h0
  obtain ⟨a2, rfl, rfl, rfl, w2⟩ := open_int Try.underlying3 (hval 2 3 v2 rfl rfl) h2
  obtain ⟨sa, len, cap, rfl⟩ := okWide_slice Try.underlying32 (hval 1 32 v1 rfl rfl)
  have h1k := h1
  obtain ⟨fuel, hf⟩ := h1
  clear hA0 hval0
  simp only [List.append_nil] at hW'
  have hlt : ∀ x ∈ p1, x.block < W.heap.size := fun x hx => by
    have := hW'.lt x (by simp [hx])
    simpa using this
  have fin : Calls Try.prog 5 #[.int .i64 a0, .slice sa len cap, .int .i64 a2] W (SaysTrue W) → Calls Try.checked.prog 5 #[.int .i64 a0, .slice sa len cap, .int .i64 a2] W fun e W' => ∃ v, e = Ending.returned v ∧ Rows.freshPlaysSpec.post enc Try.checked.prog Try.f5 false true false false W #[.int .i64 a0, .slice sa len cap, .int .i64 a2] v W' := by
    intro hc
    refine hc.mono fun e W' ⟨he, hg⟩ => ?_
    subst he
    exact ⟨_, rfl, _, _, _, [], _, [], hW', trodAll_cons_mk (shut_bool Try.underlying4 _) trodAll_mk0,
      trodAll_cons_mk (shut_int Try.underlying3 w0) (trodAll_cons_mk (Below.trod laidOut (by kernel_rfl) (of_decide_eq_true (by kernel_rfl)) h1k hg.below hlt) (trodAll_cons_mk (shut_int Try.underlying3 w2) trodAll_mk0)), rfl, hg.below.frame _, fun h => by cases h⟩
  rcases open_slice_fields Try.underlying32 Try.underlying36 (by kernel_rfl) cellsD hf with ⟨hcs, hx⟩ | ⟨a, len', cap', m, D, Pl, hcs, _, hl, hm, hmm, hx, hi⟩
  · simp [Value.cells] at hcs
    obtain ⟨rfl, rfl, rfl⟩ := hcs
    exact fin (freshPlays_empty a0 a2 none 0 W)
  · simp [Value.cells] at hcs
    obtain ⟨rfl, rfl, rfl⟩ := hcs
    by_cases hl0 : len = 0
    · subst hl0
      exact fin (freshPlays_empty a0 a2 _ cap W)
    by_cases hl1 : 120 < len
    · exact fin (freshPlays_long a0 a2 _ len cap W hl1 (by unfold maxLen at hm; omega))
    simp only [if_true] at hmm
    have hf0 : ∀ i, i < len → ∃ n : Int, W.cell? (a.add (i * 4 + 0)) = some (.int .i64 n) := fun i hil => by
      obtain ⟨ys, n', _, _, _, hg⟩ := hi i (by omega)
      obtain ⟨v, y, hcell, _, ht⟩ := hg 0 _ rfl
      obtain ⟨n, hn, _, _⟩ := DataW.trod_int Try.underlying3 ht
      simp only [List.cons.injEq, and_true] at hn
      exact ⟨n, by rw [← hn]; exact hcell⟩
    have hf1 : ∀ i, i < len → ∃ n : Int, W.cell? (a.add (i * 4 + 1)) = some (.int .i64 n) := fun i hil => by
      obtain ⟨ys, n', _, _, _, hg⟩ := hi i (by omega)
      obtain ⟨v, y, hcell, _, ht⟩ := hg 1 _ rfl
      obtain ⟨n, hn, _, _⟩ := DataW.trod_int Try.underlying3 ht
      simp only [List.cons.injEq, and_true] at hn
      exact ⟨n, by rw [← hn]; exact hcell⟩
    have hf2 : ∀ i, i < len → ∃ n : Int, W.cell? (a.add (i * 4 + 2)) = some (.int .u8 n) := fun i hil => by
      obtain ⟨ys, n', _, _, _, hg⟩ := hi i (by omega)
      obtain ⟨v, y, hcell, _, ht⟩ := hg 2 _ rfl
      obtain ⟨n, hn, _, _⟩ := DataW.trod_int Try.underlying5 ht
      simp only [List.cons.injEq, and_true] at hn
      exact ⟨n, by rw [← hn]; exact hcell⟩
    have hf3 : ∀ i, i < len → ∃ n : Int, W.cell? (a.add (i * 4 + 3)) = some (.int .i64 n) := fun i hil => by
      obtain ⟨ys, n', _, _, _, hg⟩ := hi i (by omega)
      obtain ⟨v, y, hcell, _, ht⟩ := hg 3 _ rfl
      obtain ⟨n, hn, _, _⟩ := DataW.trod_int Try.underlying2 ht
      simp only [List.cons.injEq, and_true] at hn
      exact ⟨n, by rw [← hn]; exact hcell⟩
    obtain ⟨lb, lo, spot⟩ := a
    have hspot : spot = none := by
      obtain ⟨n, hn⟩ := hf0 0 (by omega)
      simpa [Addr.add] using World.cell?_spot hn
    subst hspot
    have hb : lb < W.heap.size := by
      obtain ⟨n, hn⟩ := hf0 0 (by omega)
      exact World.block_lt_of_cell? W _ hn
    have pick : ∀ (j : Nat) (k : IntKind), (∀ i, i < len → ∃ n : Int, W.cell? ((⟨lb, lo, none⟩ : Addr).add (i * 4 + j)) = some (.int k n)) → ∃ N : Nat → Int, ∀ i, i < len → W.cell? ⟨lb, lo + (i * 4 + j), none⟩ = some (.int k (N i)) := fun j k hex => by
      have : ∀ i, ∃ n : Int, i < len → W.cell? ⟨lb, lo + (i * 4 + j), none⟩ = some (.int k n) := fun i => by
        by_cases h : i < len
        · obtain ⟨n, hn⟩ := hex i h
          exact ⟨n, fun _ => by rw [← add_plain]; exact hn⟩
        · exact ⟨0, fun h' => absurd h' h⟩
      exact ⟨fun i => (this i).choose, fun i hi => (this i).choose_spec hi⟩
    obtain ⟨K, hK⟩ := pick 0 .i64 hf0
    obtain ⟨C, hC⟩ := pick 1 .i64 hf1
    obtain ⟨Q, hQ⟩ := pick 2 .u8 hf2
    obtain ⟨V, hV2⟩ := pick 3 .i64 hf3
    exact fin (freshPlays_walk a0 a2 lb lo len cap K C Q V W hb (by omega) (fun i h => hK i h) (fun i h => hC i h) (fun i h => hQ i h) (fun i h => hV2 i h))

theorem proved : Rows.FreshPlaysSaid :=
  OpenClaim.holds_of_wide 5 Try.f5 rfl rfl rfl rfl rfl rfl rfl ⟨rfl, rfl, rfl, rfl, rfl⟩ rfl rfl rfl rfl rfl (by kernel_rfl) Try.func5 (by kernel_rfl)
    (of_decide_eq_true (by kernel_rfl)) (by unfold Func.isWrapper; first | (rw [if_pos (by decide +kernel)]; kernel_rfl) | (rw [if_neg (by decide +kernel)]; exact ⟨rfl, rfl⟩))
    (fun os started H enc _ => lifted os started H enc)
#print axioms proved
end Go.Proofs.Ytdamnfifkhnpcaa.freshPlays
