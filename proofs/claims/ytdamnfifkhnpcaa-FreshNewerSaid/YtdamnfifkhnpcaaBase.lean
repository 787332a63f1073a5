/-
  Words that all walks of this seat use: the lesser and the greater of two numbers; what a call may have turned; a block that is known whole.
-/
import Derived.WalkKit
import Derived.WalkSpells
import Derived.WalkLawsBesides
import Derived.Deep.QuietTactic
import Derived.BigQuiet
import Derived.StillTailTactics
import Derived.Lib.Hide
namespace Go.Proofs.Ytdamnfifkhnpcaa
open Go.RowKit
set_option linter.unusedSimpArgs false
set_option linter.unusedVariables false

theorem min_two_int (ats : Array TypeId) (ty : TypeId) (k k' : IntKind) (a b : Int) : Builtin.min_ ats ty #[.int k a, .int k' b] = pure (.int k (min a b)) := by
  simp only [Builtin.min_, List.foldlM_cons, List.foldlM_nil, Builtin.min2]
  simp only [Int.min_def]
  by_cases h : b < a
  · simp [h, show ¬ a ≤ b from by omega]
  · simp [h, show a ≤ b from by omega]
theorem max_two_int (ats : Array TypeId) (ty : TypeId) (k k' : IntKind) (a b : Int) : Builtin.max_ ats ty #[.int k a, .int k' b] = pure (.int k (max a b)) := by
  simp only [Builtin.max_, List.foldlM_cons, List.foldlM_nil, Builtin.max2]
  simp only [Int.max_def]
  by_cases h : a < b
  · simp [h, show a ≤ b from by omega]
  · by_cases h2 : a ≤ b
    · have : a = b := by omega
      subst this; simp
    · simp [h, h2]

attribute [go_sem] min_two_int max_two_int

/-- What a call that only makes memory leaves: old cells and old marks read as before. -/
theorem bcell {W w1 : World} (hb : Below W.heap.size W w1) : (∀ b o, b < W.heap.size → w1.cell? ⟨b, o, none⟩ = W.cell? ⟨b, o, none⟩) ∧ (∀ b o, b < W.heap.size → w1.frozen? ⟨b, o, none⟩ = W.frozen? ⟨b, o, none⟩) :=
  ⟨fun b o h => hb.cell (p := ⟨b, o, none⟩) h, fun b o h => hb.frozen (p := ⟨b, o, none⟩) h⟩

theorem WI {a : Int} (h : (Lit.int .i64 a).wf = true) : -9223372036854775808 ≤ a ∧ a ≤ 9223372036854775807 := by
  simp only [Lit.wf, Bool.and_eq_true, decide_eq_true_eq, IntKind.min, IntKind.max, IntKind.signed, IntKind.bits] at h
  first | exact h | (simp at h; omega)
theorem WB {a : Int} (h : (Lit.int .u8 a).wf = true) : 0 ≤ a ∧ a ≤ 255 := by
  simp only [Lit.wf, Bool.and_eq_true, decide_eq_true_eq, IntKind.min, IntKind.max, IntKind.signed, IntKind.bits] at h
  first | exact h | (simp at h; omega)
theorem ret_int {k : IntKind} {a b : Int} (h : a = b) : Ending.returned (.int k a) = .returned (.int k b) := by rw [h]
theorem ret_bool {a b : Bool} (h : a = b) : Ending.returned (.bool a) = .returned (.bool b) := by rw [h]

/-- A region that draws its order, whose first n operations only read: those are walked in the text's order, the others follow. -/
theorem still_tail {P : Program} {id : Nat} {Q : Exit → Act → World → Prop} {a : Act} {w : World} {l : List Oper} (n : Nat) (hm : P.follows .mixedOrders = true) (hB : Region.lexTailB .any l.toArray n = true)
    (h : wpStill P l.toArray w.drew (fun a' => wpList P l.toArray Q (l.drop n) a' w.drew) (l.take n) a) : (Code.region id l.toArray true).wp P Q a w :=
  wp_region_still_tail n hm hB h

section
variable {P : Program} (w : World) {ops : Array Oper} {rest : List Oper} {o : Oper} {a : Act} {Q : Exit → Act → World → Prop}
/-- A struct or an array is built, whose value is known by an equation. -/
theorem wpList_build (hg : o.guard = none) (t : TypeId) (l : List (Nat × Operand)) (hop : o.op = Op.build t l.toArray) (v : Value)
    (hrun : (Instr.build t (l.map fun p => (p.1, a.eval p.2)).toArray).run P w = .ok v w) (hK : wpList P ops Q rest (a.put o.dst v) w) : wpList P ops Q (o :: rest) a w := by
  refine wpList_plain hg fun K' hK' => ?_
  unfold Oper.wp
  have e : (l.toArray.map fun x => (x.1, a.eval x.2)) = (l.map fun p => (p.1, a.eval p.2)).toArray := by simp
  simp only [execOp, hop, e, hrun, Sem.run_bind, Result.andThen_ok, Sem.run_pure]
  exact hK' _ _ hK
/-- A value is boxed, as an equation tells. -/
theorem wpList_box (hg : o.guard = none) (t : TypeId) (x : Operand) (hop : o.op = Op.box t x) (v : Value) (w' : World)
    (hrun : (Instr.box t (a.eval x)).run P w = .ok v w') (hK : wpList P ops Q rest (a.put o.dst v) w') : wpList P ops Q (o :: rest) a w := by
  refine wpList_plain hg fun K' hK' => ?_
  unfold Oper.wp
  simp only [execOp, hop, hrun, Sem.run_bind, Result.andThen_ok, Sem.run_pure]
  exact hK' _ _ hK
end

/-- Block g of w is just the cells cs of type t. -/
def Blk (w : World) (g : Nat) (t : TypeId) (cs : Array Value) : Prop := w.heap[g]? = some (.cells cs t (0, 0))

/-- Of the blocks of w those alone that S names may have turned. -/
structure Upd (S : Nat → Prop) (w w' : World) : Prop where
  os : w'.os = w.os
  tape : w'.tape = w.tape
  output : w'.output = w.output
  size : w.heap.size ≤ w'.heap.size
  block : ∀ k, k < w.heap.size → ¬ S k → w'.heap[k]? = w.heap[k]?

section
variable {w w' w'' : World} {g : Nat} {t : TypeId} {cs : Array Value} {S T : Nat → Prop}
theorem heap_lt {o : Obj} (h : w.heap[g]? = some o) : g < w.heap.size := (Array.getElem?_eq_some_iff.1 h).1
theorem Blk.lt (h : Blk w g t cs) : g < w.heap.size := heap_lt h
theorem Blk.cell (h : Blk w g t cs) (i : Nat) : w.cell? ⟨g, i, none⟩ = cs[i]? := by
  unfold Blk at h; simp [World.cell?, h]
theorem Blk.frozen (h : Blk w g t cs) (i : Nat) : w.frozen? ⟨g, i, none⟩ = false := by
  unfold Blk at h; simp [World.frozen?, h]
theorem Blk.new (w : World) (t : TypeId) (cs : Array Value) : Blk (w.alloc (.cells cs t)) w.heap.size t cs := (MapKept.heap_alloc w _).1
theorem Blk.alloc (h : Blk w g t cs) (o : Obj) : Blk (w.alloc o) g t cs := ((MapKept.heap_alloc w o).2 g h.lt).trans h
theorem Blk.set_ (h : Blk w g t cs) (i : Nat) (u : Value) : Blk (w.setCell ⟨g, i, none⟩ u) g t (cs.setIfInBounds i u) := by
  unfold Blk at h ⊢; simp [World.setCell, Array.getElem?_modify, h]
theorem Blk.far (h : Blk w g t cs) {p : Addr} (hp : g ≠ p.block) (u : Value) : Blk (w.setCell p u) g t cs := (Below.heap_setCell w p u g hp).trans h
theorem Blk.upd (h : Blk w g t cs) (hu : Upd S w w') (hg : ¬ S g) : Blk w' g t cs := (hu.block g h.lt hg).trans h
theorem Blk.drew (h : Blk w g t cs) : Blk w.drew g t cs := h
theorem Blk.drewN (h : Blk w g t cs) (n : Nat) : Blk (w.drewN n) g t cs := h

theorem Upd.refl (S : Nat → Prop) (w : World) : Upd S w w := ⟨rfl, rfl, rfl, Nat.le_refl _, fun _ _ _ => rfl⟩
theorem Upd.trans (h : Upd S w w') (k : Upd S w' w'') : Upd S w w'' :=
  ⟨k.os.trans h.os, k.tape.trans h.tape, k.output.trans h.output, Nat.le_trans h.size k.size, fun i hi hs => (k.block i (Nat.lt_of_lt_of_le hi h.size) hs).trans (h.block i hi hs)⟩
theorem Upd.mono (h : Upd S w w') (hs : ∀ k, k < w.heap.size → S k → T k) : Upd T w w' :=
  ⟨h.os, h.tape, h.output, h.size, fun i hi hn => h.block i hi fun hsi => hn (hs i hi hsi)⟩
theorem Upd.andThen (h : Upd S w w') (k : Upd T w' w'') (hT : ∀ i, i < w.heap.size → T i → S i) : Upd S w w'' :=
  ⟨k.os.trans h.os, k.tape.trans h.tape, k.output.trans h.output, Nat.le_trans h.size k.size, fun i hi hs => (k.block i (Nat.lt_of_lt_of_le hi h.size) (fun ht => hs (hT i hi ht))).trans (h.block i hi hs)⟩
theorem Upd.drew (h : Upd S w w') : Upd S w w'.drew := ⟨h.os, h.tape, h.output, h.size, h.block⟩
theorem Upd.drewN (h : Upd S w w') (n : Nat) : Upd S w (w'.drewN n) := ⟨h.os, h.tape, h.output, h.size, h.block⟩
theorem Upd.alloc (h : Upd S w w') (o : Obj) : Upd S w (w'.alloc o) :=
  h.trans ⟨rfl, rfl, rfl, by simp, fun k hk _ => Below.heap_alloc _ _ _ hk⟩
theorem Upd.setCell (h : Upd S w w') {p : Addr} (hp : p.block < w.heap.size → S p.block) (u : Value) : Upd S w (w'.setCell p u) :=
  ⟨h.os, h.tape, h.output, by have := h.size; simpa [World.setCell] using this, fun k hk hs => by
    rw [Below.heap_setCell _ _ _ _ (fun e => hs (by subst e; exact hp hk))]; exact h.block k hk hs⟩
theorem Upd.setBlock (h : Upd S w w') {b : Nat} (hb : b < w.heap.size → S b) (o : Obj) : Upd S w (ChangeMaps.setBlock w' b o) :=
  ⟨h.os, h.tape, h.output, by have := h.size; simpa [ChangeMaps.setBlock] using this, fun k hk hs => by
    have hne : k ≠ b := fun e => hs (by subst e; exact hb hk)
    have : (ChangeMaps.setBlock w' b o).heap[k]? = w'.heap[k]? := by
      simp only [ChangeMaps.setBlock, Array.getElem?_setIfInBounds]; rw [if_neg (by omega)]
    rw [this]; exact h.block k hk hs⟩
theorem Upd.below (h : Upd S w w') {B : Nat} (hB : B ≤ w.heap.size) (hs : ∀ k, S k → B ≤ k) : Below B w w' :=
  ⟨h.os, h.tape, h.output, h.size, fun k hk => h.block k (by omega) fun hk' => by have := hs k hk'; omega⟩
theorem Upd.of_below {B : Nat} (h : Below B w w') (hs : ∀ k, B ≤ k → k < w.heap.size → S k) : Upd S w w' :=
  ⟨h.os, h.tape, h.output, h.size, fun k hk hn => h.block k (Nat.lt_of_not_le fun hb => hn (hs k hb hk))⟩
/-- Nothing that was there has turned. -/
theorem Upd.none (h : Below w.heap.size w w') : Upd S w w' := Upd.of_below h fun k h1 h2 => by omega
theorem Upd.cell (h : Upd S w w') {p : Addr} (hp : p.block < w.heap.size) (hs : ¬ S p.block) : w'.cell? p = w.cell? p := World.cell?_of_block (w := w) (h.block p.block hp hs)
theorem Upd.frozen (h : Upd S w w') {p : Addr} (hp : p.block < w.heap.size) (hs : ¬ S p.block) : w'.frozen? p = w.frozen? p := World.frozen?_of_block (w := w) (h.block p.block hp hs)
/-- Nothing that was there has turned. -/
abbrev Kept (w w' : World) : Prop := Upd (fun _ => False) w w'
theorem Kept.of (h : Below w.heap.size w w') : Kept w w' := Upd.none h
theorem Kept.to (h : Kept w w') : Upd S w w' := h.mono fun _ _ hf => hf.elim
theorem Kept.below (h : Kept w w') : Below w.heap.size w w' := Upd.below h (Nat.le_refl _) fun _ hf => hf.elim
theorem Kept.new (w : World) (o : Obj) : Kept w (w.alloc o) := (Upd.refl _ w).alloc o
end
end Go.Proofs.Ytdamnfifkhnpcaa
