/-
  A map from channels to samples, as one list: what a look-up, a store and a step of a range loop do to it.
-/
import Derived.Maps.RangeRun
import Derived.Maps.OwnOps
import Derived.Maps.RangeWalk
import Derived.WalkKit
namespace Go.Proofs.Ytdamnfifkhnpcaa
set_option linter.unusedSimpArgs false
set_option linter.unusedVariables false
open Go.RowKit

/-- A channel's sample: its value, its number, its age. -/
structure Smp where
  v : Int
  seq : Int
  age : Int

abbrev Smp.val (s : Smp) : Value := .agg #[.int .i64 s.v, .int .u8 s.seq, .int .i64 s.age]

def entryOf (i : Nat) (x : Int × Smp) : MapEntry := ⟨.int .i64 x.1, x.2.val, i⟩

def entriesFrom : Nat → List (Int × Smp) → List MapEntry
  | _, [] => []
  | i, x :: r => entryOf i x :: entriesFrom (i + 1) r

def mapObj (L : List (Int × Smp)) : Obj := .map (entriesFrom 0 L).toArray L.length

def look : List (Int × Smp) → Int → Option Smp
  | [], _ => none
  | x :: r, k => if k = x.1 then some x.2 else look r k

def lset : List (Int × Smp) → Int → Smp → List (Int × Smp)
  | [], k, s => [(k, s)]
  | x :: r, k, s => if k = x.1 then (k, s) :: r else x :: lset r k s

theorem look_lset (L : List (Int × Smp)) (k j : Int) (s : Smp) : look (lset L k s) j = if j = k then some s else look L j := by
  induction L with
  | nil => simp [lset, look]
  | cons x r ih =>
    simp only [lset]
    by_cases h : k = x.1
    · subst h
      simp only [if_pos, look]
      by_cases hj : j = x.1 <;> simp [hj]
    · simp only [if_neg h, look, ih]
      by_cases hj : j = x.1
      · subst hj
        have : ¬ x.1 = k := fun e => h e.symm
        simp [this]
      · simp [hj]

/-- A list in which each channel stands once. -/
def Once (L : List (Int × Smp)) : Prop := (L.map (·.1)).Nodup

theorem mem_lset_keys (L : List (Int × Smp)) (k : Int) (s : Smp) (j : Int) : j ∈ (lset L k s).map (·.1) ↔ j = k ∨ j ∈ L.map (·.1) := by
  induction L with
  | nil => simp [lset]
  | cons x r ih =>
    simp only [lset]
    by_cases h : k = x.1
    · subst h; simp
    · simp only [if_neg h, List.map_cons, List.mem_cons, ih]
      constructor
      · rintro (h1 | h1 | h1) <;> simp [h1]
      · rintro (h1 | h1 | h1) <;> simp [h1]

theorem Once.lset {L : List (Int × Smp)} (h : Once L) (k : Int) (s : Smp) : Once (lset L k s) := by
  unfold Once at *
  induction L with
  | nil => simp [Go.Proofs.Ytdamnfifkhnpcaa.lset]
  | cons x r ih =>
    simp only [Go.Proofs.Ytdamnfifkhnpcaa.lset]
    rw [List.map_cons, List.nodup_cons] at h
    by_cases hk : k = x.1
    · subst hk; rw [if_pos rfl, List.map_cons, List.nodup_cons]; exact h
    · rw [if_neg hk, List.map_cons, List.nodup_cons, mem_lset_keys]
      refine ⟨?_, ih h.2⟩
      rintro (h1 | h1)
      · exact hk h1.symm
      · exact h.1 h1

/-! ### the entries -/

theorem entriesFrom_length (L : List (Int × Smp)) : ∀ i, (entriesFrom i L).length = L.length := by
  induction L with
  | nil => intro i; rfl
  | cons x r ih => intro i; simp [entriesFrom, ih]

theorem findNow_entries (k : Int) (L : List (Int × Smp)) : ∀ i,
    (look L k = none ∧ Instr.findNow (.int .i64) (.int .i64 k) (entriesFrom i L) i = some none) ∨
    ∃ j s, look L k = some s ∧ j < L.length ∧ Instr.findNow (.int .i64) (.int .i64 k) (entriesFrom i L) i = some (some (i + j, s.val)) ∧
      (∀ u : Smp, ∀ b, (entriesFrom b L).modify j (fun e => { e with key := .int .i64 k, val := u.val }) = entriesFrom b (lset L k u)) ∧ (entriesFrom i L)[j]?.map (·.key) = some (.int .i64 k) := by
  induction L with
  | nil => intro i; exact .inl ⟨rfl, rfl⟩
  | cons x r ih =>
    intro i
    by_cases h : k = x.1
    · subst h
      refine .inr ⟨0, x.2, by simp [look], by simp, by simp [entriesFrom, entryOf, Instr.findNow, Instr.sameNow], ?_, by simp [entriesFrom, entryOf]⟩
      intro u b
      simp [entriesFrom, entryOf, lset]
    · have hb : (k == x.1) = false := by simpa using h
      rcases ih (i + 1) with ⟨h1, h2⟩ | ⟨j, s, h1, h2, h3, h4, h5⟩
      · refine .inl ⟨by simp [look, h, h1], ?_⟩
        simp [entriesFrom, entryOf, Instr.findNow, Instr.sameNow, hb, h2]
      · refine .inr ⟨j + 1, s, by simp [look, h, h1], by simp; omega, ?_, ?_, ?_⟩
        · simp only [entriesFrom, entryOf, Instr.findNow, Instr.sameNow, hb, h3, if_true]
          rw [show i + 1 + j = i + (j + 1) from by omega]
        · intro u b
          simp only [entriesFrom, lset, if_neg h, List.modify_succ_cons, h4]
        · simpa [entriesFrom] using h5

theorem entries_lset_new (k : Int) (s : Smp) (L : List (Int × Smp)) (h : look L k = none) : ∀ i,
    entriesFrom i L ++ [⟨.int .i64 k, s.val, i + L.length⟩] = entriesFrom i (lset L k s) ∧ (lset L k s).length = L.length + 1 := by
  induction L with
  | nil => intro i; simp [entriesFrom, lset, entryOf]
  | cons x r ih =>
    intro i
    have hk : ¬ k = x.1 := by intro e; simp [look, e] at h
    have hr : look r k = none := by simpa [look, hk] using h
    obtain ⟨h1, h2⟩ := ih hr (i + 1)
    refine ⟨?_, by simp [lset, hk, h2]⟩
    simp only [entriesFrom, lset, if_neg hk, List.cons_append]
    rw [← h1, List.length_cons, show i + (r.length + 1) = i + 1 + r.length from by omega]

theorem lset_length_old (k : Int) (s u : Smp) (L : List (Int × Smp)) (h : look L k = some u) : (lset L k s).length = L.length := by
  induction L with
  | nil => simp [look] at h
  | cons x r ih =>
    by_cases hk : k = x.1
    · subst hk; simp [lset]
    · have hr : look r k = some u := by simpa [look, hk] using h
      simp [lset, hk, ih hr]

section
variable {P : Program} {t k e : TypeId}

/-- 'v, is := m[k]'. -/
theorem run_look (ht : P.underlying t = some (.map k e)) (hk : P.underlying k = some (.int .i64)) {z : Value} (hz : ∀ w, (zeroValue e).run P w = .ok z w)
    {w : World} {r : Nat} {L : List (Int × Smp)} (hr : w.heap[r]? = some (mapObj L)) (ch : Int) :
    (Instr.lookup t (.map (some r)) (.int .i64 ch) true).run P w =
      .ok (.tuple #[((look L ch).map Smp.val).getD z, .bool (look L ch).isSome]) w := by
  have hf := findNow_entries ch L 0
  unfold mapObj at hr
  have hc : ∀ b, (Instr.checkKey b 10000 k (.int .i64 ch)).run P w = .ok () w := fun b => MapKept.run_checkKey hk (by simp [MapKept.IsKey]) b 9999
  rcases hf with ⟨h1, h2⟩ | ⟨j, s, h1, h2, h3, _⟩
  · have hfk := MapKept.run_findKey (P := P) (w := w) hk h2
    simp [Instr.lookup, run_underlying ht, MapKept.run_getObj_map hr, hc, hfk, h1, hz]
  · have hfk := MapKept.run_findKey (P := P) (w := w) hk h3
    simp [Instr.lookup, run_underlying ht, MapKept.run_getObj_map hr, hc, hfk, h1]

/-- 'm[k] = v'. -/
theorem run_put (ht : P.underlying t = some (.map k e)) (hk : P.underlying k = some (.int .i64))
    {w : World} {r : Nat} {L : List (Int × Smp)} (hr : w.heap[r]? = some (mapObj L)) (ch : Int) (s : Smp) :
    (Instr.mapUpdate t (.map (some r)) (.int .i64 ch) s.val).run P w = .ok () (ChangeMaps.setBlock w r (mapObj (lset L ch s))) := by
  have hf := findNow_entries ch L 0
  unfold mapObj at hr
  have hc : ∀ b, (Instr.checkKey b 10000 k (.int .i64 ch)).run P w = .ok () w := fun b => MapKept.run_checkKey hk (by simp [MapKept.IsKey]) b 9999
  rcases hf with ⟨h1, h2⟩ | ⟨j, u, h1, h2, h3, h4, h5⟩
  · have hfk := MapKept.run_findKey (P := P) (w := w) hk h2
    obtain ⟨e1, e2⟩ := entries_lset_new ch s L h1 0
    rw [Nat.zero_add] at e1
    simp [Instr.mapUpdate, run_underlying ht, MapKept.run_getObj_map hr, hc, hfk, MapKept.run_setObj_map _ hr, ChangeMaps.setBlock, mapObj, ← e1, e2]
  · have hfk := MapKept.run_findKey (P := P) (w := w) hk h3
    have hks : (Instr.keyThatStays (.int .i64 ch) (.int .i64 ch)).run P w = .ok (.int .i64 ch) w := MapKept.run_keyThatStays (by simp [MapKept.IsKey] : MapKept.IsKey (.int .i64) (.int .i64 ch))
    have hm := h4 s 0
    have hl := lset_length_old ch s u L h1
    rw [Nat.zero_add] at hfk
    simp [Instr.mapUpdate, run_underlying ht, MapKept.run_getObj_map hr, hc, hfk, h5, hks, MapKept.run_setObj_map _ hr, ChangeMaps.setBlock, mapObj, hm, hl]

/-- The same where the channel has a sample, and where it has none. -/
theorem run_look_some (ht : P.underlying t = some (.map k e)) (hk : P.underlying k = some (.int .i64)) {z : Value} (hz : ∀ w, (zeroValue e).run P w = .ok z w)
    {w : World} {r : Nat} {L : List (Int × Smp)} (hr : w.heap[r]? = some (mapObj L)) {ch : Int} {s : Smp} (hs : look L ch = some s) :
    (Instr.lookup t (.map (some r)) (.int .i64 ch) true).run P w = .ok (.tuple #[s.val, .bool true]) w := by
  rw [run_look ht hk hz hr, hs]; rfl
theorem run_look_none (ht : P.underlying t = some (.map k e)) (hk : P.underlying k = some (.int .i64)) {z : Value} (hz : ∀ w, (zeroValue e).run P w = .ok z w)
    {w : World} {r : Nat} {L : List (Int × Smp)} (hr : w.heap[r]? = some (mapObj L)) {ch : Int} (hs : look L ch = none) :
    (Instr.lookup t (.map (some r)) (.int .i64 ch) true).run P w = .ok (.tuple #[z, .bool false]) w := by
  rw [run_look ht hk hz hr, hs]; rfl

variable (w : World) {ops : Array Oper} {rest : List Oper} {o : Oper} {a : Act} {Q : Exit → Act → World → Prop}

theorem wpList_look_some (hg : o.guard = none) (m x : Operand) (hop : o.op = Op.lookup t m x true)
    (ht : P.underlying t = some (.map k e)) (hk : P.underlying k = some (.int .i64)) {z : Value} (hz : ∀ w, (zeroValue e).run P w = .ok z w)
    (r : Nat) (L : List (Int × Smp)) (ch : Int) (s : Smp) (hm : a.eval m = .map (some r)) (hx : a.eval x = .int .i64 ch) (hr : w.heap[r]? = some (mapObj L)) (hs : look L ch = some s)
    (hK : wpList P ops Q rest (a.put o.dst (.tuple #[s.val, .bool true])) w) : wpList P ops Q (o :: rest) a w := by
  refine wpList_plain hg fun K' hK' => ?_
  have hrun := run_look_some ht hk hz hr hs
  unfold Oper.wp
  simp [execOp, hop, hm, hx, hrun, Result.andThen]
  exact hK' _ _ hK

theorem wpList_look_none (hg : o.guard = none) (m x : Operand) (hop : o.op = Op.lookup t m x true)
    (ht : P.underlying t = some (.map k e)) (hk : P.underlying k = some (.int .i64)) {z : Value} (hz : ∀ w, (zeroValue e).run P w = .ok z w)
    (r : Nat) (L : List (Int × Smp)) (ch : Int) (hm : a.eval m = .map (some r)) (hx : a.eval x = .int .i64 ch) (hr : w.heap[r]? = some (mapObj L)) (hs : look L ch = none)
    (hK : wpList P ops Q rest (a.put o.dst (.tuple #[z, .bool false])) w) : wpList P ops Q (o :: rest) a w := by
  refine wpList_plain hg fun K' hK' => ?_
  have hrun := run_look_none ht hk hz hr hs
  unfold Oper.wp
  simp [execOp, hop, hm, hx, hrun, Result.andThen]
  exact hK' _ _ hK

theorem wpList_putm (hg : o.guard = none) (m x v : Operand) (hop : o.op = Op.mapUpdate t m x v)
    (ht : P.underlying t = some (.map k e)) (hk : P.underlying k = some (.int .i64))
    (r : Nat) (L : List (Int × Smp)) (ch : Int) (s : Smp) (hm : a.eval m = .map (some r)) (hx : a.eval x = .int .i64 ch) (hv : a.eval v = s.val) (hr : w.heap[r]? = some (mapObj L))
    (hK : wpList P ops Q rest (a.put o.dst undef) (ChangeMaps.setBlock w r (mapObj (lset L ch s)))) : wpList P ops Q (o :: rest) a w := by
  refine wpList_plain hg fun K' hK' => ?_
  have hrun := run_put ht hk hr ch s
  unfold Oper.wp
  simp only [Smp.val] at hrun hv
  simp [execOp, hop, hm, hx, hv, hrun, Result.andThen]
  exact hK' _ _ hK
end

/-! ### a cycle: each sample is a cycle older -/

def older (s : Smp) : Smp := { s with age := min (s.age + 1) 1000 }
def ageOn (seen : Nat → Bool) : Nat → List (Int × Smp) → List (Int × Smp)
  | _, [] => []
  | i, x :: r => (if seen i then (x.1, older x.2) else x) :: ageOn seen (i + 1) r
def aged (L : List (Int × Smp)) : List (Int × Smp) := L.map fun x => (x.1, older x.2)

theorem ageOn_none (L : List (Int × Smp)) : ∀ i, ageOn (fun _ => false) i L = L := by
  induction L with
  | nil => intro i; rfl
  | cons x r ih => intro i; simp [ageOn, ih]
theorem ageOn_all (seen : Nat → Bool) (L : List (Int × Smp)) : ∀ i, (∀ j, j < L.length → seen (i + j) = true) → ageOn seen i L = aged L := by
  induction L with
  | nil => intro i _; rfl
  | cons x r ih =>
    intro i h
    have h0 := h 0 (by simp)
    rw [Nat.add_zero] at h0
    have := ih (i + 1) fun j hj => by have := h (j + 1) (by simpa using hj); rwa [show i + 1 + j = i + (j + 1) from by omega]
    simp [ageOn, h0, this, aged]
theorem ageOn_length (seen : Nat → Bool) (L : List (Int × Smp)) : ∀ i, (ageOn seen i L).length = L.length := by
  induction L with
  | nil => intro i; rfl
  | cons x r ih => intro i; simp [ageOn, ih]
theorem ageOn_keys (seen : Nat → Bool) (L : List (Int × Smp)) : ∀ i, (ageOn seen i L).map (·.1) = L.map (·.1) := by
  induction L with
  | nil => intro i; rfl
  | cons x r ih =>
    intro i
    simp only [ageOn, List.map_cons, ih]
    split <;> rfl
theorem ageOn_get (seen : Nat → Bool) (L : List (Int × Smp)) : ∀ i j, seen (i + j) = false → (ageOn seen i L)[j]? = L[j]? := by
  induction L with
  | nil => intro i j _; rfl
  | cons x r ih =>
    intro i j h
    cases j with
    | zero => rw [Nat.add_zero] at h; simp [ageOn, h]
    | succ j => simp only [ageOn, List.getElem?_cons_succ]; exact ih (i + 1) j (by rwa [show i + 1 + j = i + (j + 1) from by omega])
theorem ageOn_congr {seen seen' : Nat → Bool} (L : List (Int × Smp)) : ∀ i, (∀ j, j < L.length → seen (i + j) = seen' (i + j)) → ageOn seen i L = ageOn seen' i L := by
  induction L with
  | nil => intro i _; rfl
  | cons x r ih =>
    intro i h
    have h0 := h 0 (by simp)
    rw [Nat.add_zero] at h0
    have := ih (i + 1) fun j hj => by have := h (j + 1) (by simpa using hj); rwa [show i + 1 + j = i + (j + 1) from by omega]
    simp [ageOn, h0, this]
theorem ageOn_lset (seen : Nat → Bool) (L : List (Int × Smp)) (ho : Once L) : ∀ i j ch s, L[j]? = some (ch, s) → seen (i + j) = false →
    lset (ageOn seen i L) ch (older s) = ageOn (fun k => seen k || k == i + j) i L := by
  induction L with
  | nil => intro i j ch s h; simp at h
  | cons x r ih =>
    intro i j ch s h hs
    unfold Once at ho
    rw [List.map_cons, List.nodup_cons] at ho
    cases j with
    | zero =>
      rw [Nat.add_zero] at hs
      simp only [List.getElem?_cons_zero, Option.some.injEq] at h
      subst h
      have hc : ageOn seen (i + 1) r = ageOn (fun k => seen k || k == i) (i + 1) r := ageOn_congr r (i + 1) fun j _ => by
        have : (i + 1 + j == i) = false := by simp; omega
        simp [this]
      simp [ageOn, hs, lset, hc]
    | succ j =>
      simp only [List.getElem?_cons_succ] at h
      have hm : ch ∈ r.map (·.1) := List.mem_map.2 ⟨(ch, s), List.mem_of_getElem? h, rfl⟩
      have hne : ¬ ch = x.1 := fun e => ho.1 (by rw [← e]; exact hm)
      have hk : (i == i + (j + 1)) = false := by simp
      have := ih ho.2 (i + 1) j ch s h (by rwa [show i + 1 + j = i + (j + 1) from by omega])
      rw [show i + 1 + j = i + (j + 1) from by omega] at this
      simp only [ageOn, lset, hk, Bool.or_false]
      cases seen i with
      | true => simp only [if_true, if_neg hne, this]
      | false => simp only [if_neg hne, this, Bool.false_eq_true, if_false]

theorem once_of_keys {L L' : List (Int × Smp)} (h : Once L) (hk : L'.map (·.1) = L.map (·.1)) : Once L' := by unfold Once at *; rw [hk]; exact h
theorem Once.aged {L : List (Int × Smp)} (h : Once L) : Once (aged L) := once_of_keys h (by simp [Go.Proofs.Ytdamnfifkhnpcaa.aged])
/-- A list in which each channel stands once, and each age is one. -/
structure Good (L : List (Int × Smp)) : Prop where
  once : Once L
  ages : ∀ x ∈ L, 0 ≤ x.2.age ∧ x.2.age ≤ 1000

theorem Good.nil : Good [] := ⟨by simp [Once], by simp⟩
theorem mem_lset (L : List (Int × Smp)) (k : Int) (s : Smp) (x : Int × Smp) (h : x ∈ lset L k s) : x = (k, s) ∨ x ∈ L := by
  induction L with
  | nil => exact .inl (by simpa [lset] using h)
  | cons y r ih =>
    simp only [lset] at h
    split at h
    · rcases List.mem_cons.1 h with h | h
      · exact .inl h
      · exact .inr (List.mem_cons_of_mem _ h)
    · rcases List.mem_cons.1 h with h | h
      · exact .inr (by simp [h])
      · rcases ih h with h | h
        · exact .inl h
        · exact .inr (List.mem_cons_of_mem _ h)
theorem Good.lset {L : List (Int × Smp)} (h : Good L) (k : Int) (s : Smp) (h0 : 0 ≤ s.age) (h1 : s.age ≤ 1000) : Good (lset L k s) :=
  ⟨h.once.lset k s, fun x hx => by
    rcases mem_lset L k s x hx with rfl | hx
    · exact ⟨h0, h1⟩
    · exact h.ages x hx⟩
theorem older_ok {s : Smp} (h : 0 ≤ s.age ∧ s.age ≤ 1000) : 0 ≤ (older s).age ∧ (older s).age ≤ 1000 := by
  simp only [older]; omega
theorem Good.aged {L : List (Int × Smp)} (h : Good L) : Good (aged L) :=
  ⟨h.once.aged, fun x hx => by
    obtain ⟨y, hy, rfl⟩ := List.mem_map.1 hx
    exact older_ok (h.ages y hy)⟩
theorem look_mem {L : List (Int × Smp)} {k : Int} {s : Smp} (h : look L k = some s) : (k, s) ∈ L := by
  induction L with
  | nil => simp [look] at h
  | cons y r ih =>
    simp only [look] at h
    split at h
    · rename_i e
      cases h
      rw [e]; simp
    · exact List.mem_cons_of_mem _ (ih h)
theorem Good.look {L : List (Int × Smp)} (h : Good L) {k : Int} {s : Smp} (hs : look L k = some s) : 0 ≤ s.age ∧ s.age ≤ 1000 := h.ages _ (look_mem hs)

theorem look_aged (L : List (Int × Smp)) (k : Int) : look (aged L) k = (look L k).map older := by
  induction L with
  | nil => rfl
  | cons x r ih =>
    simp only [aged, List.map_cons, look] at ih ⊢
    split
    · rfl
    · exact ih

theorem entries_mem (L : List (Int × Smp)) : ∀ i e, e ∈ entriesFrom i L → ∃ j x, j < L.length ∧ L[j]? = some x ∧ e = entryOf (i + j) x := by
  induction L with
  | nil => intro i e h; simp [entriesFrom] at h
  | cons x r ih =>
    intro i e h
    rcases List.mem_cons.1 h with h | h
    · exact ⟨0, x, by simp, by simp, h⟩
    · obtain ⟨j, y, h1, h2, h3⟩ := ih (i + 1) e h
      exact ⟨j + 1, y, by simpa using h1, by simpa using h2, by rw [h3, show i + 1 + j = i + (j + 1) from by omega]⟩
theorem mem_entries (L : List (Int × Smp)) : ∀ i j x, L[j]? = some x → entryOf (i + j) x ∈ entriesFrom i L := by
  induction L with
  | nil => intro i j x h; simp at h
  | cons y r ih =>
    intro i j x h
    cases j with
    | zero => simp only [List.getElem?_cons_zero, Option.some.injEq] at h; subst h; simp [entriesFrom]
    | succ j =>
      simp only [List.getElem?_cons_succ] at h
      have := ih (i + 1) j x h
      rw [show i + 1 + j = i + (j + 1) from by omega] at this
      simp [entriesFrom, this]
theorem entries_born (L : List (Int × Smp)) : ∀ i, (entriesFrom i L).map (·.born) = List.range' i L.length := by
  induction L with
  | nil => intro i; rfl
  | cons x r ih => intro i; simp [entriesFrom, ih, entryOf, List.range'_succ]

def seenF (seen : Array Nat) : Nat → Bool := fun k => seen.contains k

/-- What a step of a range loop over the map leaves: the iterator's block alone has turned. -/
structure Stepped (w w' : World) (i r : Nat) (L : List (Int × Smp)) (seen : Array Nat) (j : Nat) (ch : Int) (s : Smp) : Prop where
  lt : j < L.length
  get : L[j]? = some (ch, s)
  fresh : seenF seen j = false
  iter : w'.heap[i]? = some (.mapIter (some r) L.length (seen.push j) L.length)
  rest : ∀ b, b ≠ i → w'.heap[b]? = w.heap[b]?
  size : w'.heap.size = w.heap.size
  os : w'.os = w.os
  tape : w'.tape = w.tape
  output : w'.output = w.output

def AllSeen (n : Nat) (seen : Array Nat) : Prop := ∀ j, j < n → seenF seen j = true

/-- How many are still to come. -/
def unseen (n : Nat) (seen : Array Nat) : Nat := ((List.range n).filter fun i => !seen.contains i).length

theorem unseen_push {n j : Nat} {seen : Array Nat} (hj : j < n) (hs : seen.contains j = false) : unseen n (seen.push j) < unseen n seen := by
  unfold unseen
  exact filter_lt (fun i => !seen.contains i) (fun i => !(seen.push j).contains i) (fun x hx => by
    rw [contains_push] at hx; simp at hx ⊢; exact hx.1) j (by simp only [hs]; rfl) (by rw [contains_push]; simp) (List.range n) (by simpa using hj)

section
variable {P : Program} {t k e : TypeId} (w : World) {ops : Array Oper} {rest : List Oper} {o : Oper} {a : Act} {Q : Exit → Act → World → Prop}

theorem wpList_range_map (hg : o.guard = none) (m : Operand) (hop : o.op = Op.range t m) (ht : P.underlying t = some (.map k e))
    (r : Nat) (L : List (Int × Smp)) (hm : a.eval m = .map (some r)) (hr : w.heap[r]? = some (mapObj L))
    (hK : wpList P ops Q rest (a.put o.dst (.pointer (some ⟨w.heap.size, 0, none⟩))) (w.alloc (.mapIter (some r) L.length #[] L.length))) : wpList P ops Q (o :: rest) a w := by
  refine wpList_plain hg fun K' hK' => ?_
  have hrun := run_range_map (P := P) w t k e r _ _ ht hr
  unfold Oper.wp
  simp [execOp, hop, hm, hrun, Result.andThen]
  exact hK' _ _ hK

theorem wpList_next_map (hg : o.guard = none) (it : Operand) (hop : o.op = Op.next it false) (i r : Nat) (L : List (Int × Smp)) (seen : Array Nat) (c0 : Nat)
    (hit : a.eval it = .pointer (some ⟨i, 0, none⟩)) (hi : w.heap[i]? = some (.mapIter (some r) L.length seen c0)) (hr : w.heap[r]? = some (mapObj L)) (hc : L.length ≤ c0)
    (hDone : AllSeen L.length seen → wpList P ops Q rest (a.put o.dst (.tuple #[.bool false])) w)
    (hMore : ∀ (j : Nat) (ch : Int) (s : Smp) (w' : World), Stepped w w' i r L seen j ch s →
      (Instr.entry (.pointer (some ⟨i, 0, none⟩))).run P w' = .ok (.tuple #[.int .i64 ch, s.val]) w' → wpList P ops Q rest (a.put o.dst (.tuple #[.bool true, .int .i64 ch, s.val])) w') : wpList P ops Q (o :: rest) a w := by
  refine wpList_plain hg fun K' hK' => ?_
  unfold Oper.wp
  have hne : r ≠ i := by intro e; rw [e, hi] at hr; cases hr
  have hold : ∀ x ∈ (entriesFrom 0 L).toArray.toList, x.born < L.length := by
    intro x hx
    obtain ⟨j, y, h1, _, rfl⟩ := entries_mem L 0 x (by simpa using hx)
    simp only [entryOf]; omega
  rcases run_next_at (P := P) w o.type i r L.length c0 seen _ _ hi hr hold hc with ⟨h0, hrun⟩ | ⟨en, hen, w1, hal, hrun⟩
  · simp [execOp, hop, hit, hrun, Result.andThen]
    refine hK' _ _ (hDone fun j hj => ?_)
    obtain ⟨x, hx⟩ : ∃ x, L[j]? = some x := ⟨L[j], by simp [hj]⟩
    have := all_seen _ seen h0 (entryOf (0 + j) x) (by simpa using mem_entries L 0 j x hx)
    simpa [entryOf, seenF] using this
  · obtain ⟨hem, hes⟩ := mem_left hen
    obtain ⟨j, x, h1, h2, h3⟩ := entries_mem L 0 en (by simpa using hem)
    rw [Nat.zero_add] at h3
    have hb : en.born = j := by rw [h3]; rfl
    have hi1 : w1.heap[i]? = some (.mapIter (some r) L.length seen c0) := by rcases hal with rfl | rfl <;> exact hi
    have hset := MapKept.heap_set (o' := .mapIter (some r) L.length (seen.push en.born) L.length) hi1
    have hr1 : (ChangeMaps.setBlock w1 i (.mapIter (some r) L.length (seen.push en.born) L.length)).heap[r]? = some (mapObj L) := by
      rw [show (ChangeMaps.setBlock w1 i (.mapIter (some r) L.length (seen.push en.born) L.length)).heap[r]? = w1.heap[r]? from hset.2 r hne]
      rcases hal with rfl | rfl <;> exact hr
    have hentry := run_entry_at (P := P) _ i r L.length seen _ _ en hset.1 hr1 hem (by
      rw [show (entriesFrom 0 L).toArray.toList = entriesFrom 0 L from rfl, entries_born]; exact List.nodup_range')
    simp [execOp, hop, hit, hrun, Result.andThen]
    have hk : en.key = .int .i64 x.1 := by rw [h3]; rfl
    have hv : en.val = x.2.val := by rw [h3]; rfl
    rw [hk, hv] at hentry ⊢
    rw [hb] at hes hset hentry ⊢
    refine hK' _ _ (hMore j x.1 x.2 _ ⟨h1, h2, hes, hset.1, (fun b hb' => ?_), ?_, ?_, ?_, ?_⟩ hentry)
    · rw [show (ChangeMaps.setBlock w1 i (.mapIter (some r) L.length (seen.push j) L.length)).heap[b]? = w1.heap[b]? from hset.2 b hb']
      rcases hal with rfl | rfl <;> rfl
    all_goals (rcases hal with rfl | rfl <;> first | rfl | simp [ChangeMaps.setBlock])
end
end Go.Proofs.Ytdamnfifkhnpcaa
