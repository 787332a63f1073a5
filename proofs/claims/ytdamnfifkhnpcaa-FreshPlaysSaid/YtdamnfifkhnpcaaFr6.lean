/-
  Whatever samples come, in whatever cycles: each answer of the bank is the document's own: the walk of the statement FreshPlays.
-/
import Derived.Test.YtdamnfifkhnpcaaFr5
import Derived.Deep.RegionHeld3
namespace Go.Proofs.Ytdamnfifkhnpcaa
open Go.RowKit
set_option linter.unusedSimpArgs false
set_option linter.unusedVariables false

/-- Both banks, beyond all that was there, with the same samples. -/
structure Two (W w : World) (p r b : Nat) (s : Int) (L : List (Int × Smp)) : Prop where
  own : OwnBank W w p r s L
  ref : ∃ cs, RefAt w b s L cs
  b0 : W.heap.size ≤ b

section
variable {W w w' : World} {p r b : Nat} {s : Int} {L L' : List (Int × Smp)}
theorem Two.pb (h : Two W w p r b s L) : p ≠ b := by
  rintro rfl
  obtain ⟨cs, hr⟩ := h.ref
  have h1 := h.own.bank.blk
  have h2 := hr.blk
  unfold Blk at h1 h2
  rw [h1] at h2
  injection h2 with h2
  injection h2 with _ h3
  exact absurd h3 (by decide)
theorem Two.rb (h : Two W w p r b s L) : r ≠ b := by
  rintro rfl
  obtain ⟨cs, hr⟩ := h.ref
  have h1 := h.own.bank.map
  have h2 := hr.blk
  unfold Blk at h2
  rw [h1] at h2
  cases h2
theorem Two.kept (h : Two W w p r b s L) (hk : Kept w w') : Two W w' p r b s L := by
  obtain ⟨cs, hr⟩ := h.ref
  exact ⟨h.own.kept_ hk, ⟨cs, hr.upd hk id⟩, h.b0⟩
theorem Two.drew (h : Two W w p r b s L) : Two W w.drew p r b s L := h.kept (Upd.refl _ _).drew
/-- The bank has stepped, the document's has not yet. -/
theorem Two.half (h : Two W w p r b s L) (hb : BankAt w' p r s L') (hu : Upd (· = r) w w') : OwnBank W w' p r s L' ∧ ∃ cs, RefAt w' b s L cs := by
  obtain ⟨cs, hr⟩ := h.ref
  exact ⟨h.own.step hb hu, cs, hr.upd hu fun e => h.rb e.symm⟩
theorem Two.whole (h : Two W w p r b s L) {w1 : World} (hb : BankAt w1 p r s L') (hu : Upd (· = r) w w1) (hr : ∃ cs, RefAt w' b s L' cs) (hu2 : Upd (· = b) w1 w') : Two W w' p r b s L' := by
  have h1 := h.own.step hb hu
  refine ⟨⟨h1.bank.upd hu2 h.pb h.rb, h1.kept.andThen hu2 fun i hi hr => by have := h.b0; omega, h1.p0, h1.r0⟩, hr, h.b0⟩
end

/-- What a cell of the arguments holds it holds still. -/
theorem Two.cell {W w : World} {p r b : Nat} {s : Int} {L : List (Int × Smp)} (h : Two W w p r b s L) {a : Addr} (ha : a.block < W.heap.size) : w.cell? a = W.cell? a := h.own.kept.cell ha id

set_option maxRecDepth 100000 in
set_option maxHeartbeats 2000000 in
theorem freshPlays_walk (s ask : Int) (lb lo len cap : Nat) (K C Q V : Nat → Int) (W : World) (hlb : lb < W.heap.size) (hlen : len ≤ 120)
    (hK : ∀ i, i < len → W.cell? ⟨lb, lo + i * 4, none⟩ = some (.int .i64 (K i))) (hC : ∀ i, i < len → W.cell? ⟨lb, lo + i * 4 + 1, none⟩ = some (.int .i64 (C i)))
    (hQ : ∀ i, i < len → W.cell? ⟨lb, lo + i * 4 + 2, none⟩ = some (.int .u8 (Q i))) (hV : ∀ i, i < len → W.cell? ⟨lb, lo + i * 4 + 3, none⟩ = some (.int .i64 (V i))) :
    Calls Try.prog 5 #[.int .i64 s, .slice (some ⟨lb, lo, none⟩) len cap, .int .i64 ask] W (SaysTrue W) := by
  have HK := Lib.hid hK
  have HC := Lib.hid hC
  have HQ := Lib.hid hQ
  have HV := Lib.hid hV
  clear hK hC hQ hV
  go_enter Try.func5, Try.ntmps5
  go_wp2_with fail
  refine (first_any _).mono ?_
  rintro e w1 ⟨rfl, k1⟩
  go_wp2_with fail
  refine (new_any _ _).mono ?_
  rintro e w2 ⟨rfl, hB, hk, hsz⟩
  have hO : OwnBank W w2 (w1.heap.size + 1) w1.heap.size (max (min s 1000) 0) [] := ⟨hB, k1.trans hk, by have := k1.size; omega, k1.size⟩
  clear hsz hB hk k1
  generalize w1.heap.size + 1 = p at *
  generalize w1.heap.size = r at *
  go_wp2_with fail
  refine (refnew_any _ _).mono ?_
  rintro e w3 ⟨rfl, hR, hk⟩
  rw [show min (max s 0) 1000 = max (min s 1000) 0 from by omega] at hR
  have hT : Two W w3 p r w2.heap.size (max (min s 1000) 0) [] := ⟨hO.kept_ hk, ⟨_, hR⟩, hO.kept.size⟩
  clear hO hR hk
  generalize w2.heap.size = b at *
  generalize max (min s 1000) 0 = s1 at *
  go_wp2_with fail
  go_loopw [10] (fun i wr => ∃ (k : Nat) (L : List (Int × Smp)), k ≤ len ∧ i = .int .i64 k ∧ Two W wr p r b s1 L) (fun i _ => len - (intOf i).toNat)
  case atStart => exact ⟨0, [], Nat.zero_le _, rfl, hT⟩
  case round =>
    clear hT
    obtain ⟨k, L, hk, rfl, hT⟩ := hrel
    by_cases hlt : k < len
    · have c1 := (hT.cell (a := ⟨lb, lo + k * 4, none⟩) hlb).trans (HK.out k hlt)
      have c2 := (hT.cell (a := ⟨lb, lo + k * 4 + 1, none⟩) hlb).trans (HC.out k hlt)
      have c3 := (hT.cell (a := ⟨lb, lo + k * 4 + 2, none⟩) hlb).trans (HQ.out k hlt)
      have c4 := (hT.cell (a := ⟨lb, lo + k * 4 + 3, none⟩) hlb).trans (HV.out k hlt)
      have i0 : (0 : Int) ≤ (k : Int) := Int.natCast_nonneg _
      have i1 : (k : Int) < (len : Int) := by omega
      by_cases hkind : K k = 1
      focus
        have hkb : (K k == 1) = true := by simp [hkind]
        have HKI := Lib.hid hkind
        clear hkind
        go_wp2_with fail
        have hTd := hT.drew
        go_region_held3 (fun w' => w'.cell? ⟨lb, lo + k * 4 + 1, none⟩ = some (.int .i64 (C k)) ∧ w'.cell? ⟨lb, lo + k * 4 + 2, none⟩ = some (.int .u8 (Q k)) ∧ w'.cell? ⟨lb, lo + k * 4 + 3, none⟩ = some (.int .i64 (V k)))
          (first | exact ⟨c2, c3, c4⟩ | exact ⟨d2, d3, d4⟩ | exact ⟨e2, e3, e4⟩)
          (first
            | (go_at_call 12
               refine (put_any _ _ _ _ _ _ _ _ hTd.own.bank).mono ?_
               rintro e w4 ⟨rfl, hB, hu⟩
               have hH := hTd.half hB hu
               have d2 := (hH.1.kept.cell (p := ⟨lb, lo + k * 4 + 1, none⟩) hlb id).trans (HC.out k hlt)
               have d3 := (hH.1.kept.cell (p := ⟨lb, lo + k * 4 + 2, none⟩) hlb id).trans (HQ.out k hlt)
               have d4 := (hH.1.kept.cell (p := ⟨lb, lo + k * 4 + 3, none⟩) hlb id).trans (HV.out k hlt))
            | (go_at_call 15
               refine (refput_any _ _ _ _ _ _ _ _ hH.2.choose_spec).mono ?_
               rintro e w5 ⟨rfl, hR, hu2⟩
               have hT2 := hTd.whole hB hu hR hu2
               have e2 := (hT2.cell (a := ⟨lb, lo + k * 4 + 1, none⟩) hlb).trans (HC.out k hlt)
               have e3 := (hT2.cell (a := ⟨lb, lo + k * 4 + 2, none⟩) hlb).trans (HQ.out k hlt)
               have e4 := (hT2.cell (a := ⟨lb, lo + k * 4 + 3, none⟩) hlb).trans (HV.out k hlt)))
        clear hB hu hH d2 d3 d4 hR hu2 hTd hT c1 c2 c3 c4 e2 e3 e4 hkb HKI
        rename_i hHeld
        clear hHeld
        generalize putL L (C k) (Q k) (V k) = L2 at *
        generalize keeps L (C k) (Q k) = kp at *
        clear L
      rotate_left
      focus
        have hkb : (K k == 1) = false := by simp [hkind]
        clear hkind
        go_wp2_with fail
        refine (tick_any _ _ _ _ _ hT.own.bank).mono ?_
        rintro e w4 ⟨rfl, hB, hu⟩
        have hH := hT.half hB hu
        have hg := hT.own.bank.good
        go_wp2_with fail
        refine (reftick_any _ _ _ _ _ hH.2.choose_spec hg).mono ?_
        rintro e w5 ⟨rfl, hR, hu2⟩
        have hT2 := hT.whole hB hu hR hu2
        clear hB hu hH hR hu2 hT c1 c2 c3 c4 hkb hg
        generalize aged L = L2 at *
        clear L
      all_goals
        have e2 := (hT2.cell (a := ⟨lb, lo + k * 4 + 1, none⟩) hlb).trans (HC.out k hlt)
        go_wp2_with fail
        have hA := hT2.kept (Kept.new w5 (.cells #[.int .i64 ask, .int .i64 (C k), .int .i64 29] 3))
        have hG := Blk.new w5 3 #[.int .i64 ask, .int .i64 (C k), .int .i64 29]
        clear e2 hT2
        generalize w5.alloc (.cells #[.int .i64 ask, .int .i64 (C k), .int .i64 29] 3) = w6 at *
        generalize w5.heap.size = g at *
        go_loopw [12] (fun j wv => ∃ m : Nat, m ≤ 3 ∧ j = .int .i64 m ∧ Two W wv p r b s1 L2 ∧ Blk wv g 3 #[.int .i64 ask, .int .i64 (C k), .int .i64 29]) (fun j _ => 3 - (intOf j).toNat)
        case atStart => exact ⟨0, by omega, rfl, hA, hG⟩
        case round =>
          clear hA hG
          obtain ⟨m, hm, rfl, hA, hG⟩ := hrel
          by_cases hlt3 : m < 3
          · obtain ⟨e, he⟩ : ∃ e : Int, (#[.int .i64 ask, .int .i64 (C k), .int .i64 29] : Array Value)[m]? = some (.int .i64 e) := by
              rcases (show m = 0 ∨ m = 1 ∨ m = 2 by omega) with rfl | rfl | rfl
              · exact ⟨ask, rfl⟩
              · exact ⟨C k, rfl⟩
              · exact ⟨29, rfl⟩
            have g1 := (hG.cell m).trans he
            have j0 : (0 : Int) ≤ (m : Int) := Int.natCast_nonneg _
            have j1 : (m : Int) < 3 := by omega
            have HE := Lib.hid he
            clear he
            go_wp2_with fail
            refine (get_any _ _ _ _ _ _ hA.own.bank).mono ?_
            rintro e' w7 ⟨rfl, hk7⟩
            have hA7 := hA.kept hk7
            have hG7 := hG.upd hk7 id
            clear hA hG g1 hk7
            have g1 := (hG7.cell m).trans HE.out
            go_wp2_with fail
            refine (refget_any _ _ _ _ _ _ hA7.ref.choose_spec).mono ?_
            rintro e' w8 ⟨rfl, hk8⟩
            have hA8 := hA7.kept hk8
            have hG8 := hG7.upd hk8 id
            clear hA7 hG7 g1 hk8
            generalize getV L2 e = gv at *
            generalize getF s1 L2 e = gf at *
            go_wp2_with fail
            have hA9 := (hA8.kept (Kept.new w8 (.cells #[.int .i64 gv, .bool gf] 39))).drew
            have hG9 := (hG8.alloc (.cells #[.int .i64 gv, .bool gf] 39))
            have hQ9 := Blk.new w8 39 #[.int .i64 gv, .bool gf]
            clear hA8 hG8
            generalize w8.alloc (.cells #[.int .i64 gv, .bool gf] 39) = w9 at *
            generalize w8.heap.size = q at *
            have g1 := (hG9.cell m).trans HE.out
            have g2 := (hQ9.cell 0).trans rfl
            have g3 := (hQ9.cell 1).trans rfl
            simp at g2 g3
            go_region_held3 (fun w' => w'.cell? ⟨g, m, none⟩ = some (.int .i64 e) ∧ w'.cell? ⟨q, 0, none⟩ = some (.int .i64 gv) ∧ w'.cell? ⟨q, 1, none⟩ = some (.bool gf))
              (first | exact ⟨g1, g2, g3⟩ | exact ⟨f1, f2, f3⟩)
              (first
                | (go_at_call 19
                   refine (age_any _ _ _ _ _ _ hA9.own.bank).mono ?_
                   rintro e' w10 ⟨rfl, hk10⟩
                   have hA10 := hA9.kept hk10
                   have hG10 := hG9.drew.upd hk10 id
                   have hQ10 := hQ9.drew.upd hk10 id
                   have f1 := (hG10.cell m).trans HE.out
                   have f2 := (hQ10.cell 0).trans rfl
                   have f3 := (hQ10.cell 1).trans rfl)
                | (go_at_call 20
                   refine (refage_any _ _ _ _ _ _ hA10.ref.choose_spec).mono ?_
                   rintro e' w11 ⟨rfl, rfl⟩))
            go_wp2_with fail
            go_roundw
            case rel => exact ⟨m + 1, by omega, by go_num, hA10, hG10⟩
            case measure => simp [intOf]; omega
          · obtain rfl : m = 3 := by omega
            go_wp2_with fail
            go_roundw
            case rel => exact ⟨k + 1, L2, by omega, by go_num, hA⟩
            case measure => simp [intOf]; omega
    · obtain rfl : k = len := by omega
      go_wp2_with fail
      go_ret
      exact ⟨rfl, hT.own.kept⟩

/-- Too many things: the statement's function says nothing of them. -/
theorem freshPlays_long (s ask : Int) (sa : Option Addr) (len cap : Nat) (W : World) (hlen : 120 < len) (hmax : len ≤ 9223372036854775807) :
    Calls Try.prog 5 #[.int .i64 s, .slice sa len cap, .int .i64 ask] W (SaysTrue W) := by
  have h2 : (120 : Int) < (len : Int) := by omega
  go_enter Try.func5, Try.ntmps5
  go_wp2_with fail
  refine (first_any _).mono ?_
  rintro e w1 ⟨rfl, k1⟩
  go_wp2_with fail
  go_ret
  exact ⟨rfl, k1⟩

set_option maxRecDepth 100000 in
theorem freshPlays_empty (s ask : Int) (sa : Option Addr) (cap : Nat) (W : World) :
    Calls Try.prog 5 #[.int .i64 s, .slice sa 0 cap, .int .i64 ask] W (SaysTrue W) := by
  go_enter Try.func5, Try.ntmps5
  go_wp2_with fail
  refine (first_any _).mono ?_
  rintro e w1 ⟨rfl, k1⟩
  go_wp2_with fail
  refine (new_any _ _).mono ?_
  rintro e w2 ⟨rfl, hB, hk, hsz⟩
  have k2 := k1.trans hk
  clear hsz hB hk k1
  generalize w1.heap.size + 1 = p at *
  go_wp2_with fail
  refine (refnew_any _ _).mono ?_
  rintro e w3 ⟨rfl, hR, hk⟩
  have k3 := k2.trans hk
  clear hR hk k2
  generalize w2.heap.size = b at *
  go_wp2_with fail
  go_loopw [10] (fun i wr => i = .int .i64 0 ∧ Kept W wr) (fun i _ => 0)
  case atStart => exact ⟨rfl, k3⟩
  case round =>
    clear k3
    obtain ⟨rfl, k3⟩ := hrel
    go_wp2_with fail
    go_ret
    exact ⟨rfl, k3⟩
end Go.Proofs.Ytdamnfifkhnpcaa
