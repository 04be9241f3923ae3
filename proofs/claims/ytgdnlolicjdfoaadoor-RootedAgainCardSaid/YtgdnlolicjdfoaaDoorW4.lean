import Derived.Test.YtgdnlolicjdfoaaDoorW3
import Derived.StillTailTactics
/- A list of a row. -/
namespace Go.Proofs.YtgdnlolicjdfoaaDoor
open Go Go.Proofs Go.RowKit Slag

theorem ConsAt.own {X : Nat → Prop} {w W : World} {vs : List Nat} {p : Option Addr} {hi : Nat} (h : ConsAt X w vs p) (hx : w.grownBy W none) : ConsAt (Xb X w.heap.size hi) W vs p :=
  ConsAt.ext (grown_ext hx) (ConsAt.weak (X := X) (fun b hb hlt => by
    rcases hb with hb | hb
    · exact hb
    · omega) h)
theorem RowAt.own {X : Nat → Prop} {T : TypeId} {sz : Nat} {w W : World} {n : Nat} {cs : List Value} {v : Value} {hi : Nat} (h : RowAt X T sz w n cs v) (hx : w.grownBy W none) : RowAt (Xb X w.heap.size hi) T sz W n cs v :=
  RowAt.ext (RowAt.weak (X := X) h (fun b hb hlt => by
    rcases hb with hb | hb
    · exact hb
    · omega)) (grown_ext hx)
theorem Xb_lt {X : Nat → Prop} {w W : World} {hi : Nat} (hX : ∀ b, X b → b < w.heap.size) (hs : w.heap.size ≤ W.heap.size) (hh : hi ≤ W.heap.size) : ∀ b, Xb X w.heap.size hi b → b < W.heap.size := fun b hb => by
  rcases hb with hb | ⟨_, hb⟩
  · exact Nat.lt_of_lt_of_le (hX b hb) hs
  · omega
theorem ConsAt.back {X : Nat → Prop} {w : World} {vs : List Nat} {p : Option Addr} {lo hi : Nat} (h : ConsAt (Xb X lo hi) w vs p) : ConsAt X w vs p := h.weak (fun _ hb _ => Xb.left hb)
theorem drop_cons_get {vs : List Nat} {k : Nat} (h : k < vs.length) : vs.drop k = vs.getD k 0 :: vs.drop (k + 1) := by
  rw [List.drop_eq_getElem_cons h]; simp [h]
theorem map_get {vs : List Nat} {k : Nat} (h : k < vs.length) : (vs.map pv)[k]? = some (.pointer (some ⟨vs.getD k 0, 0, none⟩)) := by
  simp [h, pv]

set_option maxRecDepth 100000 in
set_option maxHeartbeats 1000000 in
/-- Of. -/
theorem lof_any (X : Nat → Prop) (vs : List Nat) (v : Value) (w : World) (h : RowAt X 84 1 w vs.length (vs.map pv) v) (hX : ∀ b, X b → b < w.heap.size) (hn : vs.length ≤ 4611686018427387904) :
    Calls Tryd.prog 48 #[v] w fun e w' => ∃ q, e = .returned (.agg #[.pointer q]) ∧ w.grownBy w' none ∧ ConsAt X w' vs q := by
  have HX := Lib.hid hX
  have HH := Lib.hid h
  obtain ⟨_, p, cap, rfl, hcap, hmax, hp, _⟩ := h
  clear hX hp
  generalize hlen : vs.length = len at *
  have HL := Lib.hid hlen
  clear hlen
  go_enter Tryd.func48, Tryd.ntmps48
  go_wp2
  go_loopw [4] (fun i wr => ∃ (k : Nat) (q : Option Addr), k ≤ len ∧ i = .int .i64 ((k : Int) - 1) ∧ wr.heap[w.heap.size]? = some (.cells #[.pointer none] 62 (0, 0)) ∧ wr.heap[w.heap.size + 1]? = some (.cells #[.pointer q] 62 (0, 0)) ∧ ConsAt (Xb X w.heap.size (w.heap.size + 2)) wr (vs.drop k) q ∧ w.grownBy wr none) (fun i _ => (intOf i + 1).toNat)
  case atStart =>
    refine ⟨len, none, by omega, by go_num, two_first _ _ _, two_second _ _ _, ?_, grown_two _ _ _⟩
    rw [← HL.out]; simp [ConsAt]
  case round =>
    obtain ⟨k, q, hk, rfl, hb1, hb2, hc, hg⟩ := hrel
    have h0 := cell_of hb1 0 (v := .pointer none) rfl
    have f0 := frozen_of hb1 0
    have h1 := cell_of hb2 0 (v := .pointer q) rfl
    have f1 := frozen_of hb2 0
    have HB1 := Lib.hid hb1
    have HB2 := Lib.hid hb2
    have HC := Lib.hid hc
    have hsz := hg.size
    clear hb1 hb2 hc
    by_cases hlt : 0 < k
    · obtain ⟨j, rfl⟩ : ∃ j, k = j + 1 := ⟨k - 1, by omega⟩
      have hrow := HH.out.ext (X := X) (grown_ext hg)
      have hvl : j < vs.length := by rw [HL.out]; omega
      obtain ⟨b, off, rfl, hcell⟩ := hrow.cell (map_get hvl)
      have hge : decide ((((j + 1 : Nat) : Int) - 1) ≥ 0) = true := by simp
      have e1 : (((j + 1 : Nat) : Int) - 1) = (j : Int) := by omega
      rw [e1]
      have HD := Lib.hid (drop_cons_get hvl)
      have HVL := Lib.hid hvl
      generalize hx : vs.getD j 0 = x at *
      have HXX := Lib.hid hx
      have hjl : j < len := by omega
      clear hrow hvl hx hge e1
      go_wp2
      refine wp_region_still_tail 5 (by kernel_rfl) (by kernel_rfl) ?_
      simp only [List.take_succ_cons, List.take_zero, List.drop_succ_cons, List.drop_zero]
      change wpStill _ _ wr.drew _ _ _
      repeat still_step
      refine wpStill_nil ?_
      change wpList _ _ _ _ _ wr.drew
      go_wp2_with fail
      refine (lpush_any (Xb X w.heap.size (w.heap.size + 2)) (vs.drop (j + 1)) x q _ ?hc ?hx).mono ?_
      case hc => exact HC.out.ext (Ext.drew _ _)
      case hx => exact Xb_lt HX.out hsz (by have := lt_of_heap HB2.out; simp; omega)
      rintro e w1 ⟨q1, rfl, hg1, hc1⟩
      have hg2 := grown_trans (grown_drew (grown_refl wr none)) hg1
      have g1 := box_none hg2 HB1.out
      have g2 := box_none hg2 HB2.out
      have c2 := cell_of g2 0 rfl
      have z2 := frozen_of g2 0
      have G1 := Lib.hid g1
      have G2 := Lib.hid g2
      have HC1 := Lib.hid hc1
      clear g1 g2 hc1 hg1
      go_wp2
      go_roundw
      case rel =>
        refine ⟨j, q1, by omega, by go_num, heap_set_ne G1.out _ _ (by simp), heap_set_same G2.out 0 _, ?_, grown_set (grown_trans hg hg2) (by simp) _⟩
        rw [HD.out]
        exact HC1.out.ext (Ext.set _ (Xb.own (by simp) (by simp)) _)
      case measure => simp [intOf]
    · obtain rfl : k = 0 := by omega
      go_wp2
      have hr := World.cell?_setCell_same' wr ⟨w.heap.size, 0, none⟩ (Value.pointer q) (by rw [h0]; rfl)
      refine bodyPost_ret (v := .agg #[.pointer q]) (by simp [results, Tryd.results48, go_sem, hr]) rfl ⟨q, rfl, grown_set hg (by simp) _, ?_⟩
      have := HC.out
      rw [List.drop_zero] at this
      exact (this.ext (Ext.set _ (Xb.own (by simp) (by simp)) _)).back
end Go.Proofs.YtgdnlolicjdfoaaDoor
