import Derived.Test.YtgdnlolicjdfoaaDoorProg
import Derived.WalkKit
import Derived.WalkSpells
import Derived.WalkLawsBesides
import Derived.Deep.RegionHeld3
import Derived.BigQuiet
import Derived.KernelRfl
import Derived.Lib.Hide
/- Worlds that grow, the meter, and the comparison of elements. -/
namespace Go.Proofs.YtgdnlolicjdfoaaDoor
open Go Go.Proofs Go.RowKit

/-! ### worlds -/
/-- Whatever block is not in X stays as it is. -/
structure Ext (X : Nat → Prop) (w w' : World) : Prop where
  size : w.heap.size ≤ w'.heap.size
  block : ∀ (b : Nat) (c : Array Value) (T : TypeId) (fz : Nat × Nat), ¬ X b → w.heap[b]? = some (.cells c T fz) → w'.heap[b]? = some (.cells c T fz)
theorem Ext.refl (X : Nat → Prop) (w : World) : Ext X w w := ⟨Nat.le_refl _, fun _ _ _ _ _ h => h⟩
theorem Ext.trans {X : Nat → Prop} {a b c : World} (h : Ext X a b) (k : Ext X b c) : Ext X a c :=
  ⟨Nat.le_trans h.size k.size, fun i cs T fz hX hi => k.block i cs T fz hX (h.block i cs T fz hX hi)⟩
theorem Ext.weak {X Y : Nat → Prop} {a b : World} (h : Ext X a b) (hXY : ∀ b, X b → Y b) : Ext Y a b :=
  ⟨h.size, fun i cs T fz hY hi => h.block i cs T fz (fun e => hY (hXY i e)) hi⟩
theorem lt_of_heap {w : World} {b : Nat} {o : Obj} (h : w.heap[b]? = some o) : b < w.heap.size := (Array.getElem?_eq_some_iff.1 h).1
theorem Ext.alloc (X : Nat → Prop) (w : World) (o : Obj) : Ext X w (w.alloc o) :=
  ⟨by simp, fun b c T fz _ h => by rw [Below.heap_alloc _ _ _ (lt_of_heap h)]; exact h⟩
theorem Ext.drew (X : Nat → Prop) (w : World) : Ext X w w.drew := ⟨Nat.le_refl _, fun _ _ _ _ _ h => h⟩
theorem Ext.set {X : Nat → Prop} (w : World) {p : Addr} (hp : X p.block) (v : Value) : Ext X w (w.setCell p v) :=
  ⟨by simp [World.setCell], fun b c T fz hX h => by rw [Below.heap_setCell _ _ _ _ (fun e => hX (by rw [e]; exact hp))]; exact h⟩
theorem cell_of {w : World} {b : Nat} {c : Array Value} {T : TypeId} {fz : Nat × Nat} (h : w.heap[b]? = some (.cells c T fz)) (o : Nat) {v : Value} (hv : c[o]? = some v) :
    w.cell? ⟨b, o, none⟩ = some v := by simp [World.cell?, h, hv]
theorem frozen_of {w : World} {b : Nat} {c : Array Value} {T : TypeId} (h : w.heap[b]? = some (.cells c T (0, 0))) (o : Nat) : w.frozen? ⟨b, o, none⟩ = false := by
  simp [World.frozen?, h]
theorem heap_set_same {w : World} {b : Nat} {c : Array Value} {T : TypeId} {fz : Nat × Nat} (h : w.heap[b]? = some (.cells c T fz)) (o : Nat) (v : Value) :
    (w.setCell ⟨b, o, none⟩ v).heap[b]? = some (.cells (c.setIfInBounds o v) T fz) := by
  simp [World.setCell, Array.getElem?_modify, h]
theorem heap_set_ne {w : World} {b : Nat} {x : Option Obj} (h : w.heap[b]? = x) (p : Addr) (v : Value) (hn : b ≠ p.block) : (w.setCell p v).heap[b]? = x := by
  rw [Below.heap_setCell _ _ _ _ hn]; exact h
theorem heap_alloc_lt {w : World} {b : Nat} {x : Obj} (h : w.heap[b]? = some x) (o : Obj) : (w.alloc o).heap[b]? = some x := by
  rw [Below.heap_alloc _ _ _ (lt_of_heap h)]; exact h
/-- What lies there. -/
def cellAt (w : World) (a : Addr) : Value := (w.cell? a).getD undef
theorem at_of {w : World} {a : Addr} {v : Value} (h : w.cell? a = some v) : w.cell? a = some (cellAt w a) := by simp [cellAt, h]
theorem at_set {w : World} {a : Addr} {u : Value} (v : Value) (h : w.cell? a = some u) : (w.setCell a v).cell? a = some (cellAt (w.setCell a v) a) :=
  at_of (World.cell?_setCell_same' _ _ _ (by rw [h]; rfl))
theorem frozen_set {w : World} {a b : Addr} (v : Value) (h : w.frozen? a = false) : (w.setCell b v).frozen? a = false := by rw [World.frozen?_setCell]; exact h
theorem cell_set_ne {w : World} {a b : Addr} {u : Value} (v : Value) (h : w.cell? a = some u) (hn : b.block ≠ a.block) : (w.setCell b v).cell? a = some u := by
  rw [World.cell?_of_block (w := w) (Below.heap_setCell _ _ _ _ (fun e => hn e.symm))]; exact h
theorem i64wrap (x : Int) : IntKind.i64.wrap x = wrap64 x := by simp [wrap64, IntKind.wrap_i64]

theorem grown_refl (w : World) (m : Option Nat) : w.grownBy w m := ⟨rfl, rfl, rfl, Nat.le_refl _, fun _ _ _ => rfl⟩
theorem grown_trans {a b c : World} {m : Option Nat} (h : a.grownBy b m) (k : b.grownBy c m) : a.grownBy c m :=
  ⟨k.os.trans h.os, k.tape.trans h.tape, k.output.trans h.output, Nat.le_trans h.size k.size,
   fun i hi hm => (k.block i (Nat.lt_of_lt_of_le hi h.size) hm).trans (h.block i hi hm)⟩
theorem grown_alloc {a b : World} {m : Option Nat} (h : a.grownBy b m) (o : Obj) : a.grownBy (b.alloc o) m := grown_trans h (World.grownBy_alloc b o m)
theorem grown_drew {a b : World} {m : Option Nat} (h : a.grownBy b m) : a.grownBy b.drew m := ⟨h.os, h.tape, h.output, h.size, h.block⟩
theorem grown_of_none {a b : World} (m : Option Nat) (h : a.grownBy b none) : a.grownBy b m := ⟨h.os, h.tape, h.output, h.size, fun k hk _ => h.block k hk (by simp)⟩
/-- A store into a block of one's own. -/
theorem grown_set {a b : World} {m : Option Nat} (h : a.grownBy b m) {p : Addr} (hp : a.heap.size ≤ p.block) (v : Value) : a.grownBy (b.setCell p v) m :=
  ⟨h.os, h.tape, h.output, by rw [show (b.setCell p v).heap.size = b.heap.size from by simp [World.setCell]]; exact h.size,
   fun k hk hm => by rw [Below.heap_setCell _ _ _ _ (by omega)]; exact h.block k hk hm⟩
theorem grown_below {a b : World} (h : a.grownBy b none) : Below a.heap.size a b := ⟨h.os, h.tape, h.output, h.size, fun k hk => h.block k hk (by simp)⟩
theorem below_grown {a b : World} (h : Below a.heap.size a b) (m : Option Nat) : a.grownBy b m := ⟨h.os, h.tape, h.output, h.size, fun k hk _ => h.block k hk⟩
/-- What an append leaves, into a row of one's own. -/
theorem grown_row {a b c : World} {m row : Option Nat} (h : a.grownBy b m) (k : b.grownBy c row) (hr : ∀ i, row = some i → a.heap.size ≤ i) : a.grownBy c m :=
  ⟨k.os.trans h.os, k.tape.trans h.tape, k.output.trans h.output, Nat.le_trans h.size k.size,
   fun i hi hm => (k.block i (Nat.lt_of_lt_of_le hi h.size) (fun e => by have := hr i e.symm; omega)).trans (h.block i hi hm)⟩

/-! ### the meter -/
def mval (m : Option Nat) : Value := .pointer (m.map fun b => ⟨b, 0, none⟩)
/-- The meter has counted n steps; nil counts nothing. -/
def MeterAt (w : World) (m : Option Nat) (n : Int) : Prop :=
  ∀ b, m = some b → ∃ c d : Int, c + d = n ∧ w.heap[b]? = some (.cells #[.int .i64 (wrap64 c), .int .i64 (wrap64 d)] 77 (0, 0))
theorem MeterAt.nil (w : World) (n : Int) : MeterAt w none n := fun _ h => by cases h
theorem wrap64_wrap64_add (a b : Int) : wrap64 (wrap64 a + b) = wrap64 (a + b) := by unfold wrap64; omega
theorem wrap64_add_wrap64 (a b : Int) : wrap64 (a + wrap64 b) = wrap64 (a + b) := by unfold wrap64; omega
theorem MeterAt.keep {w w' : World} {m : Option Nat} {n : Int} (hm : MeterAt w m n) (h : ∀ b, m = some b → b < w.heap.size → w'.heap[b]? = w.heap[b]?) : MeterAt w' m n := by
  intro b e
  obtain ⟨x, y, hxy, hb⟩ := hm b e
  exact ⟨x, y, hxy, by rw [h b e (lt_of_heap hb)]; exact hb⟩
theorem MeterAt.alloc {w : World} {m : Option Nat} {n : Int} (hm : MeterAt w m n) (o : Obj) : MeterAt (w.alloc o) m n := hm.keep fun _ _ hb => Below.heap_alloc _ _ _ hb
theorem MeterAt.drew {w : World} {m : Option Nat} {n : Int} (hm : MeterAt w m n) : MeterAt w.drew m n := hm
theorem MeterAt.grown {w w' : World} {m : Option Nat} {n : Int} (hm : MeterAt w m n) (hg : w.grownBy w' none) : MeterAt w' m n := hm.keep fun b _ hb => hg.block b hb (by simp)
theorem MeterAt.row {w w' : World} {m row : Option Nat} {n : Int} (hm : MeterAt w m n) (hg : w.grownBy w' row) (hr : ∀ i, row = some i → m ≠ some i) : MeterAt w' m n :=
  hm.keep fun b e hb => hg.block b hb (fun h => hr b h.symm e)
theorem MeterAt.lt {w : World} {m : Option Nat} {n : Int} (hm : MeterAt w m n) {b : Nat} (h : m = some b) : b < w.heap.size := by
  obtain ⟨_, _, _, hb⟩ := hm b h
  exact lt_of_heap hb
theorem MeterAt.set {w : World} {m : Option Nat} {n : Int} (hm : MeterAt w m n) {p : Addr} (hp : ∀ b, m = some b → p.block ≠ b) (v : Value) : MeterAt (w.setCell p v) m n :=
  hm.keep fun b e _ => Below.heap_setCell _ _ _ _ (fun h => hp b e h.symm)

/-- The meter, and what else must not be data: X. -/
structure Mt (X : Nat → Prop) (w : World) (m : Option Nat) (n : Int) : Prop where
  at_ : MeterAt w m n
  mem : ∀ b, m = some b → X b
  lt : ∀ b, X b → b < w.heap.size
theorem Mt.nil {X : Nat → Prop} {w : World} (hX : ∀ b, X b → b < w.heap.size) (n : Int) : Mt X w none n := ⟨MeterAt.nil _ _, (fun _ h => by cases h), hX⟩
theorem Mt.ne {X : Nat → Prop} {w : World} {m : Option Nat} {n : Int} (h : Mt X w m n) {b : Nat} (hb : w.heap.size ≤ b) : m ≠ some b := fun e => by
  have := h.lt b (h.mem b e); omega
theorem Mt.ext {X : Nat → Prop} {w w' : World} {m : Option Nat} {n : Int} (h : Mt X w m n) (hg : w.grownBy w' m) : Ext X w w' :=
  ⟨hg.size, fun b c T fz hX hb => by rw [hg.block b (lt_of_heap hb) (fun e => hX (h.mem b e.symm))]; exact hb⟩
theorem Mt.to {X : Nat → Prop} {w w' : World} {m : Option Nat} {n k : Int} (h : Mt X w m n) (hs : w.heap.size ≤ w'.heap.size) (hm : MeterAt w' m k) : Mt X w' m k :=
  ⟨hm, h.mem, fun b hb => Nat.lt_of_lt_of_le (h.lt b hb) hs⟩
theorem grown_ext {X : Nat → Prop} {w w' : World} (hg : w.grownBy w' none) : Ext X w w' :=
  ⟨hg.size, fun b c T fz _ hb => by rw [hg.block b (lt_of_heap hb) (by simp)]; exact hb⟩
/-- A block of one's own behind a call. -/
theorem box_of {w w' : World} {m : Option Nat} (hg : w.grownBy w' m) {b : Nat} {o : Obj} (hb : w.heap[b]? = some o) (hne : m ≠ some b) : w'.heap[b]? = some o := by
  rw [hg.block b (lt_of_heap hb) (fun e => hne e.symm)]; exact hb
theorem box_none {w w' : World} (hg : w.grownBy w' none) {b : Nat} {o : Obj} (hb : w.heap[b]? = some o) : w'.heap[b]? = some o := box_of hg hb (by simp)
/-- X, and blocks of one's own. -/
def Xb (X : Nat → Prop) (lo hi : Nat) : Nat → Prop := fun b => X b ∨ (lo ≤ b ∧ b < hi)
theorem Xb.left {X : Nat → Prop} {lo hi b : Nat} (h : X b) : Xb X lo hi b := .inl h
theorem Xb.own {X : Nat → Prop} {lo hi b : Nat} (h1 : lo ≤ b) (h2 : b < hi) : Xb X lo hi b := .inr ⟨h1, h2⟩
theorem Mt.own {X : Nat → Prop} {w w' : World} {m : Option Nat} {n k : Int} {lo hi : Nat} (h : Mt X w m n) (hs : w.heap.size ≤ w'.heap.size) (hhi : hi ≤ w'.heap.size) (hm : MeterAt w' m k) : Mt (Xb X lo hi) w' m k :=
  ⟨hm, fun b e => .inl (h.mem b e), fun b hb => by
    rcases hb with hb | ⟨_, hb⟩
    · exact Nat.lt_of_lt_of_le (h.lt b hb) hs
    · omega⟩

/-- AddInt64 -/
theorem add64 (b : Nat) (o : Nat) (x y : Int) (w : World) (h0 : w.cell? ⟨b, o, none⟩ = some (.int .i64 x)) (f0 : w.frozen? ⟨b, o, none⟩ = false) :
    Calls Tryd.prog 52 #[.pointer (some ⟨b, o, none⟩), .int .i64 y] w fun e w' => e = .returned (.int .i64 (wrap64 (x + y))) ∧ w' = w.setCell ⟨b, o, none⟩ (.int .i64 (wrap64 (x + y))) := by
  have hadd := run_call_add (P := Tryd.prog) Tryd.func72 (by kernel_rfl) (by kernel_rfl) (by kernel_rfl) .i64 (by kernel_rfl) (y := y) (s := wrap64 (x + y)) h0 f0 (by simp [go_sem, wrap64, IntKind.wrap_i64])
  go_enter Tryd.func52, Tryd.ntmps52
  go_wp2
  go_ret
  exact ⟨rfl, rfl⟩
theorem load64 (b : Nat) (o : Nat) (x : Int) (w : World) (h0 : w.cell? ⟨b, o, none⟩ = some (.int .i64 x)) :
    Calls Tryd.prog 62 #[.pointer (some ⟨b, o, none⟩)] w fun e w' => e = .returned (.int .i64 x) ∧ w' = w := by
  have hl := run_call_load (P := Tryd.prog) Tryd.func77 (by kernel_rfl) (by kernel_rfl) (by kernel_rfl) .i64 (by kernel_rfl) h0
  go_enter Tryd.func62, Tryd.ntmps62
  go_wp2
  go_ret
  exact ⟨rfl, rfl⟩

/-! ### comparisons -/
theorem isNaN_any (x : Int) (w : World) : Calls Tryd.prog 92 #[.int .i64 x] w fun e w' => e = .returned (.bool false) ∧ w = w' := by
  go_enter Tryd.func92, Tryd.ntmps92
  go_wp2
  go_ret
  exact ⟨by simp, rfl⟩
def cmpI (x y : Int) : Int := if x < y then -1 else if y < x then 1 else 0
def orI (x y : Int) : Int := if x = 0 then y else x
def cmpE (a b : Int × Int) : Int := orI (cmpI a.1 b.1) (cmpI a.2 b.2)
def elV (a : Int × Int) : Value := .agg #[.int .i64 a.1, .int .i64 a.2]
theorem ret_int {k : IntKind} {a b : Int} (h : a = b) : Ending.returned (.int k a) = .returned (.int k b) := by rw [h]
theorem ret_bool {a b : Bool} (h : a = b) : Ending.returned (.bool a) = .returned (.bool b) := by rw [h]
theorem compare_any (x y : Int) (w : World) : Calls Tryd.prog 85 #[.int .i64 x, .int .i64 y] w fun e w' => e = .returned (.int .i64 (cmpI x y)) ∧ w = w' := by
  go_enter Tryd.func85, Tryd.ntmps85
  go_wp2_with (go_at_call 92; refine (isNaN_any _ _).mono ?_; rintro e w' ⟨rfl, rfl⟩)
  all_goals go_ret
  all_goals (refine ⟨ret_int ?_, rfl⟩; unfold cmpI; (repeat' split) <;> first | rfl | omega)
theorem or_any (b : Nat) (x y : Int) (w : World) (h0 : w.cell? ⟨b, 0, none⟩ = some (.int .i64 x)) (h1 : w.cell? ⟨b, 1, none⟩ = some (.int .i64 y)) :
    Calls Tryd.prog 84 #[.slice (some ⟨b, 0, none⟩) 2 2] w fun e w' => e = .returned (.int .i64 (orI x y)) ∧ w = w' := by
  go_enter Tryd.func84, Tryd.ntmps84
  go_wp2
  go_loop [5, 8, 9, 10, 11, 12, 13, 14, 16] (fun _ i _ _ _ _ _ _ _ => ∃ k : Nat, k ≤ 2 ∧ i = .int .i64 k ∧ (1 ≤ k → x = 0) ∧ (2 ≤ k → y = 0)) (fun _ i _ _ _ _ _ _ _ => 2 - (intOf i).toNat)
  case atStart => exact ⟨0, by omega, rfl, by omega, by omega⟩
  case round =>
    obtain ⟨k, hk, rfl, hx, hy⟩ := hrel
    obtain rfl | rfl | rfl : k = 0 ∨ k = 1 ∨ k = 2 := by omega
    · by_cases e : x = 0
      · subst e
        go_wp2
        go_round
        case rel => exact ⟨1, by omega, rfl, by simp, by omega⟩
        case measure => simp [intOf]
      · have hne : (x != 0) = true := by simp [e]
        go_wp2
        go_ret
        exact ⟨ret_int (by simp [orI, e]), rfl⟩
    · have hx' := hx (by omega)
      subst hx'
      by_cases e : y = 0
      · subst e
        go_wp2
        go_round
        case rel => exact ⟨2, by omega, rfl, by simp, by simp⟩
        case measure => simp [intOf]
      · have hne : (y != 0) = true := by simp [e]
        go_wp2
        go_ret
        exact ⟨ret_int (by simp [orI]), rfl⟩
    · have hx' := hx (by omega)
      have hy' := hy (by omega)
      subst hx'; subst hy'
      go_wp2
      go_ret
      exact ⟨ret_int (by simp [orI]), rfl⟩
theorem cmpE_eq (a : Int × Int) : cmpE a a = 0 := by simp [cmpE, cmpI, orI]
theorem grown_two (w : World) (o1 o2 : Obj) : w.grownBy ((w.alloc o1).alloc o2) none := grown_alloc (grown_alloc (grown_refl w none) o1) o2
theorem grown_three (w : World) (o1 o2 o3 : Obj) : w.grownBy (((w.alloc o1).alloc o2).alloc o3).drew none := grown_drew (grown_alloc (grown_two w o1 o2) o3)
set_option maxHeartbeats 1000000 in
theorem elemCompare_any (a b : Int × Int) (w : World) :
    Calls Tryd.prog 73 #[elV a, elV b] w fun e w' => e = .returned (.int .i64 (cmpE a b)) ∧ w.grownBy w' none := by
  obtain ⟨a1, a2⟩ := a
  obtain ⟨b1, b2⟩ := b
  unfold elV
  by_cases h1 : a1 = b1
  · subst h1
    by_cases h2 : a2 = b2
    · subst h2
      go_enter Tryd.func73, Tryd.ntmps73
      go_wp2
      go_ret
      rw [cmpE_eq]
      exact ⟨rfl, grown_two _ _ _⟩
    · go_enter Tryd.func73, Tryd.ntmps73
      go_wp2
      go_region_held3 (fun w' => w'.cell? ⟨w.heap.size, 0, none⟩ = some (.int .i64 a1) ∧ w'.cell? ⟨w.heap.size, 1, none⟩ = some (.int .i64 a2) ∧ w'.cell? ⟨w.heap.size + 1, 0, none⟩ = some (.int .i64 a1) ∧ w'.cell? ⟨w.heap.size + 1, 1, none⟩ = some (.int .i64 b2)) (go_keep)
        (first
         | (go_at_call 85; refine (compare_any _ _ _).mono ?_; rintro e w' ⟨rfl, rfl⟩)
         | (go_at_call 84; refine (or_any _ (cmpI a1 a1) (cmpI a2 b2) _ ?_ ?_).mono ?_; (simp [go_sem]); (simp [go_sem]); rintro e w' ⟨rfl, rfl⟩))
      all_goals go_wp2
      go_ret
      exact ⟨rfl, grown_three _ _ _ _⟩
  · go_enter Tryd.func73, Tryd.ntmps73
    go_wp2
    go_region_held3 (fun w' => w'.cell? ⟨w.heap.size, 0, none⟩ = some (.int .i64 a1) ∧ w'.cell? ⟨w.heap.size, 1, none⟩ = some (.int .i64 a2) ∧ w'.cell? ⟨w.heap.size + 1, 0, none⟩ = some (.int .i64 b1) ∧ w'.cell? ⟨w.heap.size + 1, 1, none⟩ = some (.int .i64 b2)) (go_keep)
      (first
       | (go_at_call 85; refine (compare_any _ _ _).mono ?_; rintro e w' ⟨rfl, rfl⟩)
       | (go_at_call 84; refine (or_any _ (cmpI a1 b1) (cmpI a2 b2) _ ?_ ?_).mono ?_; (simp [go_sem]); (simp [go_sem]); rintro e w' ⟨rfl, rfl⟩))
    all_goals go_wp2
    go_ret
    exact ⟨rfl, grown_three _ _ _ _⟩
end Go.Proofs.YtgdnlolicjdfoaaDoor
