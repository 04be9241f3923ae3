import Derived.Test.YtgdnlolicjdfoaaDoorW0
import Derived.Test.YtgdnlolicjdfoaaDoorP
/- The meter's functions. -/
namespace Go.Proofs.YtgdnlolicjdfoaaDoor
open Go Go.Proofs Go.RowKit

theorem cmpE_less (a b : Int × Int) : decide (cmpE a b < 0) = Slag.less a b := by
  rw [Bool.eq_iff_iff, Slag.less_iff, decide_eq_true_iff]
  unfold cmpE orI cmpI
  (repeat' split) <;> omega
theorem elemLess_any (a b : Int × Int) (w : World) :
    Calls Tryd.prog 53 #[elV a, elV b] w fun e w' => e = .returned (.bool (Slag.less a b)) ∧ w.grownBy w' none := by
  rw [← cmpE_less]
  have hc := fun w => elemCompare_any a b w
  obtain ⟨a1, a2⟩ := a
  obtain ⟨b1, b2⟩ := b
  have HC := Lib.hid hc
  clear hc
  unfold elV at *
  go_enter Tryd.func53, Tryd.ntmps53
  go_wp2_with fail
  refine (HC.out _).mono ?_
  rintro e w1 ⟨rfl, hg⟩
  go_wp2
  go_ret
  exact ⟨rfl, grown_trans (grown_two _ _ _) hg⟩

theorem meter_compared {w : World} {b : Nat} {c d : Int} {k : Int} (hb : w.heap[b]? = some (.cells #[.int .i64 (wrap64 c), .int .i64 (wrap64 d)] 77 (0, 0))) :
    MeterAt (w.setCell ⟨b, 0, none⟩ (.int .i64 (wrap64 (wrap64 c + k)))) (some b) (c + d + k) := by
  intro b' e
  cases e
  refine ⟨c + k, d, by omega, ?_⟩
  rw [wrap64_wrap64_add]
  simp [World.setCell, Array.getElem?_modify, hb]
theorem meter_made {w : World} {b : Nat} {c d : Int} {k : Int} (hb : w.heap[b]? = some (.cells #[.int .i64 (wrap64 c), .int .i64 (wrap64 d)] 77 (0, 0))) :
    MeterAt (w.setCell ⟨b, 1, none⟩ (.int .i64 (wrap64 (wrap64 d + k)))) (some b) (c + d + k) := by
  intro b' e
  cases e
  refine ⟨c, d + k, by omega, ?_⟩
  rw [wrap64_wrap64_add]
  simp [World.setCell, Array.getElem?_modify, hb]
theorem grown_set_meter {a b : World} {m : Nat} (h : a.grownBy b (some m)) (o : Nat) (v : Value) : a.grownBy (b.setCell ⟨m, o, none⟩ v) (some m) :=
  ⟨h.os, h.tape, h.output, by rw [show (b.setCell ⟨m, o, none⟩ v).heap.size = b.heap.size from by simp [World.setCell]]; exact h.size,
   fun k hk hm => by rw [Below.heap_setCell _ _ _ _ (fun e => hm (by rw [e]))]; exact h.block k hk hm⟩

theorem mless_any (m : Option Nat) (n : Int) (a b : Int × Int) (w : World) (hm : MeterAt w m n) :
    Calls Tryd.prog 34 #[mval m, elV a, elV b] w fun e w' => e = .returned (.bool (Slag.less a b)) ∧ w.grownBy w' m ∧ MeterAt w' m (n + 1) := by
  have hc := fun w => elemLess_any a b w
  obtain ⟨a1, a2⟩ := a
  obtain ⟨b1, b2⟩ := b
  generalize hl : Slag.less (a1, a2) (b1, b2) = l at hc ⊢
  have HC := Lib.hid hc
  clear hc hl
  unfold elV at *
  cases m with
  | none =>
    have HM := Lib.hid hm
    clear hm
    unfold mval
    go_enter Tryd.func34, Tryd.ntmps34
    go_wp2_with fail
    refine (HC.out _).mono ?_
    rintro e w1 ⟨rfl, hg⟩
    go_wp2
    go_ret
    exact ⟨rfl, grown_trans (grown_two _ _ _) hg, MeterAt.nil _ _⟩
  | some b =>
    obtain ⟨c, d, rfl, hb⟩ := hm b rfl
    have hlt := lt_of_heap hb
    have hb2 : ((w.alloc (.cells #[.int .i64 a1, .int .i64 a2] 24)).alloc (.cells #[.int .i64 b1, .int .i64 b2] 24)).heap[b]? = some (.cells #[.int .i64 (wrap64 c), .int .i64 (wrap64 d)] 77 (0, 0)) := by
      rw [Below.heap_alloc _ _ _ (by simp; omega), Below.heap_alloc _ _ _ hlt]; exact hb
    have h0 := cell_of hb2 0 (v := .int .i64 (wrap64 c)) rfl
    have f0 := frozen_of hb2 0
    have HB := Lib.hid hb
    have hne1 : ¬ w.heap.size = b := by omega
    have hne2 : ¬ w.heap.size + 1 = b := by omega
    clear hb hb2 hm
    unfold mval
    go_enter Tryd.func34, Tryd.ntmps34
    go_wp2_with fail
    refine (add64 _ _ _ _ _ h0 f0).mono ?_
    rintro e w1 ⟨rfl, rfl⟩
    go_wp2_with fail
    refine (HC.out _).mono ?_
    rintro e w1 ⟨rfl, hg⟩
    go_wp2
    go_ret
    refine ⟨rfl, grown_trans (grown_alloc (grown_alloc (grown_set_meter (grown_refl w _) _ _) _) _) (grown_of_none _ hg), ?_⟩
    exact (((meter_compared HB.out).alloc _).alloc _).grown hg
theorem mmade_any (m : Option Nat) (n : Int) (w : World) (hm : MeterAt w m n) :
    Calls Tryd.prog 51 #[mval m, .int .i64 1] w fun e w' => e = .returned (.tuple #[]) ∧ w.grownBy w' m ∧ MeterAt w' m (n + 1) := by
  cases m with
  | none =>
    have HM := Lib.hid hm
    clear hm
    unfold mval
    go_enter Tryd.func51, Tryd.ntmps51
    go_wp2
    go_end0
    exact ⟨rfl, grown_refl _ _, MeterAt.nil _ _⟩
  | some b =>
    obtain ⟨c, d, rfl, hb⟩ := hm b rfl
    have h0 := cell_of hb 1 (v := .int .i64 (wrap64 d)) rfl
    have f0 := frozen_of hb 1
    have HB := Lib.hid hb
    clear hb hm
    unfold mval
    go_enter Tryd.func51, Tryd.ntmps51
    go_wp2_with fail
    refine (add64 _ _ _ _ _ h0 f0).mono ?_
    rintro e w1 ⟨rfl, rfl⟩
    go_wp2
    go_end0
    exact ⟨rfl, grown_set_meter (grown_refl w _) _ _, meter_made HB.out⟩
/-- Steps, nil or not. -/
def stepsOf (m : Option Nat) (n : Int) : Int := match m with | none => 0 | some _ => wrap64 n
theorem msteps_any (m : Option Nat) (n : Int) (w : World) (hm : MeterAt w m n) :
    Calls Tryd.prog 24 #[mval m] w fun e w' => e = .returned (.int .i64 (stepsOf m n)) ∧ w.grownBy w' none := by
  cases m with
  | none =>
    have HM := Lib.hid hm
    clear hm
    unfold mval
    go_enter Tryd.func24, Tryd.ntmps24
    go_wp2
    go_ret
    exact ⟨rfl, grown_refl _ _⟩
  | some b =>
    obtain ⟨c, d, rfl, hb⟩ := hm b rfl
    have h0 := cell_of hb 0 (v := .int .i64 (wrap64 c)) rfl
    have h1 := cell_of hb 1 (v := .int .i64 (wrap64 d)) rfl
    clear hb hm
    have hs : Calls Tryd.prog 37 #[mval (some b)] w fun e w' => e = .returned (.tuple #[.int .i64 (wrap64 c), .int .i64 (wrap64 d)]) ∧ w.grownBy w' none := by
      unfold mval
      go_enter Tryd.func37, Tryd.ntmps37
      go_wp2_with fail
      go_region_held3 (fun w' => w'.cell? ⟨b, 0, none⟩ = some (.int .i64 (wrap64 c)) ∧ w'.cell? ⟨b, 1, none⟩ = some (.int .i64 (wrap64 d))) (go_keep)
        (first
         | (go_at_call_of 62 (Value.pointer (some ⟨b, 0, none⟩)); refine (load64 b 0 (wrap64 c) _ ?_).mono ?_; (simp [*]); rintro e w' ⟨rfl, rfl⟩)
         | (go_at_call_of 62 (Value.pointer (some ⟨b, 1, none⟩)); refine (load64 b 1 (wrap64 d) _ ?_).mono ?_; (simp [*]); rintro e w' ⟨rfl, rfl⟩))
      all_goals go_wp2
      go_ret2
      exact ⟨rfl, grown_drew (grown_refl _ _)⟩
    unfold mval at *
    have HS := Lib.hid hs
    clear hs
    go_enter Tryd.func24, Tryd.ntmps24
    go_wp2_with fail
    refine (HS.out).mono ?_
    rintro e w1 ⟨rfl, hg⟩
    go_wp2
    go_ret
    refine ⟨ret_int ?_, hg⟩
    simp only [stepsOf]
    rw [wrap64_wrap64_add, wrap64_add_wrap64]
def sinceOf (m : Option Nat) (n : Int) : Int := match m with | none => 0 | some _ => wrap64 n
theorem msince_any (m : Option Nat) (n s : Int) (w : World) (hm : MeterAt w m n) :
    Calls Tryd.prog 25 #[mval m, .int .i64 s] w fun e w' => e = .returned (.int .i64 (sinceOf m (n - s))) ∧ w.grownBy w' none := by
  cases m with
  | none =>
    have HM := Lib.hid hm
    clear hm
    unfold mval
    go_enter Tryd.func25, Tryd.ntmps25
    go_wp2
    go_ret
    exact ⟨rfl, grown_refl _ _⟩
  | some b =>
    have HS := Lib.hid (msteps_any (some b) n w hm)
    have HM := Lib.hid hm
    clear hm
    unfold mval at *
    go_enter Tryd.func25, Tryd.ntmps25
    go_wp2_with fail
    refine (HS.out).mono ?_
    rintro e w1 ⟨rfl, hg⟩
    go_wp2
    go_ret
    refine ⟨ret_int ?_, hg⟩
    simp only [stepsOf, sinceOf]
    unfold wrap64
    omega
theorem mnew_any (w : World) :
    Calls Tryd.prog 23 #[] w fun e w' => e = .returned (mval (some w.heap.size)) ∧ w.grownBy w' none ∧ MeterAt w' (some w.heap.size) 0 := by
  go_enter Tryd.func23, Tryd.ntmps23
  go_wp2
  go_ret
  refine ⟨rfl, grown_alloc (grown_refl _ _) _, ?_⟩
  intro b e
  cases e
  exact ⟨0, 0, rfl, by rw [heap_alloc_new]; simp [wrap64]⟩
theorem ekey_any (a : Int × Int) (w : World) : Calls Tryd.prog 118 #[elV a] w fun e w' => e = .returned (elV a) ∧ w.grownBy w' none := by
  obtain ⟨a1, a2⟩ := a
  unfold elV
  go_enter Tryd.func118, Tryd.ntmps118
  go_wp2
  refine bodyPost_ret (v := .agg #[.int .i64 a1, .int .i64 a2]) (by simp [results, Tryd.results118, go_sem]) rfl ⟨rfl, ?_⟩
  exact grown_two _ _ _
end Go.Proofs.YtgdnlolicjdfoaaDoor
