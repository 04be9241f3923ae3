import Derived.RangeFuncBox
import Derived.RangeFuncLeaves
import Derived.Shelf.Abstract
import Derived.WalkKit
import Derived.OwnWalkIn
import Derived.TacticsInMore
import Derived.LoopNIn
import Derived.LoopIn
import Derived.Maps.AppendAt
import Derived.Test.YtgdnlolicjdfoaaDoorW3
/- All things of a list, in a row of its own: a range over a function. -/
namespace Go.Proofs.YtgdnlolicjdfoaaDoor
open Go Go.Proofs Go.RowKit Go.Shelf Slag
attribute [local go_sem] Oper.semAt_some

theorem ConsAt.unique {X : Nat → Prop} {W : World} : ∀ {p : Option Addr} {xs ys : List Nat}, ConsAt X W xs p → ConsAt X W ys p → xs = ys
  | _, [], [], _, _ => rfl
  | _, [], _ :: _, h, ⟨_, _, hp, _⟩ => by rw [show _ = none from h] at hp; cases hp
  | _, _ :: _, [], ⟨_, _, hp, _⟩, h => by rw [show _ = none from h] at hp; cases hp
  | _, x :: xs, y :: ys, ⟨b, q, hp, _, hv, hr⟩, ⟨b', q', hp', _, hv', hr'⟩ => by
    rw [hp] at hp'; cases hp'
    rw [hv] at hv'
    simp only [Option.some.injEq, Obj.cells.injEq, Array.mk.injEq, List.cons.injEq, Value.pointer.injEq, Addr.mk.injEq] at hv'
    obtain ⟨⟨⟨rfl, _⟩, rfl, _⟩, _⟩ := hv'
    rw [ConsAt.unique hr hr']
open Classical in
noncomputable def lleft (n₀ : Nat) (W : World) (v : Value) : Nat :=
  if h : ∃ r : Option Addr × List Nat, v = .pointer r.1 ∧ ConsAt (fun b => n₀ ≤ b) W r.2 r.1 then (Classical.choose h).2.length else 0
theorem lleft_eq {n₀ : Nat} {W : World} {q : Option Addr} {xs : List Nat} (h : ConsAt (fun b => n₀ ≤ b) W xs q) : lleft n₀ W (.pointer q) = xs.length := by
  have hex : ∃ r : Option Addr × List Nat, Value.pointer q = .pointer r.1 ∧ ConsAt (fun b => n₀ ≤ b) W r.2 r.1 := ⟨(q, xs), rfl, h⟩
  unfold lleft
  rw [dif_pos hex]
  obtain ⟨e, hl⟩ := Classical.choose_spec hex
  have e' : q = (Classical.choose hex).1 := by simpa using e
  rw [← e'] at hl
  rw [ConsAt.unique hl h]
theorem below_ext {n₀ : Nat} {A B : World} (h : Below n₀ A B) : Ext (fun b => n₀ ≤ b) A B :=
  ⟨h.size, fun b c T fz hX hb => by rw [h.block b (by omega)]; exact hb⟩
set_option maxRecDepth 100000 in
set_option maxHeartbeats 1000000 in
theorem leach1_in (F : Fence) (n : Nat) (h6 : F.fn 82) (hro : F.round = none) (hn : 1 ≤ n) (l Bn n₀ : Nat) (p0 : Option Addr) (xs : List Nat) (J Jx : List Nat → World → Prop)
    (hY : ∀ pre x W, J pre W → pre.length < xs.length → YieldAt F (n - 1) Tryd.prog l #[.pointer (some ⟨x, 0, none⟩)] W fun e W' =>
      (e = .returned (.bool true) ∧ J (pre ++ [x]) W' ∧ Below n₀ W W') ∨ (e = .returned (.bool false) ∧ Jx (pre ++ [x]) W'))
    (W : World) (hBn : W.cell? ⟨Bn, 0, none⟩ = some (.pointer p0)) (hL : ConsAt (fun b => n₀ ≤ b) W xs p0) (h0 : J [] W) :
    CallsIn F n Tryd.prog 82 #[.func (.yield l) #[] #[], .pointer (some ⟨Bn, 0, none⟩)] W fun e W' => (∃ v, e = .returned v) ∧
      ((∃ ys, ys = xs ∧ J ys W') ∨ (∃ pre, pre <+: xs ∧ Jx pre W')) := by
  refine callsIn_of_wp Tryd.func82 rfl h6 ?_ hro
  simp only [Tryd.ntmps82, List.size_toArray, List.length_cons, List.length_nil, Nat.reduceAdd, Nat.reduceSub, Array.replicate_succ, Array.replicate_zero, List.push_toArray, List.append_toArray, List.nil_append, List.cons_append]
  gi_wp2
  gi_loopw [3] (fun p wr => ∃ (pre rest : List Nat) (q : Option Addr), p = .pointer q ∧ xs = pre ++ rest ∧ ConsAt (fun b => n₀ ≤ b) wr rest q ∧ J pre wr)
    (fun p wr => lleft n₀ wr p)
  case atStart =>
    exact ⟨[], xs, p0, rfl, rfl, hL, h0⟩
  case round =>
    obtain ⟨pre, rest, q, rfl, hx, hl, hJs⟩ := hrel
    cases rest with
    | nil =>
      obtain rfl : q = none := hl
      gi_wp2
      go_end0
      exact ⟨⟨_, rfl⟩, .inl ⟨pre, by simp [hx], hJs⟩⟩
    | cons x rest =>
      have hl' := hl
      obtain ⟨b, q', rfl, hb, hv0, hr⟩ := hl
      have hv := cell_of hv0 0 rfl
      have hq := cell_of hv0 1 rfl
      have HB := Lib.hid (show b < n₀ by omega)
      have HV := Lib.hid hv0
      have HL' := Lib.hid hl'
      have HR := Lib.hid hr
      have HXS := Lib.hid hx
      clear hv0 hl' hr hb
      obtain ⟨fn, tmps, assign, body, hy, hR⟩ := hY pre x wr hJs (by rw [hx]; simp)
      clear hx
      gi_wp2
      refine hR.mono ?_
      rintro e W3 (⟨rfl, hJ3, hk3⟩ | ⟨rfl, hJx3⟩)
      · have hq3 : W3.cell? ⟨b, 1, none⟩ = some (.pointer q') := (hk3.cell (p := ⟨b, 1, none⟩) HB.out).trans hq
        gi_wp2
        go_roundw
        case rel => exact ⟨pre ++ [x], rest, q', rfl, by rw [HXS.out]; simp, HR.out.ext (below_ext hk3), hJ3⟩
        case measure => rw [lleft_eq (HR.out.ext (below_ext hk3)), lleft_eq HL'.out]; simp
      · gi_wp2
        refine bodyPost_ret (results_none rfl _ _ _) rfl ?_
        exact ⟨⟨_, rfl⟩, .inr ⟨pre ++ [x], ⟨rest, by rw [HXS.out]; simp⟩, hJx3⟩⟩
set_option maxHeartbeats 1000000 in
theorem leach_in (F : Fence) (n : Nat) (h5 : F.fn 66) (hro : F.round = none) (p0 : Option Addr) (w : World) :
    CallsIn F n Tryd.prog 66 #[.agg #[.pointer p0]] w fun e w' => e = .returned (.func (.func 82) #[] #[.pointer (some ⟨w.heap.size, 0, none⟩)]) ∧ w' = w.alloc (.cells #[.pointer p0] 62) := by
  refine callsIn_of_wp Tryd.func66 rfl h5 ?_ hro
  simp only [Tryd.ntmps66, List.size_toArray, List.length_cons, List.length_nil, Nat.reduceAdd, Nat.reduceSub, Array.replicate_succ, Array.replicate_zero, List.push_toArray, List.append_toArray, List.nil_append, List.cons_append]
  gi_wp2
  go_ret
  exact ⟨rfl, rfl⟩
theorem leach_stops (F : Fence) (n : Nat) (h6 : F.fn 82) (hro : F.round = none) (hn : 1 ≤ n) (Bn n₀ : Nat) (p0 : Option Addr) (xs : List Nat) (w : World) (hBn : Bn < w.heap.size) (hn₀ : n₀ ≤ w.heap.size)
    (hc : w.cell? ⟨Bn, 0, none⟩ = some (.pointer p0)) (hL : ConsAt (fun b => n₀ ≤ b) w xs p0) :
    SeqStopsK F n Tryd.prog 82 #[.pointer (some ⟨Bn, 0, none⟩)] (fun x : Nat => #[Value.pointer (some ⟨x, 0, none⟩)]) (Below n₀) (fun ys => ys = xs) (fun pre => pre <+: xs) xs.length w := fun l J Jx W hW _ _ hY h0 =>
  leach1_in F n h6 hro hn l Bn n₀ p0 xs J Jx hY W ((hW.cell (p := ⟨Bn, 0, none⟩) hBn).trans hc) (hL.ext (below_ext (hW.mono hn₀))) h0
theorem info_ptree : (Tryd.prog.info? 84).map (fun i => (i.zero, i.size, i.bytes)) = some (some (.pointer none), 1, 8) := by kernel_rfl
theorem map_pv_snoc (pre : List Nat) (x : Nat) : (pre ++ [x]).map pv = pre.map pv ++ [.pointer (some ⟨x, 0, none⟩)] := by simp [pv]
set_option maxRecDepth 100000 in
set_option maxHeartbeats 2000000 in
theorem lall_in (F : Fence) (n : Nat) (h3 : F.fn 41) (h4 : F.fn 66) (h5 : F.fn 82) (hro : F.round = none) (hn : 3 ≤ n) (p0 : Option Addr) (xs : List Nat) (hlen : xs.length ≤ 1099511627776) (w : World)
    (hL : ConsAt (fun b => w.heap.size ≤ b) w xs p0) :
    CallsIn F n Tryd.prog 41 #[.agg #[.pointer p0]] w fun e W' => ∃ v, e = .returned v ∧ W'.ownsRow w.heap.size 84 1 v xs.length (xs.map pv) ∧ Below w.heap.size w W' := by
  have h1 : 1 ≤ n := by omega
  obtain ⟨i0, hi, hz0, hz1, hz2⟩ := info_parts info_ptree
  refine callsIn_of_wp_marks Tryd.func41 rfl h3 ?_ hro
  simp only [Tryd.ntmps41, List.size_toArray, List.length_cons, List.length_nil, Nat.reduceAdd, Nat.reduceSub, Array.replicate_succ, Array.replicate_zero, List.push_toArray, List.append_toArray, List.nil_append, List.cons_append]
  gi_wp2_with (gi_at_call 66; refine (leach_in F (n - 1) h4 hro _ _).mono ?_; rintro e w' ⟨rfl, rfl⟩)
  have bO0 := Boxed.new (w.alloc (.cells #[.pointer p0] 62)) 82 (.slice none 0 0)
  have bN := Boxed.new ((w.alloc (.cells #[.pointer p0] 62)).alloc (.cells #[.slice none 0 0] 82)) 62 (.pointer p0)
  simp only [World.size_alloc] at bO0 bN
  have hB0 : Below w.heap.size w (((w.alloc (.cells #[.pointer p0] 62)).alloc (.cells #[.slice none 0 0] 82)).alloc (.cells #[.pointer p0] 62)) := (((Below.refl _ w).alloc (Nat.le_refl _) _).alloc (by simp) _).alloc (by simp; omega) _
  refine wpIn_rangeFunc_ownG hro h1 (gf := 82) (lb := #[.pointer (some ⟨w.heap.size + 1 + 1, 0, none⟩)]) rfl h5 (enters_of Tryd.func82 (by kernel_rfl) rfl)
    (leach_stops F (n - 1) h5 hro (by omega) (w.heap.size + 1 + 1) w.heap.size p0 xs _ (by simp) (by simp; omega) bN.cell (hL.ext (below_ext hB0))) belowK_t (belowK_b (by simp; omega)) (Below.refl _ _) (fun _ => rfl)
    (fun pre W => (∃ v, Boxed W (w.heap.size + 1) 82 v ∧ W.ownsRow w.heap.size 84 1 v pre.length (pre.map pv) ∧ True) ∧ Below w.heap.size w W)
    (fun _ _ _ => False)
    (OwnFrom.and (Own.from (holdsRow_own w.heap.size (w.heap.size + 1) 82 84 1 (fun pre : List Nat => pre.length) (fun pre : List Nat => pre.map pv) (fun _ _ => True)) _) (ownFrom_below (Nat.le_refl _) (by simp; omega)))
    (fun _ _ _ _ _ hs _ _ => hs)
    ⟨⟨_, bO0.alloc _, World.ownsRow_nil _ _ _ _, trivial⟩, hB0⟩
    (fun x => { tmps := #[.agg #[.pointer p0], .pointer (some ⟨w.heap.size, 0, none⟩), .slice none 0 0, .pointer (some ⟨w.heap.size + 1, 0, none⟩), .pointer (some ⟨x, 0, none⟩), .agg #[.pointer p0], .func (.func 82) #[] #[.pointer (some ⟨w.heap.size + 1 + 1, 0, none⟩)], .pointer (some ⟨x, 0, none⟩), undef, undef, undef, undef, undef], defers := [] }) ?assign ?body ?done ?stop
  case assign =>
    intro l x W K hK
    gi_wp2
    exact hK
  case body =>
    rintro l pre x W ⟨⟨v, hv, hrow, -⟩, hB⟩ hlt
    have hc := hv.cell
    gi_wp2_with (gi_at_builtin; refine wpListIn_append_own _ rfl _ _ 82 rfl w.heap.size 84 i0 (.pointer none) 1 8 Tryd.underlying82 hi hz0 hz1 hz2 rfl (by decide) _ _ _ rfl (hrow.alloc _) ⟨W.heap.size, 0, none⟩ 1 1 [.pointer (some ⟨x, 0, none⟩)] rfl rfl (cell_one_new _ _ _) (by simp [Value.oneCell']) (by unfold maxLen; omega) (by omega) (by have := hB.size; simp; omega) ?_; intro v' w1 hown' hgrow _; obtain ⟨g', cap', rfl⟩ := ownsRow_succ hown'; obtain ⟨hv1, hv2, hr2, hk2, hb2⟩ := hv.appended (by decide) hrow hB.size (by omega) hown' hgrow; have hc1 := hv1.cell; have hf1 := hv1.frozen)
    exact ⟨hk2.from _, hb2, ⟨_, hv2, by rw [List.length_append, map_pv_snoc]; exact hr2, trivial⟩, hB.trans hb2⟩
  case done =>
    rintro D ys W hD rfl ⟨⟨v, hv, hrow, -⟩, hB⟩ hK
    have hc := hv.cell
    gi_wp2
    refine ⟨by simp, .inl ⟨_, _, rfl, run_takeDeferred hK, ?_⟩⟩
    exact ⟨_, results_tmp rfl _ _ _, v, rfl, ownsRow_putObj hrow _ hK rfl, hB.trans (belowK_b (w := w) (Nat.le_refl _) W D _ _ (by simp at hD; omega) hK rfl rfl)⟩
  case stop =>
    rintro D c pre W _ _ h _
    exact h.elim
/-- All. -/
theorem lall_any (X : Nat → Prop) (p0 : Option Addr) (xs : List Nat) (w : World) (hL : ConsAt X w xs p0) (hlen : xs.length ≤ 1099511627776) :
    Calls Tryd.prog 41 #[.agg #[.pointer p0]] w fun e w' => ∃ v, e = .returned v ∧ w'.ownsRow w.heap.size 84 1 v xs.length (xs.map pv) ∧ w.grownBy w' none := by
  refine (callsIn_wide (n := 3)).1 ?_
  refine (lall_in _ 3 ?_ ?_ ?_ ?_ (by omega) p0 xs hlen w (hL.weak (fun b h1 h2 => absurd h2 (by omega)))).mono ?_
  all_goals first | trivial | rfl | skip
  rintro e w' ⟨v, rfl, h1, h2⟩
  exact ⟨v, rfl, h1, below_grown h2 _⟩
end Go.Proofs.YtgdnlolicjdfoaaDoor
