import Derived.Test.YtgdnlolicjdfoaaDoorW23
/- The reference's Sum. -/
namespace Go.Proofs.YtgdnlolicjdfoaaDoor
open Go Go.Proofs Go.RowKit Slag

theorem sum_take {a b : List E} {k : Nat} {x : E} (h : b[k]? = some x) : (b.take (k + 1)).foldl ins a = ins ((b.take k).foldl ins a) x := by
  obtain ⟨hk, rfl⟩ := List.getElem?_eq_some_iff.1 h
  rw [List.take_succ_eq_append_getElem hk, List.foldl_append]; rfl
theorem sum_length (b : List E) (a : List E) : (b.foldl ins a).length = a.length + b.length := by
  have := (foldl_ins_perm b a).length_eq; simpa using this
set_option maxRecDepth 100000 in
set_option maxHeartbeats 2000000 in
theorem rsum_any (X Y : Nat → Prop) (a b : List E) (va vb : Value) (w : World) (hX : ∀ b, X b → b < w.heap.size) (ha : RowAt X 24 2 w a.length (eCells a) va) (hb : RowAt Y 24 2 w b.length (eCells b) vb) (hn : a.length + b.length ≤ 1099511627000) :
    Calls Tryd.prog 28 #[va, vb] w fun e w' => ∃ v', e = .returned v' ∧ w.grownBy w' none ∧ RowAt X 24 2 w' (b.foldl ins a).length (eCells (b.foldl ins a)) v' := by
  have HX := Lib.hid hX
  have HA0 : Hid (RowAt X 24 2 w ((b.take 0).foldl ins a).length (eCells ((b.take 0).foldl ins a)) va) := Lib.hid ha
  have HB := Lib.hid hb
  obtain ⟨-, pa, capa, rfl, hcapa, hmaxa, -⟩ := id ha
  obtain ⟨-, pb, capb, rfl, hcapb, hmaxb, -⟩ := id hb
  clear ha hb hX
  go_enter Tryd.func28, Tryd.ntmps28
  go_wp2_with fail
  go_loopw [5, 6] (fun s i wr => ∃ k : Nat, k ≤ b.length ∧ i = .int .i64 k ∧ w.grownBy wr none ∧ Hid (RowAt X 24 2 wr ((b.take k).foldl ins a).length (eCells ((b.take k).foldl ins a)) s)) (fun _ i _ => b.length - (intOf i).toNat)
  case atStart => exact ⟨0, Nat.zero_le _, rfl, grown_refl _ _, HA0⟩
  case round =>
    obtain ⟨k, hk, rfl, hg, hrow⟩ := hrel
    have HG := Lib.hid hg
    obtain ⟨-, p2, cap2, rfl, -⟩ := id hrow.out
    have hlk : ((b.take k).foldl ins a).length = a.length + k := by rw [sum_length, List.length_take]; omega
    have HLK := Lib.hid hlk
    clear hg hlk
    by_cases hlt : k < b.length
    · obtain ⟨y, hy⟩ : ∃ y, b[k]? = some y := ⟨b[k], by simp [hlt]⟩
      obtain ⟨e1, e2⟩ := eCells_get hy
      have hr := HB.out.ext (grown_ext HG.out)
      obtain ⟨b1, off, rfl, d1⟩ := hr.cell e1
      obtain ⟨b1', off', e, d2⟩ := hr.cell e2
      cases e
      rw [show off + 2 * k = off + k * 2 from by omega] at d1
      rw [show off + (2 * k + 1) = off + k * 2 + 1 from by omega] at d2
      have HP := Lib.hid (fun w' (hh : wr.grownBy w' none) => rput_any _ ((b.take k).foldl ins a) y _ w' (RowAt.ext hrow.out (grown_ext hh)) (by rw [HLK.out]; omega))
      have HY := Lib.hid (sum_take (a := a) hy)
      obtain ⟨y1, y2⟩ := y
      unfold elV at HP
      clear e1 e2 hr hy
      go_wp2_with fail
      refine (HP.out _ (grown_refl _ _)).mono ?_
      rintro e w1 ⟨v1, rfl, hg1, ho1⟩
      have HN : Hid (RowAt X 24 2 w1 ((b.take (k + 1)).foldl ins a).length (eCells ((b.take (k + 1)).foldl ins a)) v1) := Lib.hid (by
        rw [HY.out]; exact RowAt.of_owns ho1 (fun b hb => by have := HX.out b hb; have := HG.out.size; omega))
      have HG1 := Lib.hid (grown_trans HG.out hg1)
      clear ho1 hg1
      go_wp2_with fail
      go_roundw
      case rel => exact ⟨k + 1, by omega, by go_num, HG1.out, HN⟩
      case measure => simp [intOf]; omega
    · obtain rfl : k = b.length := by omega
      go_wp2_with fail
      go_ret
      refine ⟨_, rfl, HG.out, ?_⟩
      have := hrow.out
      rw [List.take_length] at this
      rw [List.take_length]
      exact this
end Go.Proofs.YtgdnlolicjdfoaaDoor
