import Derived.Test.YtgdnlolicjdfoaaDoorW22
/- The reference's order: Sort, Same. -/
namespace Go.Proofs.YtgdnlolicjdfoaaDoor
open Go Go.Proofs Go.RowKit Slag

theorem srt_take {l : List E} {k : Nat} {x : E} (h : l[k]? = some x) : srt (l.take (k + 1)) = ins (srt (l.take k)) x := by
  obtain ⟨hk, rfl⟩ := List.getElem?_eq_some_iff.1 h
  rw [List.take_succ_eq_append_getElem hk]
  rw [srt, List.foldl_append]; rfl
/-- A row in memory that is newer than n. -/
def NewRow (n : Nat) (w : World) (l : List E) (v : Value) : Prop := RowAt (fun b => b < n) 24 2 w l.length (eCells l) v
theorem NewRow.of_owns {w : World} {base n : Nat} {l : List E} {v : Value} (h : w.ownsRow base 24 2 v l.length (eCells l)) (hb : n ≤ base) : NewRow n w l v := RowAt.of_owns h (fun b hb' => by omega)
theorem NewRow.ext {w w' : World} {n : Nat} {l : List E} {v : Value} (h : NewRow n w l v) (hg : w.grownBy w' none) : NewRow n w' l v := RowAt.ext h (grown_ext hg)
set_option maxRecDepth 100000 in
set_option maxHeartbeats 2000000 in
theorem rsort_any (X : Nat → Prop) (l : List E) (v : Value) (w : World) (hv : RowAt X 24 2 w l.length (eCells l) v) (hn : l.length ≤ 1099511627000) :
    Calls Tryd.prog 27 #[v] w fun e w' => ∃ v', e = .returned v' ∧ w.grownBy w' none ∧ NewRow w.heap.size w' (srt l) v' := by
  have HV := Lib.hid hv
  obtain ⟨-, p, cap, rfl, hcap, hmax, -⟩ := id hv
  have HNIL : Hid (NewRow w.heap.size w (srt (l.take 0)) (.slice none 0 0)) := Lib.hid (RowAt.nil _ _ _ _)
  clear hv
  go_enter Tryd.func27, Tryd.ntmps27
  go_wp2_with fail
  go_loopw [3, 4] (fun s i wr => ∃ k : Nat, k ≤ l.length ∧ i = .int .i64 k ∧ w.grownBy wr none ∧ Hid (NewRow w.heap.size wr (srt (l.take k)) s)) (fun _ i _ => l.length - (intOf i).toNat)
  case atStart => exact ⟨0, Nat.zero_le _, rfl, grown_refl _ _, HNIL⟩
  case round =>
    obtain ⟨k, hk, rfl, hg, hrow⟩ := hrel
    have HG := Lib.hid hg
    obtain ⟨-, p2, cap2, rfl, -⟩ := id hrow.out
    have hlk : (srt (l.take k)).length = k := by rw [srt_length, List.length_take]; omega
    have HLK := Lib.hid hlk
    clear hg hlk
    by_cases hlt : k < l.length
    · obtain ⟨y, hy⟩ : ∃ y, l[k]? = some y := ⟨l[k], by simp [hlt]⟩
      obtain ⟨e1, e2⟩ := eCells_get hy
      have hr := HV.out.ext (grown_ext HG.out)
      obtain ⟨b, off, rfl, d1⟩ := hr.cell e1
      obtain ⟨b', off', e, d2⟩ := hr.cell e2
      cases e
      rw [show off + 2 * k = off + k * 2 from by omega] at d1
      rw [show off + (2 * k + 1) = off + k * 2 + 1 from by omega] at d2
      have HP := Lib.hid (fun w' (hh : wr.grownBy w' none) => rput_any _ (srt (l.take k)) y _ w' (RowAt.ext hrow.out (grown_ext hh)) (by rw [HLK.out]; omega))
      have HY := Lib.hid (srt_take hy)
      obtain ⟨y1, y2⟩ := y
      unfold elV at HP
      clear e1 e2 hr hy
      go_wp2_with fail
      refine (HP.out _ (grown_refl _ _)).mono ?_
      rintro e w1 ⟨v1, rfl, hg1, ho1⟩
      have HN : Hid (NewRow w.heap.size w1 (srt (l.take (k + 1))) v1) := Lib.hid (by rw [HY.out]; exact NewRow.of_owns ho1 HG.out.size)
      have HG1 := Lib.hid (grown_trans HG.out hg1)
      clear ho1 hg1
      go_wp2_with fail
      go_roundw
      case rel => exact ⟨k + 1, by omega, by go_num, HG1.out, HN⟩
      case measure => simp [intOf]; omega
    · obtain rfl : k = l.length := by omega
      go_wp2_with fail
      go_ret
      refine ⟨_, rfl, HG.out, ?_⟩
      have := hrow.out
      rw [List.take_length] at this
      rw [List.take_length]
      exact this
set_option maxRecDepth 100000 in
set_option maxHeartbeats 2000000 in
theorem rsame_any (X Y : Nat → Prop) (a b : List E) (va vb : Value) (w : World) (ha : RowAt X 24 2 w a.length (eCells a) va) (hb : RowAt Y 24 2 w b.length (eCells b) vb) :
    Calls Tryd.prog 22 #[va, vb] w fun e w' => e = .returned (.bool (decide (a = b))) ∧ w.grownBy w' none := by
  have HA := Lib.hid ha
  have HB := Lib.hid hb
  obtain ⟨-, pa, capa, rfl, hcapa, hmaxa, -⟩ := id ha
  obtain ⟨-, pb, capb, rfl, hcapb, hmaxb, -⟩ := id hb
  clear ha hb
  by_cases hlen : a.length = b.length
  · have hl : ((a.length : Int) != (b.length : Int)) = false := by simp [hlen]
    have HLEN := Lib.hid hlen
    clear hlen
    unfold maxLen at hmaxa hmaxb
    go_enter Tryd.func22, Tryd.ntmps22
    go_wp2_with fail
    go_loopw [5] (fun i wr => ∃ k : Nat, k ≤ a.length ∧ i = .int .i64 k ∧ w.grownBy wr none ∧ Hid (a.take k = b.take k)) (fun i _ => a.length - (intOf i).toNat)
    case atStart => exact ⟨0, Nat.zero_le _, rfl, grown_refl _ _, Lib.hid rfl⟩
    case round =>
      obtain ⟨k, hk, rfl, hg, heq⟩ := hrel
      have HG := Lib.hid hg
      clear hg
      by_cases hlt : k < a.length
      · obtain ⟨x, hx⟩ : ∃ x, a[k]? = some x := ⟨a[k], by simp [hlt]⟩
        have hltb : k < b.length := by have := HLEN.out; omega
        obtain ⟨y, hy⟩ : ∃ y, b[k]? = some y := ⟨b[k], by simp [hltb]⟩
        obtain ⟨e1, e2⟩ := eCells_get hx
        obtain ⟨e3, e4⟩ := eCells_get hy
        have hr := HA.out.ext (grown_ext HG.out)
        obtain ⟨b1, off1, rfl, d1⟩ := hr.cell e1
        obtain ⟨b1', off1', e, d2⟩ := hr.cell e2
        cases e
        have hr2 := HB.out.ext (grown_ext HG.out)
        obtain ⟨b2, off2, rfl, d3⟩ := hr2.cell e3
        obtain ⟨b2', off2', e, d4⟩ := hr2.cell e4
        cases e
        rw [show off1 + 2 * k = off1 + k * 2 from by omega] at d1
        rw [show off1 + (2 * k + 1) = off1 + k * 2 + 1 from by omega] at d2
        rw [show off2 + 2 * k = off2 + k * 2 from by omega] at d3
        rw [show off2 + (2 * k + 1) = off2 + k * 2 + 1 from by omega] at d4
        have HXX := Lib.hid hx
        have HYY := Lib.hid hy
        obtain ⟨x1, x2⟩ := x
        obtain ⟨y1, y2⟩ := y
        clear e1 e2 e3 e4 hr hr2 hx hy
        by_cases hx1 : x1 = y1
        · subst hx1
          by_cases hx2 : x2 = y2
          · subst hx2
            have HTT : Hid (a.take (k + 1) = b.take (k + 1)) := Lib.hid (by
              obtain ⟨h1, h1'⟩ := List.getElem?_eq_some_iff.1 HXX.out
              obtain ⟨h2, h2'⟩ := List.getElem?_eq_some_iff.1 HYY.out
              rw [List.take_succ_eq_append_getElem h1, List.take_succ_eq_append_getElem h2, heq.out, h1', h2'])
            go_wp2_with fail
            have HDD := Lib.hid (And.intro d1 (And.intro d2 (And.intro d3 d4)))
            go_region_held3 (fun w' => w'.cell? ⟨b1, off1 + k * 2, none⟩ = some (.int .i64 x1) ∧ w'.cell? ⟨b1, off1 + k * 2 + 1, none⟩ = some (.int .i64 x2) ∧ w'.cell? ⟨b2, off2 + k * 2, none⟩ = some (.int .i64 x1) ∧ w'.cell? ⟨b2, off2 + k * 2 + 1, none⟩ = some (.int .i64 x2))
              (exact HDD.out)
              (first | (fail))
            have HGN := Lib.hid (grown_drew HG.out)
            generalize wr.drew = wz at *
            go_wp2_with fail
            go_roundw
            case rel => exact ⟨k + 1, by omega, by go_num, HGN.out, HTT⟩
            case measure => simp [intOf]; omega
          · have HAB : Hid (a ≠ b) := Lib.hid (fun h => by
              have h1 := HXX.out; have h2 := HYY.out
              rw [h, h2] at h1; cases h1; exact hx2 rfl)
            have hb2 : (x2 == y2) = false := by simp [hx2]
            go_wp2_with fail
            have HDD := Lib.hid (And.intro d1 (And.intro d2 (And.intro d3 d4)))
            go_region_held3 (fun w' => w'.cell? ⟨b1, off1 + k * 2, none⟩ = some (.int .i64 x1) ∧ w'.cell? ⟨b1, off1 + k * 2 + 1, none⟩ = some (.int .i64 x2) ∧ w'.cell? ⟨b2, off2 + k * 2, none⟩ = some (.int .i64 x1) ∧ w'.cell? ⟨b2, off2 + k * 2 + 1, none⟩ = some (.int .i64 y2))
              (exact HDD.out)
              (first | (fail))
            have HGN := Lib.hid (grown_drew HG.out)
            generalize wr.drew = wz at *
            go_wp2_with fail
            go_ret
            exact ⟨ret_bool (by simp [HAB.out]), HGN.out⟩
        · have HAB : Hid (a ≠ b) := Lib.hid (fun h => by
            have h1 := HXX.out; have h2 := HYY.out
            rw [h, h2] at h1; cases h1; exact hx1 rfl)
          have hb2 : (x1 == y1) = false := by simp [hx1]
          go_wp2_with fail
          have HDD := Lib.hid (And.intro d1 (And.intro d2 (And.intro d3 d4)))
          go_region_held3 (fun w' => w'.cell? ⟨b1, off1 + k * 2, none⟩ = some (.int .i64 x1) ∧ w'.cell? ⟨b1, off1 + k * 2 + 1, none⟩ = some (.int .i64 x2) ∧ w'.cell? ⟨b2, off2 + k * 2, none⟩ = some (.int .i64 y1) ∧ w'.cell? ⟨b2, off2 + k * 2 + 1, none⟩ = some (.int .i64 y2))
            (exact HDD.out)
            (first | (fail))
          have HGN := Lib.hid (grown_drew HG.out)
          generalize wr.drew = wz at *
          go_wp2_with fail
          go_ret
          exact ⟨ret_bool (by simp [HAB.out]), HGN.out⟩
      · obtain rfl : k = a.length := by omega
        go_wp2_with fail
        go_ret
        have h1 := heq.out
        rw [List.take_length, HLEN.out, List.take_length] at h1
        exact ⟨ret_bool (by simp [h1]), HG.out⟩
  · have hl : ((a.length : Int) != (b.length : Int)) = true := by simp; omega
    go_enter Tryd.func22, Tryd.ntmps22
    go_wp2_with fail
    go_ret
    exact ⟨ret_bool (by simp; intro h; exact hlen (by rw [h])), grown_refl _ _⟩
end Go.Proofs.YtgdnlolicjdfoaaDoor
