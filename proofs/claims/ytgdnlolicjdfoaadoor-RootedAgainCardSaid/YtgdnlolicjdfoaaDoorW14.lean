import Derived.Test.YtgdnlolicjdfoaaDoorW13
/- meld. -/
namespace Go.Proofs.YtgdnlolicjdfoaaDoor
open Go Go.Proofs Go.RowKit Slag

theorem meldT_length_le (a b : List (Tr E)) : (meldT id a b).length ≤ Tr.sizeL a + Tr.sizeL b := by
  have h1 := Tr.length_le_sizeL (meldT id a b)
  have h2 := (meldT_all (key := id) a b).length_eq
  simp only [Tr.sizeL, List.length_append] at *; omega
set_option maxRecDepth 100000 in
set_option maxHeartbeats 4000000 in
theorem meld_any (k : Nat) : ∀ (X : Nat → Prop) (m : Option Nat) (n : Int) (a b : List (Tr E)) (va vb : List Nat) (v1 v2 : Value) (w : World), Mt X w m n → TreesAt X w a va → TreesAt X w b vb →
    RowAt X 84 1 w a.length (va.map pv) v1 → RowAt X 84 1 w b.length (vb.map pv) v2 → a.length + b.length ≤ k → Tr.sizeL a + Tr.sizeL b ≤ 1099511627776 →
    Calls Tryd.prog 49 #[mval m, v1, v2] w fun e w' => ∃ v' us, e = .returned v' ∧ w.grownBy w' m ∧ Mt X w' m (n + (meldTN id a b : Nat)) ∧ TreesAt X w' (meldT id a b) us ∧ RowAt X 84 1 w' (meldT id a b).length (us.map pv) v' := by
  induction k with
  | zero =>
    intro X m n a b va vb v1 v2 w hm ha hb hv1 hv2 hk hn
    obtain rfl : a = [] := List.eq_nil_of_length_eq_zero (by omega)
    have HM := Lib.hid hm
    have HB := Lib.hid hb
    have HV2 := Lib.hid hv2
    obtain ⟨-, p1, cap1, rfl, -⟩ := id hv1
    obtain ⟨-, p2, cap2, rfl, -⟩ := id hv2
    clear hm ha hb hv1 hv2 hk hn
    go_enter Tryd.func49, Tryd.ntmps49
    go_wp2
    go_ret
    rw [meldT, meldTN]
    exact ⟨_, vb, rfl, grown_refl _ _, by simpa using HM.out, HB.out, HV2.out⟩
  | succ k ih =>
    intro X m n a b va vb v1 v2 w hm ha hb hv1 hv2 hk hn
    obtain ⟨i0, hi, hz0, hz1, hz2⟩ := info_parts info_ptree
    have HM := Lib.hid hm
    have HA := Lib.hid ha
    have HB := Lib.hid hb
    have HV1 := Lib.hid hv1
    have HV2 := Lib.hid hv2
    have IH := Lib.hid ih
    have HN := Lib.hid hn
    clear ih
    cases a with
    | nil =>
      obtain ⟨-, p1, cap1, rfl, -⟩ := id hv1
      obtain ⟨-, p2, cap2, rfl, -⟩ := id hv2
      clear hm ha hb hv1 hv2 hk hn
      go_enter Tryd.func49, Tryd.ntmps49
      go_wp2
      go_ret
      rw [meldT, meldTN]
      exact ⟨_, vb, rfl, grown_refl _ _, by simpa using HM.out, HB.out, HV2.out⟩
    | cons x xs =>
    obtain ⟨xa, va', rfl, hxa, hxs⟩ := ha.of_cons
    replace hv1 : RowAt X 84 1 w (xs.length + 1) (pv xa :: va'.map pv) v1 := hv1
    have HV1 := Lib.hid hv1
    obtain ⟨-, p1, cap1, rfl, hc1, hmx1, -⟩ := id hv1
    obtain ⟨b1, off1, rfl, hcell1⟩ := hv1.cell (j := 0) (u := .pointer (some ⟨xa, 0, none⟩)) rfl
    rw [Nat.add_zero] at hcell1
    have hlx : xs.length ≤ 1099511627776 := by have := Tr.length_le_sizeL (x :: xs); simp at this; omega
    have hne1 : ((xs.length : Int) + 1 == 0) = false := by simp; omega
    have HXA := Lib.hid hxa
    have HXS := Lib.hid hxs
    cases b with
    | nil =>
      obtain ⟨-, p2, cap2, rfl, -⟩ := id hv2
      clear hm ha hb hv1 hv2 hk hn hxa hxs hmx1
      go_enter Tryd.func49, Tryd.ntmps49
      go_wp2
      go_ret
      rw [meldT, meldTN]
      exact ⟨_, xa :: va', rfl, grown_refl _ _, by simpa using HM.out, HA.out, HV1.out⟩
    | cons y ys =>
    obtain ⟨yb, vb', rfl, hyb, hys⟩ := hb.of_cons
    replace hv2 : RowAt X 84 1 w (ys.length + 1) (pv yb :: vb'.map pv) v2 := hv2
    have HV2 := Lib.hid hv2
    obtain ⟨-, p2, cap2, rfl, hc2, hmx2, -⟩ := id hv2
    obtain ⟨b2, off2, rfl, hcell2⟩ := hv2.cell (j := 0) (u := .pointer (some ⟨yb, 0, none⟩)) rfl
    rw [Nat.add_zero] at hcell2
    have hly : ys.length ≤ 1099511627776 := by have := Tr.length_le_sizeL (y :: ys); simp at this; omega
    have hne2 : ((ys.length : Int) + 1 == 0) = false := by simp; omega
    have HYB := Lib.hid hyb
    have HYS := Lib.hid hys
    have HK := Lib.hid hk
    have hs1 := Tr.sizeL_cons x xs
    have hs2 := Tr.sizeL_cons y ys
    have HS1 : Hid (∀ w', w.grownBy w' m → w'.cell? ⟨b1, off1, none⟩ = some (.pointer (some ⟨xa, 0, none⟩))) := Lib.hid fun w' hg => by
      obtain ⟨b', off', h1, h2⟩ := (HV1.out.ext (HM.out.ext hg)).cell (j := 0) (u := .pointer (some ⟨xa, 0, none⟩)) rfl
      cases h1; exact h2
    have HS2 : Hid (∀ w', w.grownBy w' m → w'.cell? ⟨b2, off2, none⟩ = some (.pointer (some ⟨yb, 0, none⟩))) := Lib.hid fun w' hg => by
      obtain ⟨b', off', h1, h2⟩ := (HV2.out.ext (HM.out.ext hg)).cell (j := 0) (u := .pointer (some ⟨yb, 0, none⟩)) rfl
      cases h1; exact h2
    have hrt1 := fun w => run_tail (P := Tryd.prog) 82 84 i0 Tryd.underlying82 hi hz1 b1 off1 xs.length cap1 hc1 w
    have hrt2 := fun w => run_tail (P := Tryd.prog) 82 84 i0 Tryd.underlying82 hi hz1 b2 off2 ys.length cap2 hc2 w
    have hsx := Tr.size_pos x
    have hsy := Tr.size_pos y
    have HT1 : Hid (∀ w', w.grownBy w' none → Calls Tryd.prog 49 #[mval m, .slice (some ⟨b1, tailOff off1 cap1, none⟩) xs.length (cap1 - 1), .slice (some ⟨b2, off2, none⟩) (ys.length + 1) cap2] w' fun e w'' => ∃ v' us, e = .returned v' ∧ w'.grownBy w'' m ∧ Mt (Xb X w.heap.size w'.heap.size) w'' m (n + (meldTN id xs (y :: ys) : Nat)) ∧ TreesAt (Xb X w.heap.size w'.heap.size) w'' (meldT id xs (y :: ys)) us ∧ RowAt (Xb X w.heap.size w'.heap.size) 84 1 w'' (meldT id xs (y :: ys)).length (us.map pv) v') :=
      Lib.hid fun w' hg => IH.out (Xb X w.heap.size w'.heap.size) m n xs (y :: ys) va' (yb :: vb') _ _ w' (HM.out.own hg.size (Nat.le_refl _) (HM.out.at_.grown hg)) (TreesAt.own hxs HM.out (grown_of_none m hg)) (TreesAt.own HB.out HM.out (grown_of_none m hg)) (RowAt.own HV1.out hg).cut (RowAt.own HV2.out hg) (by simp at hk ⊢; omega) (by omega)
    have HT2 : Hid (∀ w', w.grownBy w' none → Calls Tryd.prog 49 #[mval m, .slice (some ⟨b1, off1, none⟩) (xs.length + 1) cap1, .slice (some ⟨b2, tailOff off2 cap2, none⟩) ys.length (cap2 - 1)] w' fun e w'' => ∃ v' us, e = .returned v' ∧ w'.grownBy w'' m ∧ Mt (Xb X w.heap.size w'.heap.size) w'' m (n + (meldTN id (x :: xs) ys : Nat)) ∧ TreesAt (Xb X w.heap.size w'.heap.size) w'' (meldT id (x :: xs) ys) us ∧ RowAt (Xb X w.heap.size w'.heap.size) 84 1 w'' (meldT id (x :: xs) ys).length (us.map pv) v') :=
      Lib.hid fun w' hg => IH.out (Xb X w.heap.size w'.heap.size) m n (x :: xs) ys (xa :: va') vb' _ _ w' (HM.out.own hg.size (Nat.le_refl _) (HM.out.at_.grown hg)) (TreesAt.own HA.out HM.out (grown_of_none m hg)) (TreesAt.own hys HM.out (grown_of_none m hg)) (RowAt.own HV1.out hg) (RowAt.own HV2.out hg).cut (by simp at hk ⊢; omega) (by omega)
    have HT3 : Hid (∀ w', w.grownBy w' none → Calls Tryd.prog 49 #[mval m, .slice (some ⟨b1, tailOff off1 cap1, none⟩) xs.length (cap1 - 1), .slice (some ⟨b2, tailOff off2 cap2, none⟩) ys.length (cap2 - 1)] w' fun e w'' => ∃ v' us, e = .returned v' ∧ w'.grownBy w'' m ∧ Mt (Xb X w.heap.size w'.heap.size) w'' m (n + (meldTN id xs ys : Nat)) ∧ TreesAt (Xb X w.heap.size w'.heap.size) w'' (meldT id xs ys) us ∧ RowAt (Xb X w.heap.size w'.heap.size) 84 1 w'' (meldT id xs ys).length (us.map pv) v') :=
      Lib.hid fun w' hg => IH.out (Xb X w.heap.size w'.heap.size) m n xs ys va' vb' _ _ w' (HM.out.own hg.size (Nat.le_refl _) (HM.out.at_.grown hg)) (TreesAt.own hxs HM.out (grown_of_none m hg)) (TreesAt.own hys HM.out (grown_of_none m hg)) (RowAt.own HV1.out hg).cut (RowAt.own HV2.out hg).cut (by simp at hk ⊢; omega) (by omega)
    have HSZ : Hid (x.size + Tr.sizeL xs + (y.size + Tr.sizeL ys) ≤ 1099511627776) := Lib.hid (by rw [← hs1, ← hs2]; exact hn)
    have hl1 := meldT_length_le xs (y :: ys)
    have hl2 := meldT_length_le (x :: xs) ys
    have hl1' : (meldT id xs (y :: ys)).length ≤ 1099511627776 := by omega
    have hl2' : (meldT id (x :: xs) ys).length ≤ 1099511627776 := by omega
    clear hm ha hb hv1 hv2 hk hn hxa hxs hyb hys hs1 hs2 hmx1 hmx2 hsx hsy hl1 hl2 IH
    by_cases hlt : x.rank < y.rank
    · have hd1 : decide ((x.rank : Int) < (y.rank : Int)) = true := by simp; omega
      go_enter Tryd.func49, Tryd.ntmps49
      go_wp2
      go_quiet (first
        | (go_at_call_of 56 (Value.pointer (some ⟨xa, 0, none⟩)); exact Calls.quiet_of_same (trank_q X x xa _ (HXA.out.ext (grown_ext (grown_drewN (grown_refl w none) _)))))
        | (go_at_call_of 56 (Value.pointer (some ⟨yb, 0, none⟩)); exact Calls.quiet_of_same (trank_q X y yb _ (HYB.out.ext (grown_ext (grown_drewN (grown_refl w none) _))))))
      obtain ⟨w2, hw2⟩ : ∃ w2, w.drewN nq = w2 := ⟨_, rfl⟩
      rw [hw2]
      have HG2 : Hid (w.grownBy w2 none) := Lib.hid (by rw [← hw2]; exact grown_drewN (grown_refl w none) _)
      clear hw2
      have hsz2 := HG2.out.size
      go_wp2_with fail
      go_region_held3 (fun w' => w'.cell? ⟨b1, off1, none⟩ = some (.pointer (some ⟨xa, 0, none⟩)))
        (first | exact HS1.out _ hgg5 | exact HS1.out _ (grown_alloc hh3 _) | exact HS1.out _ hh3 | exact HS1.out _ (grown_of_none m (grown_drew HG2.out)) | exact HS1.out _ (grown_of_none m (grown_alloc (grown_drew HG2.out) _)) | exact HS1.out _ (grown_of_none m (grown_drew (grown_alloc HG2.out _))) | exact HS1.out _ (grown_of_none m HG2.out))
        (first
          | (go_at_call 49; refine (HT1.out _ (by first | exact grown_drew HG2.out | exact grown_drew (grown_alloc HG2.out _) | exact grown_alloc (grown_drew HG2.out) _)).mono ?_; rintro e w3 ⟨v3, us, rfl, hg3, hm3, ht3, hr3⟩; have hh3 := grown_trans (grown_of_none m (by first | exact grown_drew HG2.out | exact grown_drew (grown_alloc HG2.out _) | exact grown_alloc (grown_drew HG2.out) _)) hg3; have hsz3 := hh3.size; obtain ⟨p3, c3, rfl, -⟩ := hr3.2)
          | (refine step_append_row rfl _ _ 82 rfl w.heap.size 84 i0 (.pointer none) 1 8 Tryd.underlying82 hi hz0 hz1 hz2 rfl (by decide) _ 1 _ [.pointer (some ⟨xa, 0, none⟩)] rfl ⟨rfl, .inr ⟨_, 1, _, rfl, hsz3, heap_alloc_new _ _, Nat.le_refl _, by decide, rfl, rfl⟩⟩ _ (meldT id xs (y :: ys)).length (us.map pv) _ rfl (hr3.ext (grown_ext (World.grownBy_alloc _ _ _))) (pv_one _) (by omega) (by unfold maxLen; omega) (by omega) (by simp; omega) ?_; intro g5 cap5 w5 hown5 hg5; have hh5 : w3.grownBy w5 none := grown_row (World.grownBy_alloc w3 _ none) hg5 (fun i hi => by cases hi; exact Nat.le_refl _); have ht5 := ht3.ext (grown_ext hh5); have hm5 := hm3.at_.grown hh5; have hgg5 := grown_trans hh3 (grown_of_none m hh5))
          | (refine step_append_row rfl _ _ 82 rfl w.heap.size 84 i0 (.pointer none) 1 8 Tryd.underlying82 hi hz0 hz1 hz2 rfl (by decide) _ 1 _ [.pointer (some ⟨xa, 0, none⟩)] rfl ⟨rfl, .inr ⟨_, 1, _, rfl, hsz2, box_of hg3 (heap_alloc_new w2 _) (HM.out.ne hsz2), Nat.le_refl _, by decide, rfl, rfl⟩⟩ _ (meldT id xs (y :: ys)).length (us.map pv) _ rfl hr3 (pv_one _) (by omega) (by unfold maxLen; omega) (by omega) hsz3 ?_; intro g5 cap5 w5 hown5 hg5; have ht5 := ht3.ext (row_ext hg5 hsz2 (by simp)); have hm5 := hm3.at_.row hg5 (fun i hi => by cases hi; exact HM.out.ne hsz2); have hgg5 := grown_row hh3 hg5 (fun i hi => by cases hi; exact hsz2)))
      all_goals
        have HM5 := Lib.hid hm5
        have HT5 : Hid (TreesAt X w5 _ us) := Lib.hid (ht5.weak (fun _ hb _ => Xb.left hb))
        have HO5 := Lib.hid hown5
        have HG5 := Lib.hid hgg5
        clear hm3 ht3 hown5 hh3 hg5 hr3 hg3 ht5 hm5 hgg5
        go_wp2
        go_ret
        rw [meldT, if_pos hlt, meldTN, if_pos hlt]
        refine ⟨_, xa :: us, rfl, HG5.out, HM.out.to HG5.out.size HM5.out, TreesAt.cons (HXA.out.ext (HM.out.ext HG5.out)) HT5.out, ?_⟩
        have := RowAt.of_owns (X := X) HO5.out (fun b hb => HM.out.lt b hb)
        show RowAt X _ 1 w5 ((meldT id xs (y :: ys)).length + 1) _ _
        rw [Nat.add_comm (meldT id xs (y :: ys)).length 1]
        exact this
    · have hd1 : decide ((x.rank : Int) < (y.rank : Int)) = false := by simp; omega
      go_enter Tryd.func49, Tryd.ntmps49
      go_wp2
      go_quiet (first
        | (go_at_call_of 56 (Value.pointer (some ⟨xa, 0, none⟩)); exact Calls.quiet_of_same (trank_q X x xa _ (HXA.out.ext (grown_ext (grown_drewN (grown_refl w none) _)))))
        | (go_at_call_of 56 (Value.pointer (some ⟨yb, 0, none⟩)); exact Calls.quiet_of_same (trank_q X y yb _ (HYB.out.ext (grown_ext (grown_drewN (grown_refl w none) _))))))
      obtain ⟨w2, hw2⟩ : ∃ w2, w.drewN nq = w2 := ⟨_, rfl⟩
      rw [hw2]
      have HG2 : Hid (w.grownBy w2 none) := Lib.hid (by rw [← hw2]; exact grown_drewN (grown_refl w none) _)
      clear hw2
      have hsz2 := HG2.out.size
      have dd1 := HS1.out w2 (grown_of_none m HG2.out)
      have dd2 := HS2.out w2 (grown_of_none m HG2.out)
      by_cases hlt2 : y.rank < x.rank
      · have hd2 : decide ((y.rank : Int) < (x.rank : Int)) = true := by simp; omega
        go_wp2_with fail
        go_quiet (first
          | (go_at_call_of 56 (Value.pointer (some ⟨xa, 0, none⟩)); exact Calls.quiet_of_same (trank_q X x xa _ (HXA.out.ext (grown_ext (grown_drewN HG2.out _)))))
          | (go_at_call_of 56 (Value.pointer (some ⟨yb, 0, none⟩)); exact Calls.quiet_of_same (trank_q X y yb _ (HYB.out.ext (grown_ext (grown_drewN HG2.out _))))))
        obtain ⟨w4, hw4⟩ : ∃ w4, w2.drewN nq = w4 := ⟨_, rfl⟩
        rw [hw4]
        have HG4 : Hid (w.grownBy w4 none) := Lib.hid (by rw [← hw4]; exact grown_drewN HG2.out _)
        clear hw4
        have hsz4 := HG4.out.size
        go_wp2_with fail
        go_region_held3 (fun w' => w'.cell? ⟨b2, off2, none⟩ = some (.pointer (some ⟨yb, 0, none⟩)))
          (first | exact HS2.out _ hgg5 | exact HS2.out _ (grown_alloc hh3 _) | exact HS2.out _ hh3 | exact HS2.out _ (grown_of_none m (grown_drew HG4.out)) | exact HS2.out _ (grown_of_none m (grown_alloc (grown_drew HG4.out) _)) | exact HS2.out _ (grown_of_none m (grown_drew (grown_alloc HG4.out _))) | exact HS2.out _ (grown_of_none m HG4.out))
          (first
            | (go_at_call 49; refine (HT2.out _ (by first | exact grown_drew HG4.out | exact grown_drew (grown_alloc HG4.out _) | exact grown_alloc (grown_drew HG4.out) _)).mono ?_; rintro e w3 ⟨v3, us, rfl, hg3, hm3, ht3, hr3⟩; have hh3 := grown_trans (grown_of_none m (by first | exact grown_drew HG4.out | exact grown_drew (grown_alloc HG4.out _) | exact grown_alloc (grown_drew HG4.out) _)) hg3; have hsz3 := hh3.size; obtain ⟨p3, c3, rfl, -⟩ := hr3.2)
            | (refine step_append_row rfl _ _ 82 rfl w.heap.size 84 i0 (.pointer none) 1 8 Tryd.underlying82 hi hz0 hz1 hz2 rfl (by decide) _ 1 _ [.pointer (some ⟨yb, 0, none⟩)] rfl ⟨rfl, .inr ⟨_, 1, _, rfl, hsz3, heap_alloc_new _ _, Nat.le_refl _, by decide, rfl, rfl⟩⟩ _ (meldT id (x :: xs) ys).length (us.map pv) _ rfl (hr3.ext (grown_ext (World.grownBy_alloc _ _ _))) (pv_one _) (by omega) (by unfold maxLen; omega) (by omega) (by simp; omega) ?_; intro g5 cap5 w5 hown5 hg5; have hh5 : w3.grownBy w5 none := grown_row (World.grownBy_alloc w3 _ none) hg5 (fun i hi => by cases hi; exact Nat.le_refl _); have ht5 := ht3.ext (grown_ext hh5); have hm5 := hm3.at_.grown hh5; have hgg5 := grown_trans hh3 (grown_of_none m hh5))
            | (refine step_append_row rfl _ _ 82 rfl w.heap.size 84 i0 (.pointer none) 1 8 Tryd.underlying82 hi hz0 hz1 hz2 rfl (by decide) _ 1 _ [.pointer (some ⟨yb, 0, none⟩)] rfl ⟨rfl, .inr ⟨_, 1, _, rfl, hsz4, box_of hg3 (heap_alloc_new w4 _) (HM.out.ne hsz4), Nat.le_refl _, by decide, rfl, rfl⟩⟩ _ (meldT id (x :: xs) ys).length (us.map pv) _ rfl hr3 (pv_one _) (by omega) (by unfold maxLen; omega) (by omega) hsz3 ?_; intro g5 cap5 w5 hown5 hg5; have ht5 := ht3.ext (row_ext hg5 hsz4 (by simp)); have hm5 := hm3.at_.row hg5 (fun i hi => by cases hi; exact HM.out.ne hsz4); have hgg5 := grown_row hh3 hg5 (fun i hi => by cases hi; exact hsz4)))
        all_goals
          have HM5 := Lib.hid hm5
          have HT5 : Hid (TreesAt X w5 _ us) := Lib.hid (ht5.weak (fun _ hb _ => Xb.left hb))
          have HO5 := Lib.hid hown5
          have HG5 := Lib.hid hgg5
          clear hm3 ht3 hown5 hh3 hg5 hr3 hg3 ht5 hm5 hgg5
          go_wp2
          go_ret
          rw [meldT, if_neg hlt, if_pos hlt2, meldTN, if_neg hlt, if_pos hlt2]
          refine ⟨_, yb :: us, rfl, HG5.out, HM.out.to HG5.out.size HM5.out, TreesAt.cons (HYB.out.ext (HM.out.ext HG5.out)) HT5.out, ?_⟩
          have := RowAt.of_owns (X := X) HO5.out (fun b hb => HM.out.lt b hb)
          show RowAt X _ 1 w5 ((meldT id (x :: xs) ys).length + 1) _ _
          rw [Nat.add_comm (meldT id (x :: xs) ys).length 1]
          exact this
      · have hd2 : decide ((y.rank : Int) < (x.rank : Int)) = false := by simp; omega
        go_wp2_with fail
        go_quiet (first
          | (go_at_call_of 56 (Value.pointer (some ⟨xa, 0, none⟩)); exact Calls.quiet_of_same (trank_q X x xa _ (HXA.out.ext (grown_ext (grown_drewN HG2.out _)))))
          | (go_at_call_of 56 (Value.pointer (some ⟨yb, 0, none⟩)); exact Calls.quiet_of_same (trank_q X y yb _ (HYB.out.ext (grown_ext (grown_drewN HG2.out _))))))
        obtain ⟨w4, hw4⟩ : ∃ w4, w2.drewN nq = w4 := ⟨_, rfl⟩
        rw [hw4]
        have HG4 : Hid (w.grownBy w4 none) := Lib.hid (by rw [← hw4]; exact grown_drewN HG2.out _)
        clear hw4
        have hsz4 := HG4.out.size
        go_wp2_with fail
        go_region_held3 (fun w' => w'.cell? ⟨b1, off1, none⟩ = some (.pointer (some ⟨xa, 0, none⟩)))
          (first | exact HS1.out _ hh5 | exact HS1.out _ (grown_of_none m (grown_drew HG4.out)) | exact HS1.out _ (grown_of_none m HG4.out))
          (first | (go_at_call 49; refine (HT3.out _ (grown_drew HG4.out)).mono ?_; rintro e w5 ⟨v5, us, rfl, hg5, hm5, ht5, hr5⟩; have hh5 := grown_trans (grown_of_none m (grown_drew HG4.out)) hg5; obtain ⟨p5, c5, rfl, -⟩ := hr5.2))
        rename_i hHeld
        clear hHeld
        have HH5 := Lib.hid hh5
        have HM5 := Lib.hid (HM.out.to hh5.size hm5.at_)
        have HT5 : Hid (TreesAt X w5 _ us) := Lib.hid (ht5.weak (fun _ hb _ => Xb.left hb))
        have HR5 : Hid (RowAt X 84 1 w5 _ (us.map pv) _) := Lib.hid (hr5.weak (fun _ hb _ => Xb.left hb))
        clear hh5 hm5 ht5 hr5 hg5
        have HLK : Hid (∀ w', w5.grownBy w' none → Calls Tryd.prog 70 #[mval m, .pointer (some ⟨xa, 0, none⟩), .pointer (some ⟨yb, 0, none⟩)] w' fun e w'' => ∃ r, e = .returned (.pointer (some ⟨r, 0, none⟩)) ∧ w'.grownBy w'' m ∧ Mt X w'' m (n + (meldTN id xs ys : Nat) + 2) ∧ TreeAt X w'' (link id x y) r) :=
          Lib.hid fun w' hg => link_any X m _ x y xa yb w' (HM5.out.to hg.size (HM5.out.at_.grown hg)) ((HXA.out.ext (HM.out.ext HH5.out)).ext (grown_ext hg)) ((HYB.out.ext (HM.out.ext HH5.out)).ext (grown_ext hg)) (by have := HSZ.out; omega)
        have hms := (meldT_all (key := id) xs ys).length_eq
        have HMS : Hid (Tr.sizeL (meldT id xs ys) = Tr.sizeL xs + Tr.sizeL ys) := Lib.hid (by simpa [Tr.sizeL] using hms)
        clear hms
        have HPT : Hid (∀ w' r, w5.grownBy w' m → Mt X w' m (n + (meldTN id xs ys : Nat) + 2) → TreeAt X w' (link id x y) r → Calls Tryd.prog 69 #[mval m, .pointer (some ⟨r, 0, none⟩), .slice p5 (meldT id xs ys).length c5] w' fun e w'' => ∃ v' us, e = .returned v' ∧ w'.grownBy w'' m ∧ Mt X w'' m (n + (meldTN id xs ys : Nat) + 2 + (putN id (link id x y) (meldT id xs ys) : Nat)) ∧ TreesAt X w'' (putT id (link id x y) (meldT id xs ys)) us ∧ RowAt X 84 1 w'' (putT id (link id x y) (meldT id xs ys)).length (us.map pv) v') :=
          Lib.hid fun w' r hg hm ht => put_any X m _ (link id x y) (meldT id xs ys) r us _ w' hm ht (HT5.out.ext (HM5.out.ext hg)) (HR5.out.ext (HM5.out.ext hg)) (by have := HSZ.out; rw [link_size, HMS.out]; omega)
        have HS3 : Hid (∀ w', w5.grownBy w' m → (w'.cell? ⟨b1, off1, none⟩ = some (.pointer (some ⟨xa, 0, none⟩)) ∧ w'.cell? ⟨b2, off2, none⟩ = some (.pointer (some ⟨yb, 0, none⟩)))) := Lib.hid fun w' hg => ⟨HS1.out _ (grown_trans HH5.out hg), HS2.out _ (grown_trans HH5.out hg)⟩
        obtain ⟨cc1, cc2⟩ := HS3.out w5 (grown_refl _ _)
        go_wp2_with fail
        go_region_held3 (fun w' => w'.cell? ⟨b1, off1, none⟩ = some (.pointer (some ⟨xa, 0, none⟩)) ∧ w'.cell? ⟨b2, off2, none⟩ = some (.pointer (some ⟨yb, 0, none⟩)))
          (first | exact HS3.out _ hh7 | exact HS3.out _ hh6 | exact HS3.out _ (grown_drew (grown_refl _ _)) | exact HS3.out _ (grown_refl _ _))
          (first
            | (go_at_call 70; refine (HLK.out _ (grown_drew (grown_refl _ _))).mono ?_; rintro e w6 ⟨r6, rfl, hg6, hm6, ht6⟩; have hh6 := grown_trans (grown_drew (grown_refl w5 m)) hg6)
            | (go_at_call 69; refine (HPT.out _ _ hh6 hm6 ht6).mono ?_; rintro e w7 ⟨v7, us7, rfl, hg7, hm7, ht7, hr7⟩; have hh7 := grown_trans hh6 hg7))
        have HM7 := Lib.hid hm7
        have HT7 := Lib.hid ht7
        have HR7 := Lib.hid hr7
        have HH7 := Lib.hid hh7
        rename_i hHeld
        clear hHeld hm7 ht7 hr7 hh7 hg7 hm6 ht6 hg6 hh6 cc1 cc2
        go_wp2
        go_ret
        rw [meldT, if_neg hlt, if_neg hlt2, meldTN, if_neg hlt, if_neg hlt2]
        exact ⟨v7, us7, rfl, grown_trans HH5.out HH7.out, by have := HM7.out; rw [show (n + ((meldTN id xs ys + 2 + putN id (link id x y) (meldT id xs ys) : Nat) : Int)) = n + (meldTN id xs ys : Nat) + 2 + (putN id (link id x y) (meldT id xs ys) : Nat) from by omega]; exact this, HT7.out, HR7.out⟩
end Go.Proofs.YtgdnlolicjdfoaaDoor
