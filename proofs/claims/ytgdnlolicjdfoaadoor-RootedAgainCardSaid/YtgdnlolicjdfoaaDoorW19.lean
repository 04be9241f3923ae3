import Derived.Test.YtgdnlolicjdfoaaDoorW18
/- Heap: Meld. -/
namespace Go.Proofs.YtgdnlolicjdfoaaDoor
open Go Go.Proofs Go.RowKit Slag

set_option maxRecDepth 100000 in
set_option maxHeartbeats 2000000 in
theorem smeld_any (X : Nat → Prop) (m : Option Nat) (n : Int) (h1 h2 : List (Tr E)) (v1 v2 : Value) (w : World) (hm : Mt X w m n) (hh1 : HeapAt X w h1 v1) (hh2 : HeapAt X w h2 v2) (hn : Tr.sizeL h1 + Tr.sizeL h2 ≤ 1099511627776) :
    Calls Tryd.prog 38 #[v1, mval m, v2] w fun e w' => ∃ v', e = .returned v' ∧ w.grownBy w' m ∧ Mt X w' m (n + (meldN id h1 h2 : Nat)) ∧ HeapAt X w' (meld id h1 h2) v' := by
  obtain ⟨p1, vs1, rfl, hc1, ht1⟩ := hh1
  obtain ⟨p2, vs2, rfl, hc2, ht2⟩ := hh2
  have HM := Lib.hid hm
  obtain ⟨S, hS⟩ : ∃ S, w.heap.size = S := ⟨_, rfl⟩
  have hg0 : w.grownBy (((w.alloc (.cells #[.pointer p1] 64)).alloc (.cells #[.pointer p2] 64)).alloc (.cells #[.pointer none] 64)) none := grown_alloc (grown_alloc (grown_alloc (grown_refl w none) _) _) _
  have b2 := heap_alloc_lt (heap_alloc_new (w.alloc (.cells #[.pointer p1] 64)) (.cells #[.pointer p2] 64)) (.cells #[.pointer none] 64)
  have b3 := heap_alloc_new ((w.alloc (.cells #[.pointer p1] 64)).alloc (.cells #[.pointer p2] 64)) (.cells #[.pointer none] 64)
  simp only [World.size_alloc, hS] at b2 b3
  have hC1 := hc1.own (hi := S + 3) hg0
  have hT1 := ht1.own (hi := S + 3) hm (grown_of_none m hg0)
  have hC2 := hc2.own (hi := S + 3) hg0
  have hT2 := ht2.own (hi := S + 3) hm (grown_of_none m hg0)
  have hM0 : Mt (Xb X w.heap.size (S + 3)) (((w.alloc (.cells #[.pointer p1] 64)).alloc (.cells #[.pointer p2] 64)).alloc (.cells #[.pointer none] 64)) m n := hm.own hg0.size (by simp [hS]) (((hm.at_.alloc _).alloc _).alloc _)
  rw [hS] at hC1 hT1 hC2 hT2 hM0
  have hl1 : vs1.length = h1.length := ht1.length
  have hl2 : vs2.length = h2.length := ht2.length
  have hb1 := Tr.length_le_sizeL h1
  have hb2 := Tr.length_le_sizeL h2
  have HS := Lib.hid hS
  have HC1 := Lib.hid hC1
  have HT1 := Lib.hid hT1
  have HC2 := Lib.hid hC2
  have HT2 := Lib.hid hT2
  have HM0 := Lib.hid hM0
  have HG0 := Lib.hid hg0
  have HB2 := Lib.hid b2
  have HB3 := Lib.hid b3
  have HN2 : Hid (m ≠ some (S + 1)) := Lib.hid (hm.ne (by omega))
  have HN3 : Hid (m ≠ some (S + 1 + 1)) := Lib.hid (hm.ne (by omega))
  have HL1 := Lib.hid hl1
  have HL2 := Lib.hid hl2
  clear hm hc1 ht1 hc2 ht2 hC1 hT1 hC2 hT2 hM0 hg0 b2 b3 hl1 hl2
  go_enter Tryd.func38, Tryd.ntmps38
  go_wp2_with fail
  generalize (((w.alloc (.cells #[.pointer p1] 64)).alloc (.cells #[.pointer p2] 64)).alloc (.cells #[.pointer none] 64)) = W0 at *
  refine (lall_any (Xb X S (S + 3)) p1 vs1 W0 HC1.out (by have := HL1.out; omega)).mono ?_
  rintro e w1 ⟨u1, rfl, ho1, hg1⟩
  have HO1 := Lib.hid ho1
  have HG1 := Lib.hid hg1
  have HM1 := Lib.hid (HM0.out.to hg1.size (HM0.out.at_.grown hg1))
  clear ho1 hg1
  go_wp2_with fail
  refine (level_any (Xb X S (S + 3)) m n h1 vs1 u1 w1 HM1.out (HT1.out.ext (grown_ext HG1.out)) (by have := RowAt.of_owns HO1.out (fun b hb => HM0.out.lt b hb); rw [HL1.out] at this; exact this) (by omega)).mono ?_
  rintro e w2 ⟨u2, us1, rfl, hg2, hM2, hT2', hR2⟩
  have HG2 := Lib.hid (grown_trans (grown_of_none m HG1.out) hg2)
  have HM2 := Lib.hid hM2
  have HT3 := Lib.hid hT2'
  have HR3 := Lib.hid hR2
  have q2 := cell_of (box_of HG2.out HB2.out HN2.out) 0 (v := .pointer p2) rfl
  clear hg2 hM2 hT2' hR2
  go_wp2_with fail
  refine (lall_any (Xb X S (S + 3)) p2 vs2 w2 (HC2.out.ext (HM0.out.ext HG2.out)) (by have := HL2.out; omega)).mono ?_
  rintro e w3 ⟨u3, rfl, ho3, hg3⟩
  have HO3 := Lib.hid ho3
  have HG3 := Lib.hid (grown_trans HG2.out (grown_of_none m hg3))
  have HG23 := Lib.hid hg3
  have HM3 := Lib.hid (HM2.out.to hg3.size (HM2.out.at_.grown hg3))
  clear ho3 hg3
  go_wp2_with fail
  refine (level_any (Xb X S (S + 3)) m _ h2 vs2 u3 w3 HM3.out (HT2.out.ext (HM0.out.ext HG3.out)) (by have := RowAt.of_owns HO3.out (fun b hb => HM2.out.lt b hb); rw [HL2.out] at this; exact this) (by omega)).mono ?_
  rintro e w4 ⟨u4, us2, rfl, hg4, hM4, hT4', hR4⟩
  have HG4 := Lib.hid (grown_trans HG3.out hg4)
  have HX4 := Lib.hid ((grown_ext (X := Xb X S (S + 3)) HG23.out).trans (HM3.out.ext hg4))
  have HM4 := Lib.hid hM4
  have HT5 := Lib.hid hT4'
  have HR5 := Lib.hid hR4
  clear hg4 hM4 hT4' hR4
  have hz : Tr.sizeL (level id h1) + Tr.sizeL (level id h2) ≤ 1099511627776 := by
    have e1 := (level_all (key := id) h1).length_eq
    have e2 := (level_all (key := id) h2).length_eq
    simp only [Tr.sizeL] at *; omega
  have HZ := Lib.hid hz
  clear hz
  go_wp2_with fail
  refine (meld_any _ (Xb X S (S + 3)) m _ (level id h1) (level id h2) us1 us2 u2 u4 w4 HM4.out (HT3.out.ext HX4.out) HT5.out (HR3.out.ext HX4.out) HR5.out (Nat.le_refl _) HZ.out).mono ?_
  rintro e w5 ⟨u5, us5, rfl, hg5, hM5, hT5', hR5⟩
  have HG5 := Lib.hid (grown_trans HG4.out hg5)
  have HM5 := Lib.hid hM5
  have HT6 := Lib.hid hT5'
  have HR6 := Lib.hid hR5
  have HL5 := Lib.hid hT5'.length
  clear hg5 hM5 hT5' hR5
  go_wp2_with fail
  refine (lof_any (Xb X S (S + 3)) us5 u5 w5 (by rw [HL5.out]; exact HR6.out) (fun b hb => HM5.out.lt b hb) (by rw [HL5.out]; have := meldT_length_le (level id h1) (level id h2); have := HZ.out; omega)).mono ?_
  rintro e w6 ⟨q6, rfl, hg6, hc6⟩
  have HG6 := Lib.hid (grown_trans HG5.out (grown_of_none m hg6))
  have HE := Lib.hid (sins_end HS.out HM.out HG0.out HG6.out (HM5.out.at_.grown hg6) hc6 (HT6.out.ext (grown_ext hg6)))
  have p4 := cell_of (box_of HG6.out HB3.out HN3.out) 0 (v := .pointer none) rfl
  have p5 := frozen_of (box_of HG6.out HB3.out HN3.out) 0
  have hr : (w6.setCell ⟨S + 1 + 1, 0, none⟩ (.pointer q6)).cell? ⟨S + 1 + 1, 0, none⟩ = some (.pointer q6) := World.cell?_setCell_same' _ _ _ (by rw [p4]; rfl)
  clear hg6 hc6
  go_wp2
  refine bodyPost_ret (v := .agg #[.pointer q6]) (by simp [results, Tryd.results38, go_sem, hr]) rfl ?_
  refine ⟨_, rfl, HE.out.1, ?_, HE.out.2.2⟩
  have := HE.out.2.1
  rw [show n + (meldN id h1 h2 : Nat) = n + (levelN id h1 : Nat) + (levelN id h2 : Nat) + (meldTN id (level id h1) (level id h2) : Nat) from by simp only [meldN]; omega]
  exact this
end Go.Proofs.YtgdnlolicjdfoaaDoor
