import Derived.Test.YtgdnlolicjdfoaaDoorLAw
import Derived.Test.YtgdnlolicjdfoaaDoorRSum
/- Sorts. -/
namespace Go.Proofs.YtgdnlolicjdfoaaDoor
open Go Go.Proofs Go.RowKit Slag

set_option maxRecDepth 100000 in
set_option maxHeartbeats 8000000 in
theorem sorts_walk (a : List E) (b : List E) (va : Value) (vb : Value) (w : World) (ha : RowAt (fun _ => False) 24 2 w a.length (eCells a) va) (hb : RowAt (fun _ => False) 24 2 w b.length (eCells b) vb) :
    Calls Tryd.prog 5 #[va, vb] w fun e w' => e = .returned (.bool true) ∧ w.grownBy w' none := by
  obtain ⟨-, pa, ca, rfl, hca, hma, -⟩ := id ha
  obtain ⟨-, pb, cb, rfl, hcb, hmb, -⟩ := id hb
  have S0 := Lib.hid (((St.nil w).add (dR a (.slice pa a.length ca)) (ha.weak fun b hb _ => by obtain ⟨s, h, _⟩ := hb; cases h)).add (dR b (.slice pb b.length cb)) (hb.weak fun b hb _ => by obtain ⟨s, h, _⟩ := hb; cases h))
  clear ha hb
  by_cases hla : a.length ≤ 60
  · have nla : ¬ (60 : Int) < a.length := by omega
    by_cases hlb : b.length ≤ 60
    · have nlb : ¬ (60 : Int) < b.length := by omega
      have HLa := Lib.hid hla
      have HLb := Lib.hid hlb
      have HO_x : Hid (hok (hof a)) := Lib.hid (hok_of a)
      have HC_x : Hid (hcnt (hof a) = a.length) := Lib.hid (hcnt_of a)
      have HO_y : Hid (hok (hof b)) := Lib.hid (hok_of b)
      have HC_y : Hid (hcnt (hof b) = b.length) := Lib.hid (hcnt_of b)
      have HO_z : Hid (hok (hmeld (hof a) (hof b))) := Lib.hid (hok_meld HO_x.out HO_y.out)
      have HC_z : Hid (hcnt (hmeld (hof a) (hof b)) = a.length + b.length) := Lib.hid (by rw [hcnt_meld, hcnt_of, hcnt_of])
      have HO_t : Hid (hok (hmeld (hof a) (hof a))) := Lib.hid (hok_meld HO_x.out HO_x.out)
      have HC_t : Hid (hcnt (hmeld (hof a) (hof a)) = a.length + a.length) := Lib.hid (by rw [hcnt_meld, hcnt_of])
      have HD1 : Hid (hdrain 300 (hmeld (hof a) (hof b)) = List.foldl ins (srt a) (srt b)) := Lib.hid (by
        rw [hdrain_law HO_z.out 300 (by rw [HC_z.out]; omega), srt_congr (hels_meld _ _), srt_congr ((hels_of a).append (hels_of b)), foldl_ins_srt]
        exact srt_congr ((srt_perm b).symm.append_left a))
      have HD2 : Hid (hdrain 300 (hmeld (hof a) (hof a)) = List.foldl ins (srt a) (srt a)) := Lib.hid (by
        rw [hdrain_law HO_t.out 300 (by rw [HC_t.out]; omega), srt_congr (hels_meld _ _), srt_congr ((hels_of a).append (hels_of a)), foldl_ins_srt]
        exact srt_congr ((srt_perm a).symm.append_left a))
      have HD3 : Hid (hdrain 300 (hof a) = srt a) := Lib.hid (by rw [hdrain_law HO_x.out 300 (by rw [HC_x.out]; omega), srt_congr (hels_of a)])
      have HD4 : Hid (hdrain 300 (hof b) = srt b) := Lib.hid (by rw [hdrain_law HO_y.out 300 (by rw [HC_y.out]; omega), srt_congr (hels_of b)])
      have HSA : Hid ((srt a).length ≤ 60) := Lib.hid (by rw [srt_length]; exact hla)
      have HSB : Hid ((srt b).length ≤ 60) := Lib.hid (by rw [srt_length]; exact hlb)
      clear hla hlb
      go_enter Tryd.func5, Tryd.ntmps5
      go_wp2_with fail
      refine (awake_any w).mono ?_
      rintro e w1 ⟨rfl, hg1⟩
      have S1 := Lib.hid ((S0.out.call hg1))
      clear hg1
      go_wp2_with fail
      refine (hof_any _ none 0 a (.slice pa a.length ca) _ (S1.out.mtn 0) (S1.out.dat (dR a (.slice pa a.length ca)) (by simp)) (by have := HLa.out; have := HLb.out; omega)).mono ?_
      rintro e w2 ⟨qx, rfl, hg2, -, hh2⟩
      have S2 := Lib.hid (((S1.out.call hg2).add (dH (hof a) qx) hh2).alloc #[.pointer qx] 28)
      clear hg2 hh2
      go_wp2_with fail
      refine (hof_any _ none 0 b (.slice pb b.length cb) _ (S2.out.mtn 0) (S2.out.dat (dR b (.slice pb b.length cb)) (by simp)) (by have := HLa.out; have := HLb.out; omega)).mono ?_
      rintro e w3 ⟨qy, rfl, hg3, -, hh3⟩
      have S3 := Lib.hid (((S2.out.call hg3).add (dH (hof b) qy) hh3).alloc #[.pointer qy] 28)
      clear hg3 hh3
      have c1 := cell_of (S3.out.box (A := [_])) 0 (v := .pointer qx) rfl
      have c2 := cell_of (S3.out.box (A := [])) 0 (v := .pointer qy) rfl
      go_wp2_with fail
      refine (hmeld_any _ none 0 (hof a) (hof b) qx qy _ (S3.out.mtn 0) (S3.out.dat (dH (hof a) qx) (by simp)) (S3.out.dat (dH (hof b) qy) (by simp)) (by have := HC_x.out; have := HC_y.out; have := HLa.out; have := HLb.out; omega)).mono ?_
      rintro e w4 ⟨qz, rfl, hg4, -, hh4⟩
      have S4 := Lib.hid (((S3.out.call hg4).add (dH (hmeld (hof a) (hof b)) qz) hh4).alloc #[.pointer qz] 28)
      clear hg4 hh4 c1 c2
      have c3 := cell_of (S4.out.box (A := [_, _])) 0 (v := .pointer qx) rfl
      go_wp2_with fail
      refine (hmeld_any _ none 0 (hof a) (hof a) qx qx _ (S4.out.mtn 0) (S4.out.dat (dH (hof a) qx) (by simp)) (S4.out.dat (dH (hof a) qx) (by simp)) (by have := HC_x.out; have := HC_x.out; have := HLa.out; have := HLb.out; omega)).mono ?_
      rintro e w5 ⟨qt, rfl, hg5, -, hh5⟩
      have S5 := Lib.hid (((S4.out.call hg5).add (dH (hmeld (hof a) (hof a)) qt) hh5).alloc #[.pointer qt] 28)
      clear hg5 hh5 c3
      go_wp2_with fail
      refine (rsort_any _ a _ _ (S5.out.dat (dR a (.slice pa a.length ca)) (by simp)) (by have := HLa.out; have := HLb.out; omega)).mono ?_
      rintro e w6 ⟨vp, rfl, hg6, hn6⟩
      have S6 := Lib.hid (((S5.out.call hg6).add (dR (srt a) vp) (S5.out.newRow hn6)))
      clear hg6 hn6
      go_wp2_with fail
      refine (rsort_any _ b _ _ (S6.out.dat (dR b (.slice pb b.length cb)) (by simp)) (by have := HLa.out; have := HLb.out; omega)).mono ?_
      rintro e w7 ⟨vq, rfl, hg7, hn7⟩
      have S7 := Lib.hid (((S6.out.call hg7).add (dR (srt b) vq) (S6.out.newRow hn7)))
      clear hg7 hn7
      have c4 := cell_of (S7.out.box (A := [_])) 0 (v := .pointer qz) rfl
      go_wp2_with fail
      refine (hdrain_any (hmeld (hof a) (hof b)) qz 300 _ (HAt.weak (S7.out.dat (dH (hmeld (hof a) (hof b)) qz) (by simp)) (fun _ h _ => h.elim)) HO_z.out (by have := HC_z.out; have := HLa.out; have := HLb.out; omega) (by omega)).mono ?_
      rintro e w8 ⟨vs, rfl, hg8, hn8⟩
      rw [HD1.out] at hn8
      have S8 := Lib.hid (((S7.out.call hg8).add (dR (List.foldl ins (srt a) (srt b)) vs) (S7.out.newRow hn8)))
      clear hg8 hn8 c4
      have c5 := cell_of (S8.out.box (A := [])) 0 (v := .pointer qt) rfl
      go_wp2_with fail
      refine (hdrain_any (hmeld (hof a) (hof a)) qt 300 _ (HAt.weak (S8.out.dat (dH (hmeld (hof a) (hof a)) qt) (by simp)) (fun _ h _ => h.elim)) HO_t.out (by have := HC_t.out; have := HLa.out; have := HLb.out; omega) (by omega)).mono ?_
      rintro e w9 ⟨vt, rfl, hg9, hn9⟩
      rw [HD2.out] at hn9
      have S9 := Lib.hid (((S8.out.call hg9).add (dR (List.foldl ins (srt a) (srt a)) vt) (S8.out.newRow hn9)))
      clear hg9 hn9 c5
      have c6 := cell_of (S9.out.box (A := [_, _, _])) 0 (v := .pointer qx) rfl
      go_wp2_with fail
      refine (hdrain_any (hof a) qx 300 _ (HAt.weak (S9.out.dat (dH (hof a) qx) (by simp)) (fun _ h _ => h.elim)) HO_x.out (by have := HC_x.out; have := HLa.out; have := HLb.out; omega) (by omega)).mono ?_
      rintro e w10 ⟨vu, rfl, hg10, hn10⟩
      rw [HD3.out] at hn10
      have S10 := Lib.hid (((S9.out.call hg10).add (dR (srt a) vu) (S9.out.newRow hn10)))
      clear hg10 hn10 c6
      have c7 := cell_of (S10.out.box (A := [_, _])) 0 (v := .pointer qy) rfl
      go_wp2_with fail
      refine (hdrain_any (hof b) qy 300 _ (HAt.weak (S10.out.dat (dH (hof b) qy) (by simp)) (fun _ h _ => h.elim)) HO_y.out (by have := HC_y.out; have := HLa.out; have := HLb.out; omega) (by omega)).mono ?_
      rintro e w11 ⟨vv, rfl, hg11, hn11⟩
      rw [HD4.out] at hn11
      have S11 := Lib.hid (((S10.out.call hg11).add (dR (srt b) vv) (S10.out.newRow hn11)))
      clear hg11 hn11 c7
      go_wp2_with fail
      refine (rsum_any _ _ (srt a) (srt b) _ _ _ S11.out.lt (S11.out.dat (dR (srt a) vp) (by simp)) (S11.out.dat (dR (srt b) vq) (by simp)) (by have := HSA.out; have := HSB.out; omega)).mono ?_
      rintro e w12 ⟨v1, rfl, hg12, hn12⟩
      have S12 := Lib.hid (((S11.out.call hg12).add (dR (List.foldl ins (srt a) (srt b)) v1) hn12))
      clear hg12 hn12
      go_wp2_with fail
      refine (rsame_any _ _ _ _ _ _ _ (S12.out.dat (dR (List.foldl ins (srt a) (srt b)) vs) (by simp)) (S12.out.dat (dR (List.foldl ins (srt a) (srt b)) v1) (by simp))).mono ?_
      rintro e w13 ⟨rfl, hg13⟩
      rw [show decide (List.foldl ins (srt a) (srt b) = List.foldl ins (srt a) (srt b)) = true from by simp]
      have S13 := Lib.hid ((S12.out.call hg13))
      clear hg13
      go_wp2_with fail
      refine (rsum_any _ _ (srt a) (srt a) _ _ _ S13.out.lt (S13.out.dat (dR (srt a) vp) (by simp)) (S13.out.dat (dR (srt a) vp) (by simp)) (by have := HSA.out; omega)).mono ?_
      rintro e w14 ⟨v2, rfl, hg14, hn14⟩
      have S14 := Lib.hid (((S13.out.call hg14).add (dR (List.foldl ins (srt a) (srt a)) v2) hn14))
      clear hg14 hn14
      go_wp2_with fail
      refine (rsame_any _ _ _ _ _ _ _ (S14.out.dat (dR (List.foldl ins (srt a) (srt a)) vt) (by simp)) (S14.out.dat (dR (List.foldl ins (srt a) (srt a)) v2) (by simp))).mono ?_
      rintro e w15 ⟨rfl, hg15⟩
      rw [show decide (List.foldl ins (srt a) (srt a) = List.foldl ins (srt a) (srt a)) = true from by simp]
      have S15 := Lib.hid ((S14.out.call hg15))
      clear hg15
      go_wp2_with fail
      refine (rsame_any _ _ _ _ _ _ _ (S15.out.dat (dR (srt a) vu) (by simp)) (S15.out.dat (dR (srt a) vp) (by simp))).mono ?_
      rintro e w16 ⟨rfl, hg16⟩
      rw [show decide (srt a = srt a) = true from by simp]
      have S16 := Lib.hid ((S15.out.call hg16))
      clear hg16
      go_wp2_with fail
      refine (rsame_any _ _ _ _ _ _ _ (S16.out.dat (dR (srt b) vv) (by simp)) (S16.out.dat (dR (srt b) vq) (by simp))).mono ?_
      rintro e w17 ⟨rfl, hg17⟩
      rw [show decide (srt b = srt b) = true from by simp]
      have S17 := Lib.hid ((S16.out.call hg17))
      clear hg17
      have c8 := cell_of (S17.out.box (A := [_])) 0 (v := .pointer qz) rfl
      go_wp2_with fail
      refine (hsize_any _ (hmeld (hof a) (hof b)) qz _ S17.out.lt (S17.out.dat (dH (hmeld (hof a) (hof b)) qz) (by simp)) (by have := HC_z.out; have := HLa.out; have := HLb.out; omega)).mono ?_
      rintro e w18 ⟨rfl, hg18⟩
      rw [HC_z.out]
      have S18 := Lib.hid ((S17.out.call hg18))
      clear hg18 c8
      have hl1 := HLa.out
      have hl2 := HLb.out
      have c9 := cell_of (S18.out.box (A := [])) 0 (v := .pointer qt) rfl
      go_wp2_with fail
      refine (hsize_any _ (hmeld (hof a) (hof a)) qt _ S18.out.lt (S18.out.dat (dH (hmeld (hof a) (hof a)) qt) (by simp)) (by have := HC_t.out; have := HLa.out; have := HLb.out; omega)).mono ?_
      rintro e w19 ⟨rfl, hg19⟩
      rw [HC_t.out]
      have S19 := Lib.hid ((S18.out.call hg19))
      clear hg19 c9
      have e2 : ((a.length + a.length : Nat) : Int) = 2 * (a.length : Int) := by omega
      rw [e2]
      clear e2
      go_wp2_with fail
      go_ret
      exact ⟨rfl, S19.out.gr⟩
    · have nlb : (60 : Int) < b.length := by omega
      go_enter Tryd.func5, Tryd.ntmps5
      go_wp2_with fail
      refine (awake_any w).mono ?_
      rintro e w1 ⟨rfl, hg1⟩
      have HG1 := Lib.hid hg1
      clear hg1
      go_wp2
      go_ret
      exact ⟨rfl, HG1.out⟩
  · have nla : (60 : Int) < a.length := by omega
    go_enter Tryd.func5, Tryd.ntmps5
    go_wp2_with fail
    refine (awake_any w).mono ?_
    rintro e w1 ⟨rfl, hg1⟩
    have HG1 := Lib.hid hg1
    clear hg1
    go_wp2
    go_ret
    exact ⟨rfl, HG1.out⟩
end Go.Proofs.YtgdnlolicjdfoaaDoor
