import Derived.Test.YtgdnlolicjdfoaaDoorLD
/- awake: the document's example. -/
namespace Go.Proofs.YtgdnlolicjdfoaaDoor
open Go Go.Proofs Go.RowKit Slag

theorem aw_cnt : hcnt (hof lAw) = 3 := hcnt_of lAw
theorem aw_emp : hemp (hof lAw) = false := by rw [hemp_cnt, aw_cnt]; rfl
theorem aw_cnt2 : hcnt (hpop (hof lAw)) = 2 := by have := hcnt_pop (hok_of lAw) aw_emp; rw [aw_cnt] at this; omega
theorem aw_emp2 : hemp (hpop (hof lAw)) = false := by rw [hemp_cnt, aw_cnt2]; rfl
theorem aw_srt : srt (hels (hof lAw)) = [(1, 0), (2, 0), (3, 0)] := by
  rw [srt_congr (hels_of lAw)]
  rfl
theorem aw_min : hmin (hof lAw) = (1, 0) := by
  have h := srt_pop (hok_of lAw) aw_emp
  rw [aw_srt] at h; exact (List.cons.inj h).1.symm
theorem aw_min2 : hmin (hpop (hof lAw)) = (2, 0) := by
  have h := srt_pop (hok_of lAw) aw_emp
  rw [aw_srt, srt_pop (hok_pop (hok_of lAw)) aw_emp2] at h
  exact (List.cons.inj (List.cons.inj h).2).1.symm
theorem aw_ok (w : World) : ∀ x ∈ hels (hof lAw), ElOk w x := by
  intro x hx
  have hx := (hels_of lAw).mem_iff.1 hx
  simp [lAw] at hx
  rcases hx with rfl | rfl | rfl
  · exact ⟨fmt_small w 2 (by omega), fmt_small w 0 (by omega)⟩
  · exact ⟨fmt_small w 1 (by omega), fmt_small w 0 (by omega)⟩
  · exact ⟨fmt_small w 3 (by omega), fmt_small w 0 (by omega)⟩
set_option maxRecDepth 100000 in
set_option maxHeartbeats 4000000 in
theorem awake_any (w : World) : Calls Tryd.prog 13 #[] w fun e w' => e = .returned (.bool true) ∧ w.grownBy w' none := by
  go_enter Tryd.func13, Tryd.ntmps13
  obtain ⟨M, hM⟩ : ∃ M, w.heap.size = M := ⟨_, rfl⟩
  have HMN := Lib.hid hM
  clear hM
  go_wp2_with fail
  refine (mnew_any w).mono ?_
  rintro e w1 ⟨rfl, hg1, hm1⟩
  rw [HMN.out] at hm1 ⊢
  have S1 := Lib.hid ((St.nil w).push (s := .met M 0) hg1 ⟨Nat.le_of_eq HMN.out, hm1⟩ (fun b hb => by cases hb; exact Nat.le_of_eq HMN.out))
  have S2 := Lib.hid (S1.out.lit lAw #[.int .i64 2, .int .i64 0, .int .i64 1, .int .i64 0, .int .i64 3, .int .i64 0] 3 rfl rfl (by decide))
  have HOF := Lib.hid (hof_any _ (some M) 0 lAw _ _ (S2.out.mt (A := [])) S2.out.d1 (by simp [lAw]))
  rw [aw_steps] at HOF
  unfold mval at HOF ⊢
  clear hg1 hm1
  go_wp2_with fail
  refine HOF.out.mono ?_
  rintro e w2 ⟨q2, rfl, hg2, hm2, hh2⟩
  have S3 := Lib.hid ((S2.out.madd (A := []) hg2 hm2 (dH (hof lAw) q2) hh2).alloc #[.pointer q2] 28)
  have HST : Hid (stepsOf (some M) (0 + ((7 : Nat) : Int)) = 7) := Lib.hid (by simp [stepsOf, wrap64])
  clear hg2 hm2 hh2
  go_wp2_with fail
  refine (msteps_any (some M) _ _ (S3.out.mt (A := [_])).at_).mono ?_
  rintro e w3 ⟨rfl, hg3⟩
  rw [HST.out]
  have S4 := Lib.hid (S3.out.call hg3)
  have c1 := cell_of (S4.out.box (A := [])) 0 (v := .pointer q2) rfl
  clear hg3
  go_wp2_with fail
  refine (hmin_any _ (some M) _ (hof lAw) q2 w3 (S4.out.mt (A := [_])) S4.out.d1 (by rw [aw_cnt]; omega)).mono ?_
  rintro e w4 ⟨rfl, hg4, hm4⟩
  rw [aw_min, aw_emp]
  unfold elV
  have S5 := Lib.hid ((S4.out.mcall (A := [_]) hg4 hm4.at_).alloc #[.int .i64 1, .int .i64 0] 24)
  have c2 := cell_of (S5.out.box (A := [_])) 0 (v := .pointer q2) rfl
  clear hg4 hm4 c1
  go_wp2_with fail
  refine (hpop_any _ (some M) _ (hof lAw) q2 _ (S5.out.mt (A := [_, _])) S5.out.d1 (by rw [aw_cnt]; omega)).mono ?_
  rintro e w5 ⟨q5, rfl, hg5, hm5, hh5⟩
  rw [aw_emp]
  have S6 := Lib.hid ((S5.out.madd (A := [_, _]) hg5 hm5 (dH (hpop (hof lAw)) q5) hh5).alloc #[.pointer q5] 28)
  have c3 := cell_of (S6.out.box (A := [])) 0 (v := .pointer q5) rfl
  clear hg5 hm5 hh5 c2
  go_wp2_with fail
  refine (hmin_any _ (some M) _ (hpop (hof lAw)) q5 _ (S6.out.mt (A := [_, _, _])) S6.out.d1 (by rw [aw_cnt2]; omega)).mono ?_
  rintro e w6 ⟨rfl, hg6, hm6⟩
  rw [aw_min2, aw_emp2]
  unfold elV
  have S7 := Lib.hid ((S6.out.mcall (A := [_, _, _]) hg6 hm6.at_).alloc #[.int .i64 2, .int .i64 0] 24)
  clear hg6 hm6 c3
  go_wp2_with fail
  refine (hpop_any _ (some M) _ hnil none _ (S7.out.mt (A := [_, _, _, _])) (HAt.nil _ _) (by rw [hcnt_nil]; omega)).mono ?_
  rintro e w7 ⟨q7, rfl, hg7, hm7, hh7⟩
  rw [show hemp hnil = true from by rw [hemp_cnt, hcnt_nil]; rfl]
  have S8 := Lib.hid ((S7.out.mcall (A := [_, _, _, _]) hg7 hm7.at_).alloc #[.pointer q7] 28)
  have f1 := cell_of (S8.out.box (A := [_, _, _, _])) 0 (v := .pointer q2) rfl
  clear hg7 hm7 hh7
  go_wp2_with fail
  refine (hshow_any (hof lAw) q2 _ (HAt.weak S8.out.d2 (fun _ h _ => h.elim)) (by rw [aw_cnt]; omega) (aw_ok _)).mono ?_
  rintro e w9 ⟨rfl, hg9⟩
  rw [aw_text]
  have S9 := Lib.hid (S8.out.call hg9)
  have g1 := cell_of (S9.out.box (A := [_, _, _, _])) 0 (v := .pointer q2) rfl
  have g2 := cell_of (S9.out.box (A := [_, _, _])) 0 (v := .int .i64 1) rfl
  have g3 := cell_of (S9.out.box (A := [_, _])) 0 (v := .pointer q5) rfl
  have g4 := cell_of (S9.out.box (A := [_])) 0 (v := .int .i64 2) rfl
  unfold strV
  clear f1 hg9
  go_wp2_with fail
  refine (hsize_any _ (hof lAw) q2 w9 S9.out.lt S9.out.d2 (by rw [aw_cnt]; omega)).mono ?_
  rintro e w10 ⟨rfl, hg10⟩
  rw [aw_cnt]
  have S10 := Lib.hid (S9.out.call hg10)
  have f1 := cell_of (S10.out.box (A := [_, _])) 0 (v := .pointer q5) rfl
  clear g1 g2 g3 g4 hg10
  go_wp2_with fail
  refine (hsize_any _ (hpop (hof lAw)) q5 w10 S10.out.lt S10.out.d1 (by rw [aw_cnt2]; omega)).mono ?_
  rintro e w11 ⟨rfl, hg11⟩
  rw [aw_cnt2]
  have S11 := Lib.hid (S10.out.call hg11)
  clear f1 hg11
  go_wp2
  go_ret
  exact ⟨rfl, S11.out.gr⟩
end Go.Proofs.YtgdnlolicjdfoaaDoor
