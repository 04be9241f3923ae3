import Derived.Test.YtgdnlolicjdfoaaDoorLP
/- drain. -/
namespace Go.Proofs.YtgdnlolicjdfoaaDoor
open Go Go.Proofs Go.RowKit Slag

structure DrI (w : World) (n : Nat) (H : HP) (xb S k : Nat) (v : Value) (cur : HP) (acc : List E) (q : Option Addr) (wr : World) : Prop where
  st : St w [.row v 24 2 acc.length (eCells acc), .box xb #[.int .i64 (hmin cur).1, .int .i64 (hmin cur).2] 24, .box S #[.pointer q] 28] [dH cur q] wr
  ok : hok cur
  sz : hcnt cur ≤ 1099511627776
  eq : hdrain n H = acc ++ hdrain (n - k) cur
  len : acc.length = k
  le : k ≤ n
set_option maxRecDepth 100000 in
set_option maxHeartbeats 2000000 in
theorem hdrain_any (H : HP) (q : Option Addr) (n : Nat) (w : World) (hh : HAt (fun _ => False) w H q) (ho : hok H) (hn : hcnt H ≤ 1099511627776) (hn2 : n ≤ 1099511627000) :
    Calls Tryd.prog 20 #[.agg #[.pointer q], .int .i64 n] w fun e w' => ∃ v', e = .returned v' ∧ w.grownBy w' none ∧ NewRow w.heap.size w' (hdrain n H) v' := by
  obtain ⟨i0, hi, hz0, hz1, hz2⟩ := info_parts info_elem
  obtain ⟨S, hS⟩ : ∃ S, w.heap.size = S := ⟨_, rfl⟩
  have HS := Lib.hid hS
  have S0 := Lib.hid (((St.nil w).add (dH H q) (hh.weak fun b hb _ => by obtain ⟨s, h, _⟩ := hb; cases h)).alloc #[.pointer q] 28)
  clear hS
  go_enter Tryd.func20, Tryd.ntmps20
  go_wp2_with fail
  refine (hmin_any _ none 0 H q _ (S0.out.mtn 0) S0.out.d1 hn).mono ?_
  rintro e w1 ⟨rfl, hg1, -⟩
  have HI0 : Hid (DrI w n H w1.heap.size w.heap.size 0 (.slice none 0 0) H [] q (w1.alloc (.cells #[.int .i64 (hmin H).1, .int .i64 (hmin H).2] 24))) := Lib.hid
    ⟨((S0.out.call hg1).alloc #[.int .i64 (hmin H).1, .int .i64 (hmin H).2] 24).rnil 24 2, ho, hn, by simp, rfl, Nat.zero_le _⟩
  rw [HS.out] at HI0 ⊢
  clear hg1 S0
  unfold elV
  go_wp2_with fail
  generalize w1.heap.size = xb at *
  go_loopw [5, 7, 8] (fun v is i wr => ∃ (k : Nat) (cur : HP) (acc : List E) (q : Option Addr), i = .int .i64 k ∧ is = .bool (!hemp cur) ∧ Hid (DrI w n H xb S k v cur acc q wr)) (fun _ _ i _ => n - (intOf i).toNat)
  case atStart => exact ⟨0, H, [], q, rfl, rfl, HI0⟩
  case round =>
    obtain ⟨k, cur, acc, q, rfl, rfl, HI⟩ := hrel
    have hkn := HI.out.le
    by_cases hlt : k < n
    · cases he : hemp cur with
      | true =>
        have HE := Lib.hid he
        clear he
        go_wp2_with fail
        go_ret
        refine ⟨_, rfl, HI.out.st.gr, ?_⟩
        rw [HI.out.eq, hdrain_emp _ HE.out, List.append_nil]
        exact NewRow.of_owns (HI.out.st.rowAt (A := [])) (Nat.le_refl _)
      | false =>
        have HE := Lib.hid he
        have c1 := cell_of (HI.out.st.box (A := [_])) 0 (v := .int .i64 (hmin cur).1) rfl
        have c2 := cell_of (HI.out.st.box (A := [_])) 1 (v := .int .i64 (hmin cur).2) rfl
        clear he
        go_wp2_with (at_builtin; refine wpList_append_own_at _ rfl _ _ 22 rfl w.heap.size 24 i0 (.agg #[.int .i64 0, .int .i64 0]) 2 16 Tryd.underlying22 hi hz0 hz1 hz2 rfl (by decide) _ acc.length (eCells acc) rfl ((HI.out.st.rowAt (A := [])).alloc _) ⟨wr.heap.size, 0, none⟩ 1 1 [.int .i64 (hmin cur).1, .int .i64 (hmin cur).2] rfl rfl (cell_two_new _ _ _ _) (by simp [Value.oneCell']) ?c0 ?c1 ?c2 ?_)
        case c0 => have := HI.out.len; unfold maxLen; omega
        case c1 => have := HI.out.len; omega
        case c2 => have := HI.out.st.gr.size; simp; omega
        intro v1 w1' hown1 hgu1 hnil hat
        have S1 := Lib.hid (((HI.out.st.alloc #[.int .i64 (hmin cur).1, .int .i64 (hmin cur).2] 24).append (A := [_]) hgu1 hown1 (by simpa using hat)).sub (List.Sublist.cons _ (List.Sublist.refl _)))
        clear hown1 hgu1 hnil hat c1 c2
        have b1 := cell_of (S1.out.box (A := [_, _])) 0 (v := .pointer q) rfl
        go_wp2_with fail
        refine (hpop_any _ none 0 cur q w1' (S1.out.mtn 0) S1.out.d1 HI.out.sz).mono ?_
        rintro e w2' ⟨q2, rfl, hg2, -, hh2⟩
        have S2 := Lib.hid ((S1.out.call hg2).dsub (D' := []) (by simp) |>.add (dH (hpop cur) q2) hh2)
        have S3 := Lib.hid (S2.out.set (A := [_, _]) 0 (.pointer q2))
        have d1 := cell_of (S2.out.box (A := [_, _])) 0 (v := .pointer q) rfl
        have d2 := frozen_of (S2.out.box (A := [_, _])) 0
        have d3 := cell_of (S3.out.box (A := [_, _])) 0 (v := .pointer q2) rfl
        clear hg2 hh2 b1
        go_wp2_with fail
        refine (hmin_any _ none 0 (hpop cur) q2 _ (S3.out.mtn 0) S3.out.d1 (by have := hcnt_pop_le HI.out.ok; have := HI.out.sz; omega)).mono ?_
        rintro e w3' ⟨rfl, hg3, -⟩
        have S4 := Lib.hid (S3.out.call hg3)
        have g1 := cell_of (S4.out.box (A := [_])) 0 (v := .int .i64 (hmin cur).1) rfl
        have g2 := cell_of (S4.out.box (A := [_])) 1 (v := .int .i64 (hmin cur).2) rfl
        have g3 := frozen_of (S4.out.box (A := [_])) 0
        have g4 := frozen_of (S4.out.box (A := [_])) 1
        have S5 := Lib.hid ((S4.out.set (A := [_]) 0 (.int .i64 (hmin (hpop cur)).1)).set (A := [_]) 1 (.int .i64 (hmin (hpop cur)).2))
        have HNEXT : Hid (DrI w n H xb S (k + 1) v1 (hpop cur) (acc ++ [hmin cur]) q2 ((w3'.setCell ⟨xb, 0, none⟩ (.int .i64 (hmin (hpop cur)).1)).setCell ⟨xb, 1, none⟩ (.int .i64 (hmin (hpop cur)).2))) := Lib.hid
          ⟨by have := S5.out; rw [eCells_append, List.length_append]; exact this, hok_pop HI.out.ok, by have := hcnt_pop_le HI.out.ok; have := HI.out.sz; omega,
            by rw [HI.out.eq, show n - k = (n - (k + 1)) + 1 from by omega, hdrain_some _ HE.out]; simp, by rw [List.length_append, HI.out.len]; rfl, by omega⟩
        clear hg3 d1 d2 d3
        unfold elV
        go_wp2
        go_roundw
        case rel => exact ⟨k + 1, hpop cur, acc ++ [hmin cur], q2, by go_num, rfl, HNEXT⟩
        case measure => simp [intOf]; omega
    · obtain rfl : k = n := by omega
      go_wp2_with fail
      go_ret
      refine ⟨_, rfl, HI.out.st.gr, ?_⟩
      rw [HI.out.eq, Nat.sub_self, hdrain_zero, List.append_nil]
      exact NewRow.of_owns (HI.out.st.rowAt (A := [])) (Nat.le_refl _)
end Go.Proofs.YtgdnlolicjdfoaaDoor
