import Derived.Test.YtgdnlolicjdfoaaDoorWR
/- Rooted heaps: Of, Meld. -/
namespace Go.Proofs.YtgdnlolicjdfoaaDoor
open Go Go.Proofs Go.RowKit Slag

theorem rAll_take {p : RH × Nat} {l : List E} {k : Nat} {x : E} (h : l[k]? = some x) :
    RH.insAll p (l.take (k + 1)) = (RH.ins (RH.insAll p (l.take k)).1 x, (RH.insAll p (l.take k)).2 + RH.insN (RH.insAll p (l.take k)).1) := by
  have hk := (List.getElem?_eq_some_iff.1 h)
  rw [List.take_succ_eq_append_getElem hk.1, hk.2]
  simp [RH.insAll, List.foldl_append]
theorem rAll_len (l : List E) : (RH.els (RH.insAll (none, 0) l).1).length = l.length := by
  rw [RH.insAll_fst]; exact (RH.of_els l).length_eq
set_option maxRecDepth 100000 in
set_option maxHeartbeats 2000000 in
theorem rof_any (X : Nat → Prop) (m : Option Nat) (n : Int) (l : List E) (v : Value) (w : World) (hm : Mt X w m n) (hv : RowAt X 24 2 w l.length (eCells l) v) (hn : l.length ≤ 1099511627776) :
    Calls Tryd.prog 14 #[mval m, v] w fun e w' => ∃ q, e = .returned (.agg #[.pointer q]) ∧ w.grownBy w' m ∧ Mt X w' m (n + ((RH.insAll (none, 0) l).2 : Nat)) ∧ RootAt X w' (RH.of l) q := by
  obtain ⟨-, p, cap, rfl, -⟩ := id hv
  obtain ⟨S, hS⟩ : ∃ S, w.heap.size = S := ⟨_, rfl⟩
  have S00 := (((SX.nil hm).add (dR l (.slice p l.length cap)) (RowAt.weak hv fun b hb _ => by rcases hb with hb | ⟨s, h, _⟩; exact hb; cases h)).alloc #[.pointer none] 28).alloc #[.pointer none] 28
  simp only [World.size_alloc, hS] at S00
  have S0 : Hid (SX X m (n + ((RH.insAll (none, 0) (l.take 0)).2 : Nat)) w [.box (S + 1) #[.pointer none] 28, .box S #[.pointer none] 28] [dRt (RH.insAll (none, 0) (l.take 0)).1 none, dR l (.slice p l.length cap)] ((w.alloc (.cells #[.pointer none] 28)).alloc (.cells #[.pointer none] 28))) :=
    Lib.hid (by simpa [RH.insAll] using S00.add (dRt none none) rfl)
  have HS := Lib.hid hS
  clear hm hv S00
  go_enter Tryd.func14, Tryd.ntmps14
  go_wp2_with fail
  go_loopw [11] (fun i wr => ∃ (k : Nat) (q : Option Addr), i = .int .i64 k ∧ k ≤ l.length ∧ Hid (SX X m (n + ((RH.insAll (none, 0) (l.take k)).2 : Nat)) w [.box (S + 1) #[.pointer q] 28, .box S #[.pointer none] 28] [dRt (RH.insAll (none, 0) (l.take k)).1 q, dR l (.slice p l.length cap)] wr)) (fun i _ => l.length - (intOf i).toNat)
  case atStart => exact ⟨0, none, rfl, Nat.zero_le _, S0⟩
  case round =>
    obtain ⟨k, q, rfl, hk, HI⟩ := hrel
    have HLEN := Lib.hid (rAll_len (l.take k))
    have c1 := cell_of (HI.out.box (A := [])) 0 (v := .pointer q) rfl
    by_cases hlt : k < l.length
    · obtain ⟨x, hx⟩ : ∃ x, l[k]? = some x := ⟨l[k], by simp [hlt]⟩
      obtain ⟨e1, e2⟩ := eCells_get hx
      have hrow : RowAt _ 24 2 wr l.length (eCells l) (.slice p l.length cap) := HI.out.d2
      obtain ⟨b, off, rfl, d1⟩ := hrow.cell e1
      obtain ⟨b', off', e, d2⟩ := hrow.cell e2
      cases e
      rw [show off + 2 * k = off + k * 2 from by omega] at d1
      rw [show off + (2 * k + 1) = off + k * 2 + 1 from by omega] at d2
      have HT := Lib.hid (rAll_take (p := (none, 0)) hx)
      have S1 := Lib.hid (HI.out.alloc #[.int .i64 x.1, .int .i64 x.2] 24)
      have g1 := cell_of (S1.out.box (A := [_])) 0 (v := .pointer q) rfl
      have hins := fun Y W hM hH => rins_any Y m (n + ((RH.insAll (none, 0) (l.take k)).2 : Nat)) (RH.insAll (none, 0) (l.take k)).1 q x W hM hH (by rw [HLEN.out, List.length_take]; omega)
      unfold elV at hins
      have HINS := Lib.hid hins
      clear hins e1 e2 hrow hx c1
      go_wp2_with fail
      refine (HINS.out _ _ S1.out.Mt S1.out.d1).mono ?_
      rintro e w2 ⟨q2, rfl, hg2, hm2, hh2⟩
      have S2 := Lib.hid (((S1.out.mcall hg2 hm2.at_).add (dRt _ q2) hh2).tl)
      have g2 := cell_of (S2.out.box (A := [])) 0 (v := .pointer q) rfl
      have g3 := frozen_of (S2.out.box (A := [])) 0
      have S3 : Hid (SX X m (n + ((RH.insAll (none, 0) (l.take (k + 1))).2 : Nat)) w [.box (S + 1) #[.pointer q2] 28, .box S #[.pointer none] 28] [dRt (RH.insAll (none, 0) (l.take (k + 1))).1 q2, dR l (.slice (some ⟨b, off, none⟩) l.length cap)] (w2.setCell ⟨S + 1, 0, none⟩ (.pointer q2))) := Lib.hid (by
        rw [HT.out]
        have := (S2.out.set (A := []) 0 (.pointer q2)).dsub (D' := [dRt (RH.ins (RH.insAll (none, 0) (l.take k)).1 x) q2, dR l (.slice (some ⟨b, off, none⟩) l.length cap)]) (by simp)
        rw [show n + (((RH.insAll (none, 0) (l.take k)).2 + RH.insN (RH.insAll (none, 0) (l.take k)).1 : Nat) : Int) = n + ((RH.insAll (none, 0) (l.take k)).2 : Nat) + (RH.insN (RH.insAll (none, 0) (l.take k)).1 : Nat) from by omega]
        exact this)
      clear hg2 hm2 hh2 d1 d2 g1
      go_wp2
      go_roundw
      case rel => exact ⟨k + 1, q2, by go_num, by omega, S3⟩
      case measure => simp [intOf]; omega
    · obtain rfl : k = l.length := by omega
      have e1 := cell_of (HI.out.box (A := [_])) 0 (v := .pointer none) rfl
      have e2 := frozen_of (HI.out.box (A := [_])) 0
      have S3 := Lib.hid (HI.out.set (A := [_]) 0 (.pointer q))
      have hr := cell_of (S3.out.box (A := [_])) 0 (v := .pointer q) rfl
      go_wp2_with fail
      refine bodyPost_ret (v := .agg #[.pointer q]) (by simp [results, Tryd.results14, go_sem, hr]) rfl ?_
      rw [List.take_length] at S3
      exact ⟨_, rfl, S3.out.fin.1, S3.out.fin.2, by have := S3.out.dout; rw [RH.insAll_fst] at this; exact this⟩
set_option maxRecDepth 100000 in
set_option maxHeartbeats 4000000 in
theorem rmeld_any (X : Nat → Prop) (m : Option Nat) (n : Int) (h1 h2 : RH) (qa qb : Option Addr) (w : World) (hm : Mt X w m n) (hh1 : RootAt X w h1 qa) (hh2 : RootAt X w h2 qb) (hn : (RH.els h1).length + (RH.els h2).length ≤ 1099511627776) :
    Calls Tryd.prog 26 #[.agg #[.pointer qa], mval m, .agg #[.pointer qb]] w fun e w' => ∃ q', e = .returned (.agg #[.pointer q']) ∧ w.grownBy w' m ∧ Mt X w' m (n + (RH.meldN h1 h2 : Nat)) ∧ RootAt X w' (RH.meld h1 h2) q' := by
  have S0 := Lib.hid ((((SX.nil hm).add (dRt h2 qb) (RootAt.weak (fun b hb _ => by rcases hb with hb | ⟨s, h, _⟩; exact hb; cases h) hh2)).add (dRt h1 qa) (RootAt.weak (fun b hb _ => by rcases hb with hb | ⟨s, h, _⟩; exact hb; cases h) hh1)).alloc #[.pointer qa] 28 |>.alloc #[.pointer qb] 28)
  have S1 := Lib.hid (S0.out.alloc #[.pointer none] 28)
  simp only [World.size_alloc] at S0 S1
  cases h1 with
  | none =>
    obtain rfl : qa = none := hh1
    have S2 := Lib.hid (S0.out.alloc #[.pointer qb] 28)
    clear hm
    go_enter Tryd.func26, Tryd.ntmps26
    go_wp2
    refine bodyPost_ret (v := .agg #[.pointer qb]) (by simp [results, Tryd.results26, go_sem]) rfl ?_
    exact ⟨_, rfl, S2.out.fin.1, by simpa [RH.meldN] using S2.out.fin.2, RootAt.weak (fun _ hb _ => .inl hb) S2.out.d2⟩
  | some p1 =>
    obtain ⟨x, l⟩ := p1
    obtain ⟨b1, q1, rfl, hX1, hb1, hl1⟩ := id (show RootAt (XO X _) _ (some (x, l)) qa from S1.out.d1)
    cases h2 with
    | none =>
      obtain rfl : qb = none := hh2
      have S2 := Lib.hid (S0.out.alloc #[.pointer (some ⟨b1, 0, none⟩)] 28)
      clear hm hb1 hl1 hX1
      go_enter Tryd.func26, Tryd.ntmps26
      go_wp2
      refine bodyPost_ret (v := .agg #[.pointer (some ⟨b1, 0, none⟩)]) (by simp [results, Tryd.results26, go_sem]) rfl ?_
      exact ⟨_, rfl, S2.out.fin.1, by simpa [RH.meldN] using S2.out.fin.2, RootAt.weak (fun _ hb _ => .inl hb) S2.out.d1⟩
    | some p2 =>
      obtain ⟨y, k⟩ := p2
      obtain ⟨b2, q2, rfl, hX2, hb2, hl2⟩ := id (show RootAt (XO X _) _ (some (y, k)) qb from S1.out.d2)
      have S2 := Lib.hid (((((S1.out.dsub (D' := []) (by simp)).add (dN b2 q2 y) ⟨hX2, hb2⟩).add (dN b1 q1 x) ⟨hX1, hb1⟩).add (dS k q2) hl2).add (dS l q1) hl1)
      have r1 := cell_of hb1 1 (v := .int .i64 x.1) rfl
      have r2 := cell_of hb1 2 (v := .int .i64 x.2) rfl
      have r3 := cell_of hb2 1 (v := .int .i64 y.1) rfl
      have r4 := cell_of hb2 2 (v := .int .i64 y.2) rfl
      have d1 := cell_of (S2.out.box (A := [_, _])) 0 (v := .pointer (some ⟨b1, 0, none⟩)) rfl
      have d2 := cell_of (S2.out.box (A := [_])) 0 (v := .pointer (some ⟨b2, 0, none⟩)) rfl
      have hnl : Tr.sizeL l + Tr.sizeL k + 2 ≤ 1099511627776 := by simp [RH.els] at hn; simp only [Tr.sizeL]; omega
      have HNL := Lib.hid hnl
      have HR := Lib.hid (RH.meld_some x y l k)
      have HD := Lib.hid (And.intro hX1 (And.intro hb1 (And.intro hX2 hb2)))
      clear hm hb1 hl1 hX1 hb2 hl2 hX2 hh1 hh2 hn hnl S0 S1
      go_enter Tryd.func26, Tryd.ntmps26
      go_wp2_with fail
      have hlt1 : b1 < w.heap.size + 1 + 1 + 1 := by have := lt_of_heap HD.out.2.1; simpa using this
      have hlt2 : b2 < w.heap.size + 1 + 1 + 1 := by have := lt_of_heap HD.out.2.2.2; simpa using this
      have n1 : ¬ w.heap.size + 1 + 1 + 1 = b1 := by omega
      have n2 : ¬ w.heap.size + 1 + 1 + 1 + 1 = b1 := by omega
      have n3 : ¬ w.heap.size + 1 + 1 + 1 = b2 := by omega
      have n4 : ¬ w.heap.size + 1 + 1 + 1 + 1 = b2 := by omega
      go_region_held3 (fun W => W.cell? ⟨w.heap.size, 0, none⟩ = some (.pointer (some ⟨b1, 0, none⟩)) ∧ W.cell? ⟨w.heap.size + 1, 0, none⟩ = some (.pointer (some ⟨b2, 0, none⟩)) ∧ W.cell? ⟨b1, 1, none⟩ = some (.int .i64 x.1) ∧ W.cell? ⟨b1, 2, none⟩ = some (.int .i64 x.2) ∧ W.cell? ⟨b2, 1, none⟩ = some (.int .i64 y.1) ∧ W.cell? ⟨b2, 2, none⟩ = some (.int .i64 y.2))
        (go_keep)
        (fail)
      all_goals rename_i hHeld
      -- GENERATED BY rmeldgen.py
      · have S3 := Lib.hid ((S2.out.alloc #[.int .i64 x.1, .int .i64 x.2] 24).alloc #[.int .i64 y.1, .int .i64 y.2] 24 |>.drew)
        simp only [World.size_alloc] at S3
        clear hHeld hlt1 hlt2 n1 n2 n3 n4 r1 r2 r3 r4 d1 d2 S2 HD
        generalize (((((w.alloc (.cells #[.pointer (some ⟨b1, 0, none⟩)] 28)).alloc (.cells #[.pointer (some ⟨b2, 0, none⟩)] 28)).alloc (.cells #[.pointer none] 28)).alloc (.cells #[.int .i64 x.1, .int .i64 x.2] 24)).alloc (.cells #[.int .i64 y.1, .int .i64 y.2] 24)).drew = w1 at *
        have c1 := cell_of (S3.out.box (A := [_])) 0 (v := .int .i64 x.1) rfl
        have c2 := cell_of (S3.out.box (A := [_])) 1 (v := .int .i64 x.2) rfl
        have c3 := cell_of (S3.out.box (A := [])) 0 (v := .int .i64 y.1) rfl
        have c4 := cell_of (S3.out.box (A := [])) 1 (v := .int .i64 y.2) rfl
        have hml := fun W hM => mless_any m n y x W hM
        unfold elV at hml
        have HML := Lib.hid hml
        clear hml
        go_wp2_with fail
        refine (HML.out _ S3.out.mt).mono ?_
        rintro e w2 ⟨rfl, hg2, hm2⟩
        have S4 := Lib.hid (S3.out.mcall hg2 hm2)
        have c1 := cell_of (S4.out.box (A := [_])) 0 (v := .int .i64 x.1) rfl
        have c2 := cell_of (S4.out.box (A := [_])) 1 (v := .int .i64 x.2) rfl
        have c3 := cell_of (S4.out.box (A := [])) 0 (v := .int .i64 y.1) rfl
        have c4 := cell_of (S4.out.box (A := [])) 1 (v := .int .i64 y.2) rfl
        have f1 := frozen_of (S4.out.box (A := [_])) 0
        have f2 := frozen_of (S4.out.box (A := [_])) 1
        have f3 := frozen_of (S4.out.box (A := [])) 0
        have f4 := frozen_of (S4.out.box (A := [])) 1
        clear hg2 hm2
        generalize hls : less y x = ls at *
        have HLS := Lib.hid hls
        clear hls
        cases ls with
        | true =>
          go_wp2_with fail
          have S5 := Lib.hid ((((S4.out.set (A := [_]) 0 (.int .i64 y.1)).set (A := [_]) 1 (.int .i64 y.2)).set (A := []) 0 (.int .i64 x.1)).set (A := []) 1 (.int .i64 x.2))
          clear c1 c2 c3 c4 f1 f2 f3 f4
          generalize ((((w2.setCell ⟨w.heap.size + 1 + 1 + 1, 0, none⟩ (.int .i64 y.1)).setCell ⟨w.heap.size + 1 + 1 + 1, 1, none⟩ (.int .i64 y.2)).setCell ⟨w.heap.size + 1 + 1 + 1 + 1, 0, none⟩ (.int .i64 x.1)).setCell ⟨w.heap.size + 1 + 1 + 1 + 1, 1, none⟩ (.int .i64 x.2)) = w3 at *
          have S6 : Hid (SX X m (n + 1) w [.box (w.heap.size + 1 + 1 + 1 + 1) #[.int .i64 x.1, .int .i64 x.2] 24, .box (w.heap.size + 1 + 1 + 1) #[.int .i64 y.1, .int .i64 y.2] 24, .box (w.heap.size + 1 + 1) #[.pointer none] 28, .box (w.heap.size + 1) #[.pointer (some ⟨b2, 0, none⟩)] 28, .box w.heap.size #[.pointer (some ⟨b1, 0, none⟩)] 28] [dS l q1, dS k q2, dN b1 q1 x, dN b2 q2 y] w3) := S5
          have HS := Lib.hid (fun (W : World) (hg : w3.grownBy W m) => (⟨cell_of (S6.out.later (A := [_, _, _, _]) hg) 0 rfl, cell_of (S6.out.later (A := [_, _, _]) hg) 0 rfl, cell_of (S6.out.later (A := [_]) hg) 0 rfl, cell_of (S6.out.later (A := [_]) hg) 1 rfl, cell_of (S6.out.later (A := []) hg) 0 rfl, cell_of (S6.out.later (A := []) hg) 1 rfl, cell_of ((dN b1 q1 x).ext S6.out.d3 (S6.out.ext hg)).2 0 rfl, cell_of ((dN b2 q2 y).ext S6.out.d4 (S6.out.ext hg)).2 0 rfl⟩ : W.cell? ⟨w.heap.size, 0, none⟩ = some (.pointer (some ⟨b1, 0, none⟩)) ∧ W.cell? ⟨w.heap.size + 1, 0, none⟩ = some (.pointer (some ⟨b2, 0, none⟩)) ∧ W.cell? ⟨w.heap.size + 1 + 1 + 1, 0, none⟩ = some (.int .i64 y.1) ∧ W.cell? ⟨w.heap.size + 1 + 1 + 1, 1, none⟩ = some (.int .i64 y.2) ∧ W.cell? ⟨w.heap.size + 1 + 1 + 1 + 1, 0, none⟩ = some (.int .i64 x.1) ∧ W.cell? ⟨w.heap.size + 1 + 1 + 1 + 1, 1, none⟩ = some (.int .i64 x.2) ∧ W.cell? ⟨b1, 0, none⟩ = some (.pointer q1) ∧ W.cell? ⟨b2, 0, none⟩ = some (.pointer q2)))
          have HRES := Lib.hid (fun (W : World) (hg : w3.grownBy W m) => (⟨cell_of (S6.out.later (A := [_, _]) hg) 0 rfl, frozen_of (S6.out.later (A := [_, _]) hg) 0⟩ : W.cell? ⟨w.heap.size + 1 + 1, 0, none⟩ = some (.pointer none) ∧ W.frozen? ⟨w.heap.size + 1 + 1, 0, none⟩ = false))
          have HB1 := Lib.hid (show w.heap.size + 1 + 1 ≠ b1 from fun e => S6.out.d3.1 (.inr ⟨.box (w.heap.size + 1 + 1) #[.pointer none] 28, by simp, by rw [← e]; rfl⟩))
          have HB2 := Lib.hid (show w.heap.size + 1 + 1 ≠ b2 from fun e => S6.out.d4.1 (.inr ⟨.box (w.heap.size + 1 + 1) #[.pointer none] 28, by simp, by rw [← e]; rfl⟩))
          have HSW := Lib.hid (fun (W : World) (v : Value) (hg : w3.grownBy W m) => (by
            obtain ⟨g1, g2, g3, g4, g5, g6, g7, g8⟩ := HS.out W hg
            have hb1 := HB1.out
            have hb2 := HB2.out
            exact ⟨cell_set_ne v g1 (by simp; omega), cell_set_ne v g2 (by simp), cell_set_ne v g3 (by simp), cell_set_ne v g4 (by simp), cell_set_ne v g5 (by simp), cell_set_ne v g6 (by simp), cell_set_ne v g7 (by simpa using hb1), cell_set_ne v g8 (by simpa using hb2)⟩ : (W.setCell ⟨w.heap.size + 1 + 1, 0, none⟩ v).cell? ⟨w.heap.size, 0, none⟩ = some (.pointer (some ⟨b1, 0, none⟩)) ∧ (W.setCell ⟨w.heap.size + 1 + 1, 0, none⟩ v).cell? ⟨w.heap.size + 1, 0, none⟩ = some (.pointer (some ⟨b2, 0, none⟩)) ∧ (W.setCell ⟨w.heap.size + 1 + 1, 0, none⟩ v).cell? ⟨w.heap.size + 1 + 1 + 1, 0, none⟩ = some (.int .i64 y.1) ∧ (W.setCell ⟨w.heap.size + 1 + 1, 0, none⟩ v).cell? ⟨w.heap.size + 1 + 1 + 1, 1, none⟩ = some (.int .i64 y.2) ∧ (W.setCell ⟨w.heap.size + 1 + 1, 0, none⟩ v).cell? ⟨w.heap.size + 1 + 1 + 1 + 1, 0, none⟩ = some (.int .i64 x.1) ∧ (W.setCell ⟨w.heap.size + 1 + 1, 0, none⟩ v).cell? ⟨w.heap.size + 1 + 1 + 1 + 1, 1, none⟩ = some (.int .i64 x.2) ∧ (W.setCell ⟨w.heap.size + 1 + 1, 0, none⟩ v).cell? ⟨b1, 0, none⟩ = some (.pointer q1) ∧ (W.setCell ⟨w.heap.size + 1 + 1, 0, none⟩ v).cell? ⟨b2, 0, none⟩ = some (.pointer q2)))
          have hsm := fun Y W hM hH hK => smeld_any Y m (n + 1) l k (.agg #[.pointer q1]) (.agg #[.pointer q2]) W hM hH hK (by have := HNL.out; omega)
          have hsz := (meld_all (key := id) l k).length_eq
          have hsi := fun Y n' q' W hM hH => sins_any Y m n' (meld id l k) (.agg #[.pointer q']) x W hM hH (by have := HNL.out; simp only [Tr.sizeL] at *; simp at hsz; omega)
          have hrm := fun Y n' q' W hM hH => rmade_any Y m n' y (Slag.insert id (meld id l k) x) q' W hM hH
          unfold elV at hsi hrm
          have HSM := Lib.hid hsm
          have HSI := Lib.hid hsi
          have HRM := Lib.hid hrm
          clear hsm hsi hrm hsz
          have hS0 := HS.out w3 (grown_refl _ _)
          go_region_held3 (fun W => W.cell? ⟨w.heap.size, 0, none⟩ = some (.pointer (some ⟨b1, 0, none⟩)) ∧ W.cell? ⟨w.heap.size + 1, 0, none⟩ = some (.pointer (some ⟨b2, 0, none⟩)) ∧ W.cell? ⟨w.heap.size + 1 + 1 + 1, 0, none⟩ = some (.int .i64 y.1) ∧ W.cell? ⟨w.heap.size + 1 + 1 + 1, 1, none⟩ = some (.int .i64 y.2) ∧ W.cell? ⟨w.heap.size + 1 + 1 + 1 + 1, 0, none⟩ = some (.int .i64 x.1) ∧ W.cell? ⟨w.heap.size + 1 + 1 + 1 + 1, 1, none⟩ = some (.int .i64 x.2) ∧ W.cell? ⟨b1, 0, none⟩ = some (.pointer q1) ∧ W.cell? ⟨b2, 0, none⟩ = some (.pointer q2))
            (first | exact HS.out _ hh6 | exact HS.out _ hh5 | exact HS.out _ hh4 | exact HS.out _ (grown_drew (grown_refl _ _)) | exact HS.out _ (grown_refl _ _) | exact HSW.out _ _ hh6)
            (first
              | (go_at_call 38; refine (HSM.out _ _ S6.out.drew.Mt S6.out.drew.d1 S6.out.drew.d2).mono ?_; rintro e w4 ⟨v4, rfl, hg4, hm4, hs4⟩; obtain ⟨q4, vs4, rfl, -, -⟩ := id hs4; have hh4 := grown_trans (grown_drew (grown_refl w3 m)) hg4)
              | (go_at_call 35; refine (HSI.out _ _ q4 _ hm4 hs4).mono ?_; rintro e w5 ⟨v5, rfl, hg5, hm5, hs5⟩; obtain ⟨q5, vs5, rfl, -, -⟩ := id hs5; have hh5 := grown_trans hh4 hg5)
              | (go_at_call 33; refine (HRM.out _ _ q5 _ hm5 hs5).mono ?_; rintro e w6 ⟨q6, rfl, hg6, hm6, hr6⟩; have hh6 := grown_trans hh5 hg6; obtain ⟨p7, p8⟩ := HRES.out _ hh6))
          have S7 := Lib.hid (((((S6.out.drew.mcall hg4 hm4.at_).mcall hg5 hm5.at_).mcall hg6 hm6.at_).add (dRt (some (y, Slag.insert id (meld id l k) x)) q6) hr6).set (A := [_, _]) 0 (.pointer q6))
          have hr := cell_of (S7.out.box (A := [_, _])) 0 (v := .pointer q6) rfl
          go_wp2
          refine bodyPost_ret (v := .agg #[.pointer q6]) (by simp [results, Tryd.results26, go_sem, hr]) rfl ?_
          have e1 : n + 1 + ((meldN id l k : Nat) : Int) + ((insertN (meld id l k) : Nat) : Int) + 1 = n + ((RH.meldN (some (x, l)) (some (y, k)) : Nat) : Int) := by simp [RH.meldN]; omega
          rw [e1] at S7
          refine ⟨_, rfl, S7.out.fin.1, S7.out.fin.2, ?_⟩
          rw [HR.out, if_pos trivial]
          exact S7.out.dout
        | false =>
          go_wp2_with fail
          have S5 := S4
          clear c1 c2 c3 c4 f1 f2 f3 f4
          generalize w2 = w3 at *
          have S6 : Hid (SX X m (n + 1) w [.box (w.heap.size + 1 + 1 + 1 + 1) #[.int .i64 y.1, .int .i64 y.2] 24, .box (w.heap.size + 1 + 1 + 1) #[.int .i64 x.1, .int .i64 x.2] 24, .box (w.heap.size + 1 + 1) #[.pointer none] 28, .box (w.heap.size + 1) #[.pointer (some ⟨b2, 0, none⟩)] 28, .box w.heap.size #[.pointer (some ⟨b1, 0, none⟩)] 28] [dS l q1, dS k q2, dN b1 q1 x, dN b2 q2 y] w3) := S5
          have HS := Lib.hid (fun (W : World) (hg : w3.grownBy W m) => (⟨cell_of (S6.out.later (A := [_, _, _, _]) hg) 0 rfl, cell_of (S6.out.later (A := [_, _, _]) hg) 0 rfl, cell_of (S6.out.later (A := [_]) hg) 0 rfl, cell_of (S6.out.later (A := [_]) hg) 1 rfl, cell_of (S6.out.later (A := []) hg) 0 rfl, cell_of (S6.out.later (A := []) hg) 1 rfl, cell_of ((dN b1 q1 x).ext S6.out.d3 (S6.out.ext hg)).2 0 rfl, cell_of ((dN b2 q2 y).ext S6.out.d4 (S6.out.ext hg)).2 0 rfl⟩ : W.cell? ⟨w.heap.size, 0, none⟩ = some (.pointer (some ⟨b1, 0, none⟩)) ∧ W.cell? ⟨w.heap.size + 1, 0, none⟩ = some (.pointer (some ⟨b2, 0, none⟩)) ∧ W.cell? ⟨w.heap.size + 1 + 1 + 1, 0, none⟩ = some (.int .i64 x.1) ∧ W.cell? ⟨w.heap.size + 1 + 1 + 1, 1, none⟩ = some (.int .i64 x.2) ∧ W.cell? ⟨w.heap.size + 1 + 1 + 1 + 1, 0, none⟩ = some (.int .i64 y.1) ∧ W.cell? ⟨w.heap.size + 1 + 1 + 1 + 1, 1, none⟩ = some (.int .i64 y.2) ∧ W.cell? ⟨b1, 0, none⟩ = some (.pointer q1) ∧ W.cell? ⟨b2, 0, none⟩ = some (.pointer q2)))
          have HRES := Lib.hid (fun (W : World) (hg : w3.grownBy W m) => (⟨cell_of (S6.out.later (A := [_, _]) hg) 0 rfl, frozen_of (S6.out.later (A := [_, _]) hg) 0⟩ : W.cell? ⟨w.heap.size + 1 + 1, 0, none⟩ = some (.pointer none) ∧ W.frozen? ⟨w.heap.size + 1 + 1, 0, none⟩ = false))
          have HB1 := Lib.hid (show w.heap.size + 1 + 1 ≠ b1 from fun e => S6.out.d3.1 (.inr ⟨.box (w.heap.size + 1 + 1) #[.pointer none] 28, by simp, by rw [← e]; rfl⟩))
          have HB2 := Lib.hid (show w.heap.size + 1 + 1 ≠ b2 from fun e => S6.out.d4.1 (.inr ⟨.box (w.heap.size + 1 + 1) #[.pointer none] 28, by simp, by rw [← e]; rfl⟩))
          have HSW := Lib.hid (fun (W : World) (v : Value) (hg : w3.grownBy W m) => (by
            obtain ⟨g1, g2, g3, g4, g5, g6, g7, g8⟩ := HS.out W hg
            have hb1 := HB1.out
            have hb2 := HB2.out
            exact ⟨cell_set_ne v g1 (by simp; omega), cell_set_ne v g2 (by simp), cell_set_ne v g3 (by simp), cell_set_ne v g4 (by simp), cell_set_ne v g5 (by simp), cell_set_ne v g6 (by simp), cell_set_ne v g7 (by simpa using hb1), cell_set_ne v g8 (by simpa using hb2)⟩ : (W.setCell ⟨w.heap.size + 1 + 1, 0, none⟩ v).cell? ⟨w.heap.size, 0, none⟩ = some (.pointer (some ⟨b1, 0, none⟩)) ∧ (W.setCell ⟨w.heap.size + 1 + 1, 0, none⟩ v).cell? ⟨w.heap.size + 1, 0, none⟩ = some (.pointer (some ⟨b2, 0, none⟩)) ∧ (W.setCell ⟨w.heap.size + 1 + 1, 0, none⟩ v).cell? ⟨w.heap.size + 1 + 1 + 1, 0, none⟩ = some (.int .i64 x.1) ∧ (W.setCell ⟨w.heap.size + 1 + 1, 0, none⟩ v).cell? ⟨w.heap.size + 1 + 1 + 1, 1, none⟩ = some (.int .i64 x.2) ∧ (W.setCell ⟨w.heap.size + 1 + 1, 0, none⟩ v).cell? ⟨w.heap.size + 1 + 1 + 1 + 1, 0, none⟩ = some (.int .i64 y.1) ∧ (W.setCell ⟨w.heap.size + 1 + 1, 0, none⟩ v).cell? ⟨w.heap.size + 1 + 1 + 1 + 1, 1, none⟩ = some (.int .i64 y.2) ∧ (W.setCell ⟨w.heap.size + 1 + 1, 0, none⟩ v).cell? ⟨b1, 0, none⟩ = some (.pointer q1) ∧ (W.setCell ⟨w.heap.size + 1 + 1, 0, none⟩ v).cell? ⟨b2, 0, none⟩ = some (.pointer q2)))
          have hsm := fun Y W hM hH hK => smeld_any Y m (n + 1) l k (.agg #[.pointer q1]) (.agg #[.pointer q2]) W hM hH hK (by have := HNL.out; omega)
          have hsz := (meld_all (key := id) l k).length_eq
          have hsi := fun Y n' q' W hM hH => sins_any Y m n' (meld id l k) (.agg #[.pointer q']) y W hM hH (by have := HNL.out; simp only [Tr.sizeL] at *; simp at hsz; omega)
          have hrm := fun Y n' q' W hM hH => rmade_any Y m n' x (Slag.insert id (meld id l k) y) q' W hM hH
          unfold elV at hsi hrm
          have HSM := Lib.hid hsm
          have HSI := Lib.hid hsi
          have HRM := Lib.hid hrm
          clear hsm hsi hrm hsz
          have hS0 := HS.out w3 (grown_refl _ _)
          go_region_held3 (fun W => W.cell? ⟨w.heap.size, 0, none⟩ = some (.pointer (some ⟨b1, 0, none⟩)) ∧ W.cell? ⟨w.heap.size + 1, 0, none⟩ = some (.pointer (some ⟨b2, 0, none⟩)) ∧ W.cell? ⟨w.heap.size + 1 + 1 + 1, 0, none⟩ = some (.int .i64 x.1) ∧ W.cell? ⟨w.heap.size + 1 + 1 + 1, 1, none⟩ = some (.int .i64 x.2) ∧ W.cell? ⟨w.heap.size + 1 + 1 + 1 + 1, 0, none⟩ = some (.int .i64 y.1) ∧ W.cell? ⟨w.heap.size + 1 + 1 + 1 + 1, 1, none⟩ = some (.int .i64 y.2) ∧ W.cell? ⟨b1, 0, none⟩ = some (.pointer q1) ∧ W.cell? ⟨b2, 0, none⟩ = some (.pointer q2))
            (first | exact HS.out _ hh6 | exact HS.out _ hh5 | exact HS.out _ hh4 | exact HS.out _ (grown_drew (grown_refl _ _)) | exact HS.out _ (grown_refl _ _) | exact HSW.out _ _ hh6)
            (first
              | (go_at_call 38; refine (HSM.out _ _ S6.out.drew.Mt S6.out.drew.d1 S6.out.drew.d2).mono ?_; rintro e w4 ⟨v4, rfl, hg4, hm4, hs4⟩; obtain ⟨q4, vs4, rfl, -, -⟩ := id hs4; have hh4 := grown_trans (grown_drew (grown_refl w3 m)) hg4)
              | (go_at_call 35; refine (HSI.out _ _ q4 _ hm4 hs4).mono ?_; rintro e w5 ⟨v5, rfl, hg5, hm5, hs5⟩; obtain ⟨q5, vs5, rfl, -, -⟩ := id hs5; have hh5 := grown_trans hh4 hg5)
              | (go_at_call 33; refine (HRM.out _ _ q5 _ hm5 hs5).mono ?_; rintro e w6 ⟨q6, rfl, hg6, hm6, hr6⟩; have hh6 := grown_trans hh5 hg6; obtain ⟨p7, p8⟩ := HRES.out _ hh6))
          have S7 := Lib.hid (((((S6.out.drew.mcall hg4 hm4.at_).mcall hg5 hm5.at_).mcall hg6 hm6.at_).add (dRt (some (x, Slag.insert id (meld id l k) y)) q6) hr6).set (A := [_, _]) 0 (.pointer q6))
          have hr := cell_of (S7.out.box (A := [_, _])) 0 (v := .pointer q6) rfl
          go_wp2
          refine bodyPost_ret (v := .agg #[.pointer q6]) (by simp [results, Tryd.results26, go_sem, hr]) rfl ?_
          have e1 : n + 1 + ((meldN id l k : Nat) : Int) + ((insertN (meld id l k) : Nat) : Int) + 1 = n + ((RH.meldN (some (x, l)) (some (y, k)) : Nat) : Int) := by simp [RH.meldN]; omega
          rw [e1] at S7
          refine ⟨_, rfl, S7.out.fin.1, S7.out.fin.2, ?_⟩
          rw [HR.out, if_neg (by simp)]
          exact S7.out.dout
      · have S3 := Lib.hid ((S2.out.alloc #[.int .i64 y.1, .int .i64 y.2] 24).alloc #[.int .i64 x.1, .int .i64 x.2] 24 |>.drew)
        simp only [World.size_alloc] at S3
        clear hHeld hlt1 hlt2 n1 n2 n3 n4 r1 r2 r3 r4 d1 d2 S2 HD
        generalize (((((w.alloc (.cells #[.pointer (some ⟨b1, 0, none⟩)] 28)).alloc (.cells #[.pointer (some ⟨b2, 0, none⟩)] 28)).alloc (.cells #[.pointer none] 28)).alloc (.cells #[.int .i64 y.1, .int .i64 y.2] 24)).alloc (.cells #[.int .i64 x.1, .int .i64 x.2] 24)).drew = w1 at *
        have c1 := cell_of (S3.out.box (A := [])) 0 (v := .int .i64 x.1) rfl
        have c2 := cell_of (S3.out.box (A := [])) 1 (v := .int .i64 x.2) rfl
        have c3 := cell_of (S3.out.box (A := [_])) 0 (v := .int .i64 y.1) rfl
        have c4 := cell_of (S3.out.box (A := [_])) 1 (v := .int .i64 y.2) rfl
        have hml := fun W hM => mless_any m n y x W hM
        unfold elV at hml
        have HML := Lib.hid hml
        clear hml
        go_wp2_with fail
        refine (HML.out _ S3.out.mt).mono ?_
        rintro e w2 ⟨rfl, hg2, hm2⟩
        have S4 := Lib.hid (S3.out.mcall hg2 hm2)
        have c1 := cell_of (S4.out.box (A := [])) 0 (v := .int .i64 x.1) rfl
        have c2 := cell_of (S4.out.box (A := [])) 1 (v := .int .i64 x.2) rfl
        have c3 := cell_of (S4.out.box (A := [_])) 0 (v := .int .i64 y.1) rfl
        have c4 := cell_of (S4.out.box (A := [_])) 1 (v := .int .i64 y.2) rfl
        have f1 := frozen_of (S4.out.box (A := [])) 0
        have f2 := frozen_of (S4.out.box (A := [])) 1
        have f3 := frozen_of (S4.out.box (A := [_])) 0
        have f4 := frozen_of (S4.out.box (A := [_])) 1
        clear hg2 hm2
        generalize hls : less y x = ls at *
        have HLS := Lib.hid hls
        clear hls
        cases ls with
        | true =>
          go_wp2_with fail
          have S5 := Lib.hid ((((S4.out.set (A := []) 0 (.int .i64 y.1)).set (A := []) 1 (.int .i64 y.2)).set (A := [_]) 0 (.int .i64 x.1)).set (A := [_]) 1 (.int .i64 x.2))
          clear c1 c2 c3 c4 f1 f2 f3 f4
          generalize ((((w2.setCell ⟨w.heap.size + 1 + 1 + 1 + 1, 0, none⟩ (.int .i64 y.1)).setCell ⟨w.heap.size + 1 + 1 + 1 + 1, 1, none⟩ (.int .i64 y.2)).setCell ⟨w.heap.size + 1 + 1 + 1, 0, none⟩ (.int .i64 x.1)).setCell ⟨w.heap.size + 1 + 1 + 1, 1, none⟩ (.int .i64 x.2)) = w3 at *
          have S6 : Hid (SX X m (n + 1) w [.box (w.heap.size + 1 + 1 + 1 + 1) #[.int .i64 y.1, .int .i64 y.2] 24, .box (w.heap.size + 1 + 1 + 1) #[.int .i64 x.1, .int .i64 x.2] 24, .box (w.heap.size + 1 + 1) #[.pointer none] 28, .box (w.heap.size + 1) #[.pointer (some ⟨b2, 0, none⟩)] 28, .box w.heap.size #[.pointer (some ⟨b1, 0, none⟩)] 28] [dS l q1, dS k q2, dN b1 q1 x, dN b2 q2 y] w3) := S5
          have HS := Lib.hid (fun (W : World) (hg : w3.grownBy W m) => (⟨cell_of (S6.out.later (A := [_, _, _, _]) hg) 0 rfl, cell_of (S6.out.later (A := [_, _, _]) hg) 0 rfl, cell_of (S6.out.later (A := []) hg) 0 rfl, cell_of (S6.out.later (A := []) hg) 1 rfl, cell_of (S6.out.later (A := [_]) hg) 0 rfl, cell_of (S6.out.later (A := [_]) hg) 1 rfl, cell_of ((dN b1 q1 x).ext S6.out.d3 (S6.out.ext hg)).2 0 rfl, cell_of ((dN b2 q2 y).ext S6.out.d4 (S6.out.ext hg)).2 0 rfl⟩ : W.cell? ⟨w.heap.size, 0, none⟩ = some (.pointer (some ⟨b1, 0, none⟩)) ∧ W.cell? ⟨w.heap.size + 1, 0, none⟩ = some (.pointer (some ⟨b2, 0, none⟩)) ∧ W.cell? ⟨w.heap.size + 1 + 1 + 1 + 1, 0, none⟩ = some (.int .i64 y.1) ∧ W.cell? ⟨w.heap.size + 1 + 1 + 1 + 1, 1, none⟩ = some (.int .i64 y.2) ∧ W.cell? ⟨w.heap.size + 1 + 1 + 1, 0, none⟩ = some (.int .i64 x.1) ∧ W.cell? ⟨w.heap.size + 1 + 1 + 1, 1, none⟩ = some (.int .i64 x.2) ∧ W.cell? ⟨b1, 0, none⟩ = some (.pointer q1) ∧ W.cell? ⟨b2, 0, none⟩ = some (.pointer q2)))
          have HRES := Lib.hid (fun (W : World) (hg : w3.grownBy W m) => (⟨cell_of (S6.out.later (A := [_, _]) hg) 0 rfl, frozen_of (S6.out.later (A := [_, _]) hg) 0⟩ : W.cell? ⟨w.heap.size + 1 + 1, 0, none⟩ = some (.pointer none) ∧ W.frozen? ⟨w.heap.size + 1 + 1, 0, none⟩ = false))
          have HB1 := Lib.hid (show w.heap.size + 1 + 1 ≠ b1 from fun e => S6.out.d3.1 (.inr ⟨.box (w.heap.size + 1 + 1) #[.pointer none] 28, by simp, by rw [← e]; rfl⟩))
          have HB2 := Lib.hid (show w.heap.size + 1 + 1 ≠ b2 from fun e => S6.out.d4.1 (.inr ⟨.box (w.heap.size + 1 + 1) #[.pointer none] 28, by simp, by rw [← e]; rfl⟩))
          have HSW := Lib.hid (fun (W : World) (v : Value) (hg : w3.grownBy W m) => (by
            obtain ⟨g1, g2, g3, g4, g5, g6, g7, g8⟩ := HS.out W hg
            have hb1 := HB1.out
            have hb2 := HB2.out
            exact ⟨cell_set_ne v g1 (by simp; omega), cell_set_ne v g2 (by simp), cell_set_ne v g3 (by simp), cell_set_ne v g4 (by simp), cell_set_ne v g5 (by simp), cell_set_ne v g6 (by simp), cell_set_ne v g7 (by simpa using hb1), cell_set_ne v g8 (by simpa using hb2)⟩ : (W.setCell ⟨w.heap.size + 1 + 1, 0, none⟩ v).cell? ⟨w.heap.size, 0, none⟩ = some (.pointer (some ⟨b1, 0, none⟩)) ∧ (W.setCell ⟨w.heap.size + 1 + 1, 0, none⟩ v).cell? ⟨w.heap.size + 1, 0, none⟩ = some (.pointer (some ⟨b2, 0, none⟩)) ∧ (W.setCell ⟨w.heap.size + 1 + 1, 0, none⟩ v).cell? ⟨w.heap.size + 1 + 1 + 1 + 1, 0, none⟩ = some (.int .i64 y.1) ∧ (W.setCell ⟨w.heap.size + 1 + 1, 0, none⟩ v).cell? ⟨w.heap.size + 1 + 1 + 1 + 1, 1, none⟩ = some (.int .i64 y.2) ∧ (W.setCell ⟨w.heap.size + 1 + 1, 0, none⟩ v).cell? ⟨w.heap.size + 1 + 1 + 1, 0, none⟩ = some (.int .i64 x.1) ∧ (W.setCell ⟨w.heap.size + 1 + 1, 0, none⟩ v).cell? ⟨w.heap.size + 1 + 1 + 1, 1, none⟩ = some (.int .i64 x.2) ∧ (W.setCell ⟨w.heap.size + 1 + 1, 0, none⟩ v).cell? ⟨b1, 0, none⟩ = some (.pointer q1) ∧ (W.setCell ⟨w.heap.size + 1 + 1, 0, none⟩ v).cell? ⟨b2, 0, none⟩ = some (.pointer q2)))
          have hsm := fun Y W hM hH hK => smeld_any Y m (n + 1) l k (.agg #[.pointer q1]) (.agg #[.pointer q2]) W hM hH hK (by have := HNL.out; omega)
          have hsz := (meld_all (key := id) l k).length_eq
          have hsi := fun Y n' q' W hM hH => sins_any Y m n' (meld id l k) (.agg #[.pointer q']) x W hM hH (by have := HNL.out; simp only [Tr.sizeL] at *; simp at hsz; omega)
          have hrm := fun Y n' q' W hM hH => rmade_any Y m n' y (Slag.insert id (meld id l k) x) q' W hM hH
          unfold elV at hsi hrm
          have HSM := Lib.hid hsm
          have HSI := Lib.hid hsi
          have HRM := Lib.hid hrm
          clear hsm hsi hrm hsz
          have hS0 := HS.out w3 (grown_refl _ _)
          go_region_held3 (fun W => W.cell? ⟨w.heap.size, 0, none⟩ = some (.pointer (some ⟨b1, 0, none⟩)) ∧ W.cell? ⟨w.heap.size + 1, 0, none⟩ = some (.pointer (some ⟨b2, 0, none⟩)) ∧ W.cell? ⟨w.heap.size + 1 + 1 + 1 + 1, 0, none⟩ = some (.int .i64 y.1) ∧ W.cell? ⟨w.heap.size + 1 + 1 + 1 + 1, 1, none⟩ = some (.int .i64 y.2) ∧ W.cell? ⟨w.heap.size + 1 + 1 + 1, 0, none⟩ = some (.int .i64 x.1) ∧ W.cell? ⟨w.heap.size + 1 + 1 + 1, 1, none⟩ = some (.int .i64 x.2) ∧ W.cell? ⟨b1, 0, none⟩ = some (.pointer q1) ∧ W.cell? ⟨b2, 0, none⟩ = some (.pointer q2))
            (first | exact HS.out _ hh6 | exact HS.out _ hh5 | exact HS.out _ hh4 | exact HS.out _ (grown_drew (grown_refl _ _)) | exact HS.out _ (grown_refl _ _) | exact HSW.out _ _ hh6)
            (first
              | (go_at_call 38; refine (HSM.out _ _ S6.out.drew.Mt S6.out.drew.d1 S6.out.drew.d2).mono ?_; rintro e w4 ⟨v4, rfl, hg4, hm4, hs4⟩; obtain ⟨q4, vs4, rfl, -, -⟩ := id hs4; have hh4 := grown_trans (grown_drew (grown_refl w3 m)) hg4)
              | (go_at_call 35; refine (HSI.out _ _ q4 _ hm4 hs4).mono ?_; rintro e w5 ⟨v5, rfl, hg5, hm5, hs5⟩; obtain ⟨q5, vs5, rfl, -, -⟩ := id hs5; have hh5 := grown_trans hh4 hg5)
              | (go_at_call 33; refine (HRM.out _ _ q5 _ hm5 hs5).mono ?_; rintro e w6 ⟨q6, rfl, hg6, hm6, hr6⟩; have hh6 := grown_trans hh5 hg6; obtain ⟨p7, p8⟩ := HRES.out _ hh6))
          have S7 := Lib.hid (((((S6.out.drew.mcall hg4 hm4.at_).mcall hg5 hm5.at_).mcall hg6 hm6.at_).add (dRt (some (y, Slag.insert id (meld id l k) x)) q6) hr6).set (A := [_, _]) 0 (.pointer q6))
          have hr := cell_of (S7.out.box (A := [_, _])) 0 (v := .pointer q6) rfl
          go_wp2
          refine bodyPost_ret (v := .agg #[.pointer q6]) (by simp [results, Tryd.results26, go_sem, hr]) rfl ?_
          have e1 : n + 1 + ((meldN id l k : Nat) : Int) + ((insertN (meld id l k) : Nat) : Int) + 1 = n + ((RH.meldN (some (x, l)) (some (y, k)) : Nat) : Int) := by simp [RH.meldN]; omega
          rw [e1] at S7
          refine ⟨_, rfl, S7.out.fin.1, S7.out.fin.2, ?_⟩
          rw [HR.out, if_pos trivial]
          exact S7.out.dout
        | false =>
          go_wp2_with fail
          have S5 := S4
          clear c1 c2 c3 c4 f1 f2 f3 f4
          generalize w2 = w3 at *
          have S6 : Hid (SX X m (n + 1) w [.box (w.heap.size + 1 + 1 + 1 + 1) #[.int .i64 x.1, .int .i64 x.2] 24, .box (w.heap.size + 1 + 1 + 1) #[.int .i64 y.1, .int .i64 y.2] 24, .box (w.heap.size + 1 + 1) #[.pointer none] 28, .box (w.heap.size + 1) #[.pointer (some ⟨b2, 0, none⟩)] 28, .box w.heap.size #[.pointer (some ⟨b1, 0, none⟩)] 28] [dS l q1, dS k q2, dN b1 q1 x, dN b2 q2 y] w3) := S5
          have HS := Lib.hid (fun (W : World) (hg : w3.grownBy W m) => (⟨cell_of (S6.out.later (A := [_, _, _, _]) hg) 0 rfl, cell_of (S6.out.later (A := [_, _, _]) hg) 0 rfl, cell_of (S6.out.later (A := []) hg) 0 rfl, cell_of (S6.out.later (A := []) hg) 1 rfl, cell_of (S6.out.later (A := [_]) hg) 0 rfl, cell_of (S6.out.later (A := [_]) hg) 1 rfl, cell_of ((dN b1 q1 x).ext S6.out.d3 (S6.out.ext hg)).2 0 rfl, cell_of ((dN b2 q2 y).ext S6.out.d4 (S6.out.ext hg)).2 0 rfl⟩ : W.cell? ⟨w.heap.size, 0, none⟩ = some (.pointer (some ⟨b1, 0, none⟩)) ∧ W.cell? ⟨w.heap.size + 1, 0, none⟩ = some (.pointer (some ⟨b2, 0, none⟩)) ∧ W.cell? ⟨w.heap.size + 1 + 1 + 1 + 1, 0, none⟩ = some (.int .i64 x.1) ∧ W.cell? ⟨w.heap.size + 1 + 1 + 1 + 1, 1, none⟩ = some (.int .i64 x.2) ∧ W.cell? ⟨w.heap.size + 1 + 1 + 1, 0, none⟩ = some (.int .i64 y.1) ∧ W.cell? ⟨w.heap.size + 1 + 1 + 1, 1, none⟩ = some (.int .i64 y.2) ∧ W.cell? ⟨b1, 0, none⟩ = some (.pointer q1) ∧ W.cell? ⟨b2, 0, none⟩ = some (.pointer q2)))
          have HRES := Lib.hid (fun (W : World) (hg : w3.grownBy W m) => (⟨cell_of (S6.out.later (A := [_, _]) hg) 0 rfl, frozen_of (S6.out.later (A := [_, _]) hg) 0⟩ : W.cell? ⟨w.heap.size + 1 + 1, 0, none⟩ = some (.pointer none) ∧ W.frozen? ⟨w.heap.size + 1 + 1, 0, none⟩ = false))
          have HB1 := Lib.hid (show w.heap.size + 1 + 1 ≠ b1 from fun e => S6.out.d3.1 (.inr ⟨.box (w.heap.size + 1 + 1) #[.pointer none] 28, by simp, by rw [← e]; rfl⟩))
          have HB2 := Lib.hid (show w.heap.size + 1 + 1 ≠ b2 from fun e => S6.out.d4.1 (.inr ⟨.box (w.heap.size + 1 + 1) #[.pointer none] 28, by simp, by rw [← e]; rfl⟩))
          have HSW := Lib.hid (fun (W : World) (v : Value) (hg : w3.grownBy W m) => (by
            obtain ⟨g1, g2, g3, g4, g5, g6, g7, g8⟩ := HS.out W hg
            have hb1 := HB1.out
            have hb2 := HB2.out
            exact ⟨cell_set_ne v g1 (by simp; omega), cell_set_ne v g2 (by simp), cell_set_ne v g3 (by simp), cell_set_ne v g4 (by simp), cell_set_ne v g5 (by simp), cell_set_ne v g6 (by simp), cell_set_ne v g7 (by simpa using hb1), cell_set_ne v g8 (by simpa using hb2)⟩ : (W.setCell ⟨w.heap.size + 1 + 1, 0, none⟩ v).cell? ⟨w.heap.size, 0, none⟩ = some (.pointer (some ⟨b1, 0, none⟩)) ∧ (W.setCell ⟨w.heap.size + 1 + 1, 0, none⟩ v).cell? ⟨w.heap.size + 1, 0, none⟩ = some (.pointer (some ⟨b2, 0, none⟩)) ∧ (W.setCell ⟨w.heap.size + 1 + 1, 0, none⟩ v).cell? ⟨w.heap.size + 1 + 1 + 1 + 1, 0, none⟩ = some (.int .i64 x.1) ∧ (W.setCell ⟨w.heap.size + 1 + 1, 0, none⟩ v).cell? ⟨w.heap.size + 1 + 1 + 1 + 1, 1, none⟩ = some (.int .i64 x.2) ∧ (W.setCell ⟨w.heap.size + 1 + 1, 0, none⟩ v).cell? ⟨w.heap.size + 1 + 1 + 1, 0, none⟩ = some (.int .i64 y.1) ∧ (W.setCell ⟨w.heap.size + 1 + 1, 0, none⟩ v).cell? ⟨w.heap.size + 1 + 1 + 1, 1, none⟩ = some (.int .i64 y.2) ∧ (W.setCell ⟨w.heap.size + 1 + 1, 0, none⟩ v).cell? ⟨b1, 0, none⟩ = some (.pointer q1) ∧ (W.setCell ⟨w.heap.size + 1 + 1, 0, none⟩ v).cell? ⟨b2, 0, none⟩ = some (.pointer q2)))
          have hsm := fun Y W hM hH hK => smeld_any Y m (n + 1) l k (.agg #[.pointer q1]) (.agg #[.pointer q2]) W hM hH hK (by have := HNL.out; omega)
          have hsz := (meld_all (key := id) l k).length_eq
          have hsi := fun Y n' q' W hM hH => sins_any Y m n' (meld id l k) (.agg #[.pointer q']) y W hM hH (by have := HNL.out; simp only [Tr.sizeL] at *; simp at hsz; omega)
          have hrm := fun Y n' q' W hM hH => rmade_any Y m n' x (Slag.insert id (meld id l k) y) q' W hM hH
          unfold elV at hsi hrm
          have HSM := Lib.hid hsm
          have HSI := Lib.hid hsi
          have HRM := Lib.hid hrm
          clear hsm hsi hrm hsz
          have hS0 := HS.out w3 (grown_refl _ _)
          go_region_held3 (fun W => W.cell? ⟨w.heap.size, 0, none⟩ = some (.pointer (some ⟨b1, 0, none⟩)) ∧ W.cell? ⟨w.heap.size + 1, 0, none⟩ = some (.pointer (some ⟨b2, 0, none⟩)) ∧ W.cell? ⟨w.heap.size + 1 + 1 + 1 + 1, 0, none⟩ = some (.int .i64 x.1) ∧ W.cell? ⟨w.heap.size + 1 + 1 + 1 + 1, 1, none⟩ = some (.int .i64 x.2) ∧ W.cell? ⟨w.heap.size + 1 + 1 + 1, 0, none⟩ = some (.int .i64 y.1) ∧ W.cell? ⟨w.heap.size + 1 + 1 + 1, 1, none⟩ = some (.int .i64 y.2) ∧ W.cell? ⟨b1, 0, none⟩ = some (.pointer q1) ∧ W.cell? ⟨b2, 0, none⟩ = some (.pointer q2))
            (first | exact HS.out _ hh6 | exact HS.out _ hh5 | exact HS.out _ hh4 | exact HS.out _ (grown_drew (grown_refl _ _)) | exact HS.out _ (grown_refl _ _) | exact HSW.out _ _ hh6)
            (first
              | (go_at_call 38; refine (HSM.out _ _ S6.out.drew.Mt S6.out.drew.d1 S6.out.drew.d2).mono ?_; rintro e w4 ⟨v4, rfl, hg4, hm4, hs4⟩; obtain ⟨q4, vs4, rfl, -, -⟩ := id hs4; have hh4 := grown_trans (grown_drew (grown_refl w3 m)) hg4)
              | (go_at_call 35; refine (HSI.out _ _ q4 _ hm4 hs4).mono ?_; rintro e w5 ⟨v5, rfl, hg5, hm5, hs5⟩; obtain ⟨q5, vs5, rfl, -, -⟩ := id hs5; have hh5 := grown_trans hh4 hg5)
              | (go_at_call 33; refine (HRM.out _ _ q5 _ hm5 hs5).mono ?_; rintro e w6 ⟨q6, rfl, hg6, hm6, hr6⟩; have hh6 := grown_trans hh5 hg6; obtain ⟨p7, p8⟩ := HRES.out _ hh6))
          have S7 := Lib.hid (((((S6.out.drew.mcall hg4 hm4.at_).mcall hg5 hm5.at_).mcall hg6 hm6.at_).add (dRt (some (x, Slag.insert id (meld id l k) y)) q6) hr6).set (A := [_, _]) 0 (.pointer q6))
          have hr := cell_of (S7.out.box (A := [_, _])) 0 (v := .pointer q6) rfl
          go_wp2
          refine bodyPost_ret (v := .agg #[.pointer q6]) (by simp [results, Tryd.results26, go_sem, hr]) rfl ?_
          have e1 : n + 1 + ((meldN id l k : Nat) : Int) + ((insertN (meld id l k) : Nat) : Int) + 1 = n + ((RH.meldN (some (x, l)) (some (y, k)) : Nat) : Int) := by simp [RH.meldN]; omega
          rw [e1] at S7
          refine ⟨_, rfl, S7.out.fin.1, S7.out.fin.2, ?_⟩
          rw [HR.out, if_neg (by simp)]
          exact S7.out.dout
end Go.Proofs.YtgdnlolicjdfoaaDoor
