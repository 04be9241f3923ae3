import Derived.Test.YtgdnlolicjdfoaaDoorLD
import Derived.Test.YtgdnlolicjdfoaaDoorLAw
import Derived.IntWalk
/- Again: taken out, some of them, and put in again. -/
namespace Go.Proofs.YtgdnlolicjdfoaaDoor
open Go Go.Proofs Go.RowKit Slag

structure PuI (w : World) (a : List E) (va : Value) (n : Nat) (B k : Nat) (v : Value) (q : Option Addr) (wr : World) : Prop where
  st : St w [.row v 24 2 (pull (hof a) k).1.length (eCells (pull (hof a) k).1), .box B #[.pointer q] 28] [dH (pull (hof a) k).2 q, dR a va] wr
  le : k ≤ n
theorem pull_facts (a : List E) (k : Nat) (ha : a.length ≤ 40) : hok (pull (hof a) k).2 ∧ hcnt (pull (hof a) k).2 ≤ 40 ∧ (pull (hof a) k).1.length ≤ 40 := by
  obtain ⟨h1, h2, h3, h4⟩ := pull_law (hok_of a) k
  have := hcnt_of a
  exact ⟨h1, by omega, by omega⟩
set_option maxRecDepth 100000 in
set_option maxHeartbeats 4000000 in
theorem again_walk (a : List E) (n b : Nat) (v : Value) (w : World) (hv : RowAt (fun _ => False) 24 2 w a.length (eCells a) v) (hn : n < 256) (hb : b < 256) :
    Calls Tryd.prog 12 #[v, .int .u8 n, .int .u8 b] w fun e w' => e = .returned (.bool true) ∧ w.grownBy w' none := by
  obtain ⟨i0, hi, hz0, hz1, hz2⟩ := info_parts info_elem
  obtain ⟨-, p, cap, rfl, hcap, hmax, -⟩ := id hv
  have S0 := Lib.hid ((St.nil w).add (dR a _) (hv.weak fun b hb _ => by obtain ⟨s, h, _⟩ := hb; cases h))
  clear hv
  by_cases hlen : a.length ≤ 40
  · go_enter Tryd.func12, Tryd.ntmps12
    go_wp2_with fail
    refine (awake_any w).mono ?_
    rintro e w1 ⟨rfl, hg1⟩
    have S1 := Lib.hid (S0.out.call hg1)
    clear hg1 S0
    go_wp2_with fail
    refine (hof_any _ none 0 a (.slice p a.length cap) w1 (S1.out.mtn 0) S1.out.d1 (by omega)).mono ?_
    rintro e w2 ⟨q2, rfl, hg2, -, hh2⟩
    have HI0 : Hid (PuI w a (.slice p a.length cap) (n % 12) w2.heap.size 0 (.slice none 0 0) q2 (w2.alloc (.cells #[.pointer q2] 28))) := Lib.hid
      ⟨(((S1.out.call hg2).add (dH (hof a) q2) hh2).alloc #[.pointer q2] 28).rnil 24 2, Nat.zero_le _⟩
    have hK : n % 12 < 12 := Nat.mod_lt _ (by omega)
    clear hg2 hh2 S1
    go_wp2_with fail
    generalize w2.heap.size = B at *
    go_loopw [9, 10] (fun u9 i wr => ∃ (k : Nat) (q : Option Addr), i = .int .i64 k ∧ Hid (PuI w a (.slice p a.length cap) (n % 12) B k u9 q wr)) (fun _ i _ => n % 12 - (intOf i).toNat)
    case atStart => exact ⟨0, q2, rfl, HI0⟩
    case round =>
      obtain ⟨k, q, rfl, HI⟩ := hrel
      have hk := HI.out.le
      obtain ⟨ho, hsz, hpl⟩ := pull_facts a k hlen
      have HO := Lib.hid ho
      clear ho
      have HPS : Hid (pull (hof a) (k + 1) = pullStep (pull (hof a) k)) := Lib.hid rfl
      have HST := Lib.hid HI.out.st
      by_cases hlt : k < n % 12
      · have hkk : (k : Int) < (n : Int) % 12 := by omega
        have HPI : Hid (∀ (v' : Value) (q' : Option Addr) (w' : World), St w [.row v' 24 2 (pullStep (pull (hof a) k)).1.length (eCells (pullStep (pull (hof a) k)).1), .box B #[.pointer q'] 28] [dH (pullStep (pull (hof a) k)).2 q', dR a (.slice p a.length cap)] w' → PuI w a (.slice p a.length cap) (n % 12) B (k + 1) v' q' w') := Lib.hid fun v' q' w' h => ⟨by rw [HPS.out]; exact h, hlt⟩
        clear HI HPS
        generalize pull (hof a) k = P at *
        have c1 := cell_of (HST.out.box (A := [_])) 0 (v := .pointer q) rfl
        have hcz : hcnt P.2 ≤ 1099511627776 := by omega
        have HCZ := Lib.hid hcz
        have HEC := Lib.hid (hemp_cnt P.2)
        cases he : hemp P.2 with
        | false =>
          have hpos : (0 : Int) < (hcnt P.2 : Nat) := by have := HEC.out; rw [he] at this; have := of_decide_eq_false this.symm; omega
          have hposN : 0 < hcnt P.2 := by omega
          have hposN2 : ¬ hcnt P.2 = 0 := by omega
          have HE := Lib.hid he
          have HPP : Hid (pullStep P = (P.1 ++ [hmin P.2], hpop P.2)) := Lib.hid (by unfold pullStep; rw [he]; rfl)
          clear hcz
          go_wp2_with fail
          refine (hmin_any _ none 0 P.2 q wr (HST.out.mtn 0) HST.out.d1 HCZ.out).mono ?_
          rintro e w3 ⟨rfl, hg3, -⟩
          have S3 := Lib.hid ((HST.out.call hg3).alloc #[.int .i64 (hmin P.2).1, .int .i64 (hmin P.2).2] 24)
          have c2 := cell_of (S3.out.box (A := [_, _])) 0 (v := .pointer q) rfl
          unfold elV
          clear hg3 c1
          go_wp2_with fail
          refine (hpop_any _ none 0 P.2 q _ (S3.out.mtn 0) S3.out.d1 HCZ.out).mono ?_
          rintro e w4 ⟨q4, rfl, hg4, -, hh4⟩
          have S4 := Lib.hid (((S3.out.call hg4).add (dH (hpop P.2) q4) hh4).alloc #[.pointer q4] 28)
          have c3 := cell_of (S4.out.box (A := [_, _, _])) 0 (v := .pointer q) rfl
          clear hg4 hh4 c2
          go_wp2_with fail
          refine (hsize_any _ P.2 q _ S4.out.lt S4.out.d2 HCZ.out).mono ?_
          rintro e w5 ⟨rfl, hg5⟩
          have S5 := Lib.hid (S4.out.call hg5)
          have d1 := cell_of (S5.out.box (A := [_])) 0 (v := .int .i64 (hmin P.2).1) rfl
          have d2 := cell_of (S5.out.box (A := [_])) 1 (v := .int .i64 (hmin P.2).2) rfl
          clear hg5 c3
          go_wp2_with (at_builtin; refine wpList_append_own_at _ rfl _ _ 22 rfl w.heap.size 24 i0 (.agg #[.int .i64 0, .int .i64 0]) 2 16 Tryd.underlying22 hi hz0 hz1 hz2 rfl (by decide) _ P.1.length (eCells P.1) rfl ((S5.out.rowAt (A := [_, _])).alloc _) ⟨w5.heap.size, 0, none⟩ 1 1 [.int .i64 (hmin P.2).1, .int .i64 (hmin P.2).2] rfl rfl (cell_two_new _ _ _ _) (by simp [Value.oneCell']) ?c0 ?c1 ?c2 ?_)
          case c0 => unfold maxLen; omega
          case c1 => omega
          case c2 => have := S5.out.gr.size; simp; omega
          intro v1 w6 hown6 hg6 _ hat
          have S6 := Lib.hid (((S5.out.alloc #[.int .i64 (hmin P.2).1, .int .i64 (hmin P.2).2] 24).append (A := [_, _, _]) hg6 hown6 (by simpa using hat)))
          have d3 := cell_of (S6.out.box (A := [_])) 0 (v := .pointer q4) rfl
          have d4 := cell_of (S6.out.box (A := [_, _, _, _])) 0 (v := .pointer q) rfl
          have d5 := frozen_of (S6.out.box (A := [_, _, _, _])) 0
          have S7 := Lib.hid (((St.tl (St.tl (St.tl (S6.out.set (A := [_, _, _, _]) 0 (.pointer q4))))).dsub (D' := [dH (hpop P.2) q4, dR a (.slice p a.length cap)]) (by simp)))
          have HN := Lib.hid (HPI.out v1 q4 _ (by rw [HPP.out, List.length_append, eCells_append]; exact S7.out))
          clear hown6 hg6 hat d1 d2
          go_wp2
          go_roundw
          case rel => exact ⟨k + 1, q4, by go_num, HN⟩
          case measure => simp [intOf]; omega
        | true =>
          have hpos : ¬ (0 : Int) < (hcnt P.2 : Nat) := by have := HEC.out; rw [he] at this; have := of_decide_eq_true this.symm; omega
          have hpos0 : hcnt P.2 = 0 := by omega
          have HE := Lib.hid he
          have HPP : Hid (pullStep P = P) := Lib.hid (by unfold pullStep; rw [he]; rfl)
          have HPO := Lib.hid (hpop_emp he)
          clear hcz
          go_wp2_with fail
          refine (hmin_any _ none 0 P.2 q wr (HST.out.mtn 0) HST.out.d1 HCZ.out).mono ?_
          rintro e w3 ⟨rfl, hg3, -⟩
          have S3 := Lib.hid ((HST.out.call hg3).alloc #[.int .i64 (hmin P.2).1, .int .i64 (hmin P.2).2] 24)
          have c2 := cell_of (S3.out.box (A := [_, _])) 0 (v := .pointer q) rfl
          unfold elV
          clear hg3 c1
          go_wp2_with fail
          refine (hpop_any _ none 0 P.2 q _ (S3.out.mtn 0) S3.out.d1 HCZ.out).mono ?_
          rintro e w4 ⟨q4, rfl, hg4, -, hh4⟩
          rw [HPO.out] at hh4
          have S4 := Lib.hid (((S3.out.call hg4).add (dH P.2 q4) hh4).alloc #[.pointer q4] 28)
          have c3 := cell_of (S4.out.box (A := [_, _, _])) 0 (v := .pointer q) rfl
          clear hg4 hh4 c2
          go_wp2_with fail
          refine (hsize_any _ P.2 q _ S4.out.lt S4.out.d2 HCZ.out).mono ?_
          rintro e w5 ⟨rfl, hg5⟩
          have S5 := Lib.hid (S4.out.call hg5)
          clear hg5 c3
          have d3 := cell_of (S5.out.box (A := [])) 0 (v := .pointer q4) rfl
          have d4 := cell_of (S5.out.box (A := [_, _, _])) 0 (v := .pointer q) rfl
          have d5 := frozen_of (S5.out.box (A := [_, _, _])) 0
          have S7 := Lib.hid (((St.tl (St.tl (S5.out.set (A := [_, _, _]) 0 (.pointer q4)))).dsub (D' := [dH P.2 q4, dR a (.slice p a.length cap)]) (by simp)))
          have HN := Lib.hid (HPI.out u9 q4 _ (by rw [HPP.out]; exact S7.out))
          go_wp2
          go_roundw
          case rel => exact ⟨k + 1, q4, by go_num, HN⟩
          case measure => simp [intOf]; omega
      · have hkk : ¬ (k : Int) < (n : Int) % 12 := by omega
        obtain ⟨h1, h2, h3, h4⟩ := pull_law (hok_of a) k
        have HSRT := Lib.hid h2
        have HLN : Hid (hcnt (pull (hof a) k).2 + (pull (hof a) k).1.length = a.length) := Lib.hid (by rw [h3, hcnt_of])
        have HCA := Lib.hid (srt_congr (hels_of a))
        clear HI HPS h1 h2 h3 h4 hk
        generalize pull (hof a) k = P at *
        obtain ⟨l, H⟩ := P
        have S2 := Lib.hid (HST.out.alloc #[.pointer none] 28)
        have c1 := cell_of (S2.out.box (A := [_, _])) 0 (v := .pointer q) rfl
        obtain ⟨-, p9, cap9, rfl, -⟩ := id (HST.out.ownRow (A := []))
        have S3 : Hid (St w [.box (wr.heap.size + 1) #[.pointer q] 28, .box wr.heap.size #[.pointer none] 28, .row (.slice p9 l.length cap9) 24 2 l.length (eCells l), .box B #[.pointer q] 28] [dH ((backN l 0).foldl hins H) q, dH ((rotN l b 0).foldl hins hnil) none, dH H q, dR a (.slice p a.length cap)] ((wr.alloc (.cells #[.pointer none] 28)).alloc (.cells #[.pointer q] 28))) := Lib.hid (by
          have h1 := S2.out.alloc #[.pointer q] 28
          rw [World.size_alloc] at h1
          have h2 := h1.hnil
          exact (h2.add (dH H q) h1.d1))
        have HLL : Hid (l.length ≤ 40) := Lib.hid hpl
        have HHC : Hid (hcnt H ≤ 40) := Lib.hid hsz
        clear hpl hsz
        go_wp2_with fail
        generalize wr.heap.size = C at *
        go_loopw [17] (fun i wr => ∃ (k : Nat) (qo qb : Option Addr), k ≤ l.length ∧ i = .int .i64 k ∧ Hid (St w [.box (C + 1) #[.pointer qb] 28, .box C #[.pointer qo] 28, .row (.slice p9 l.length cap9) 24 2 l.length (eCells l), .box B #[.pointer q] 28] [dH ((backN l k).foldl hins H) qb, dH ((rotN l b k).foldl hins hnil) qo, dH H q, dR a (.slice p a.length cap)] wr)) (fun i _ => l.length - (intOf i).toNat)
        case atStart => exact ⟨0, none, q, Nat.zero_le _, rfl, S3⟩
        case round =>
          obtain ⟨k2, qo, qb, hk2, rfl, HS⟩ := hrel
          by_cases hlt2 : k2 < l.length
          · have hlti : (k2 : Int) < (l.length : Nat) := by omega
            have hmod : (k2 + b) % l.length < l.length := Nat.mod_lt _ (by omega)
            have hx : l[(k2 + b) % l.length]? = some (l.getD ((k2 + b) % l.length) (0, 0)) := by simp [hmod]
            have hlen9 := HLL.out
            obtain ⟨e1, e2⟩ := eCells_get hx
            have hrow := HS.out.ownRow (A := [_, _])
            obtain ⟨g9, off9, rfl, d1⟩ := hrow.cell e1
            obtain ⟨g9', off9', e, d2⟩ := hrow.cell e2
            cases e
            generalize hix : (k2 + b) % l.length = ix at *
            have HIX := Lib.hid hix
            generalize hxx : l.getD ix (0, 0) = x at *
            have HXX := Lib.hid hxx
            rw [show off9 + 2 * ix = off9 + ix * 2 from by omega] at d1
            rw [show off9 + (2 * ix + 1) = off9 + ix * 2 + 1 from by omega] at d2
            have hixI : ((k2 : Int) + (b : Int)) % (l.length : Int) = (ix : Int) := by rw [← hix]; push_cast; rfl
            have c1 := cell_of (HS.out.box (A := [_])) 0 (v := .pointer qo) rfl
            have htm : ((k2 : Int) + (b : Int)).tmod (l.length : Int) = (ix : Int) := by rw [Int.tmod_eq_emod_of_nonneg (by omega)]; exact hixI
            have hl0 : ¬ (l.length : Int) = 0 := by omega
            have hl1 : ¬ l.length = 0 := by omega
            have hwb : IntKind.i64.wrap (b : Int) = (b : Int) := IntWalk.i64_in _ (by omega)
            have hw1 : IntKind.i64.wrap ((k2 : Int) + (b : Int)) = (k2 : Int) + (b : Int) := IntWalk.i64_in _ (by omega)
            have hw2 : IntKind.i64.wrap (ix : Int) = (ix : Int) := IntWalk.i64_in _ (by omega)
            clear hx e1 e2 hrow hix hxx
            go_wp2_with fail
            refine wp_region_still_tail 11 (by kernel_rfl) (by kernel_rfl) ?_
            simp only [List.take_succ_cons, List.take_zero, List.drop_succ_cons, List.drop_zero]
            change wpStill _ _ wr.drew _ _ _
            repeat still_step
            refine wpStill_nil ?_
            change wpList _ _ _ _ _ wr.drew
            have HSD := Lib.hid HS.out.drew
            have HCO : Hid (hcnt ((rotN l b k2).foldl hins hnil) ≤ 40) := Lib.hid (by
              have := ((hins_all (rotN l b k2) hok_nil).2).length_eq
              simp only [hels_nil, List.nil_append, rotN, List.length_map, List.length_range] at this
              simp only [hcnt, rotN]; omega)
            have HCB : Hid (hcnt ((backN l k2).foldl hins H) ≤ 80) := Lib.hid (by
              have := ((hins_all (backN l k2) HO.out).2).length_eq
              have h2 := HHC.out
              simp only [List.length_append, backN, List.length_map, List.length_range] at this
              simp only [hcnt, backN] at h2 ⊢; omega)
            have HRS := Lib.hid (rotN_succ l b k2)
            have HBS := Lib.hid (backN_succ l k2)
            rw [HIX.out, HXX.out] at HRS
            clear hixI htm hl0 hl1 hw1 hw2 hwb c1
            have hins1 := fun X w hm hh => hins_any X none 0 ((rotN l b k2).foldl hins hnil) qo x w hm hh (by have := HCO.out; omega)
            unfold elV at hins1
            have HINS1 := Lib.hid hins1
            clear hins1
            go_wp2_with fail
            refine (HINS1.out _ _ (HSD.out.mtn 0) HSD.out.d2).mono ?_
            rintro e w7 ⟨qo2, rfl, hg7, -, hh7⟩
            have S7 := Lib.hid ((HSD.out.call hg7).add (dH (hins ((rotN l b k2).foldl hins hnil) x) qo2) hh7)
            have S8 := Lib.hid (S7.out.set (A := [_]) 0 (.pointer qo2))
            have f1 := cell_of (S7.out.box (A := [_])) 0 (v := .pointer qo) rfl
            have f2 := frozen_of (S7.out.box (A := [_])) 0
            have f3 := cell_of (S8.out.box (A := [])) 0 (v := .pointer qb) rfl
            clear hg7 hh7
            go_wp2_with fail
            have hx2 : l[l.length - 1 - k2]? = some (l.getD (l.length - 1 - k2) (0, 0)) := by
              have : l.length - 1 - k2 < l.length := by omega
              simp [this]
            obtain ⟨e1, e2⟩ := eCells_get hx2
            have hrow := S8.out.ownRow (A := [_, _])
            obtain ⟨g9', off9', e, h1⟩ := hrow.cell e1
            cases e
            obtain ⟨g9', off9', e, h2⟩ := hrow.cell e2
            cases e
            generalize hix : l.length - 1 - k2 = ix2 at *
            generalize hyy : l.getD ix2 (0, 0) = y at *
            rw [show off9 + 2 * ix2 = off9 + ix2 * 2 from by omega] at h1
            rw [show off9 + (2 * ix2 + 1) = off9 + ix2 * 2 + 1 from by omega] at h2
            have hw1 : IntKind.i64.wrap ((l.length : Int) - 1) = (l.length : Int) - 1 := IntWalk.i64_in _ (by omega)
            have hw2 : IntKind.i64.wrap ((l.length : Int) - 1 - (k2 : Int)) = (ix2 : Int) := by rw [IntWalk.i64_in _ (by omega)]; omega
            have hltx : ix2 < l.length := by omega
            have hins2 := fun X w hm hh => hins_any X none 0 ((backN l k2).foldl hins H) qb y w hm hh (by have := HCB.out; omega)
            unfold elV at hins2
            have HINS2 := Lib.hid hins2
            clear hx2 e1 e2 hrow hix hyy hins2 f1 f2
            refine wp_region_still_tail 9 (by kernel_rfl) (by kernel_rfl) ?_
            simp only [List.take_succ_cons, List.take_zero, List.drop_succ_cons, List.drop_zero]
            generalize w7.setCell ⟨C, 0, none⟩ (.pointer qo2) = w8 at *
            change wpStill _ _ w8.drew _ _ _
            repeat still_step
            refine wpStill_nil ?_
            change wpList _ _ _ _ _ w8.drew
            clear hw1 hw2
            have SD := Lib.hid S8.out.drew
            go_wp2_with fail
            refine (HINS2.out _ _ (SD.out.mtn 0) SD.out.d2).mono ?_
            rintro e w9 ⟨qb2, rfl, hg9, -, hh9⟩
            have S9 := Lib.hid ((SD.out.call hg9).add (dH (hins ((backN l k2).foldl hins H) y) qb2) hh9)
            have S10 := Lib.hid (S9.out.set (A := []) 0 (.pointer qb2))
            have f1 := cell_of (S9.out.box (A := [])) 0 (v := .pointer qb) rfl
            have f2 := frozen_of (S9.out.box (A := [])) 0
            have HN : Hid (St w [.box (C + 1) #[.pointer qb2] 28, .box C #[.pointer qo2] 28, .row (.slice (some ⟨g9, off9, none⟩) l.length cap9) 24 2 l.length (eCells l), .box B #[.pointer q] 28] [dH ((backN l (k2 + 1)).foldl hins H) qb2, dH ((rotN l b (k2 + 1)).foldl hins hnil) qo2, dH H q, dR a (.slice p a.length cap)] (w9.setCell ⟨C + 1, 0, none⟩ (.pointer qb2))) := Lib.hid (by
              rw [HBS.out, HRS.out, List.foldl_append, List.foldl_append]
              exact S10.out.dsub (by simp))
            clear hg9 hh9 h1 h2
            go_wp2
            go_roundw
            case rel => exact ⟨k2 + 1, qo2, qb2, by omega, by go_num, HN⟩
            case measure => simp [intOf]; omega
          · obtain rfl : k2 = l.length := by omega
            have hlen9 := HLL.out
            have HO1 : Hid (hok ((rotN l b l.length).foldl hins hnil) ∧ (hels ((rotN l b l.length).foldl hins hnil)).Perm l) := Lib.hid (by
              obtain ⟨h1, h2⟩ := hins_all (rotN l b l.length) hok_nil
              rw [hels_nil, List.nil_append] at h2
              exact ⟨h1, h2.trans (rotN_perm l b)⟩)
            have HO2 : Hid (hok ((backN l l.length).foldl hins H) ∧ (hels ((backN l l.length).foldl hins H)).Perm (hels H ++ l)) := Lib.hid (by
              obtain ⟨h1, h2⟩ := hins_all (backN l l.length) HO.out
              exact ⟨h1, h2.trans ((backN_perm l).append_left _)⟩)
            have HW : Hid (srt a = l ++ srt (hels H)) := Lib.hid (by rw [← HCA.out]; exact HSRT.out.symm)
            generalize (rotN l b l.length).foldl hins hnil = O at *
            generalize (backN l l.length).foldl hins H = K at *
            have HLA := Lib.hid hlen
            go_wp2_with fail
            refine (rsort_any _ a _ wr HS.out.d4 (by omega)).mono ?_
            rintro e w7 ⟨v7, rfl, hg7, hn7⟩
            have S7 := Lib.hid ((HS.out.call hg7).add (dR (srt a) v7) (HS.out.newRow hn7))
            clear hg7 hn7
            have hsl : (srt a).length = hcnt H + l.length := by have h1 : hcnt H + l.length = a.length := HLN.out; have := srt_length a; omega
            have HSL := Lib.hid hsl
            have hle : l.length ≤ (srt a).length := by omega
            obtain ⟨-, p7, cap7, rfl, hc7, -⟩ := id (show RowAt _ 24 2 w7 (srt a).length (eCells (srt a)) v7 from S7.out.d1)
            have htk := run_take (P := Tryd.prog) 22 24 i0 Tryd.underlying22 hi hz1 p7 (srt a).length cap7 l.length hle hc7 w7
            have HRT := Lib.hid (RowAt.take2 (show RowAt _ 24 2 w7 (srt a).length (eCells (srt a)) (.slice p7 (srt a).length cap7) from S7.out.d1) hle)
            have HTT : Hid ((srt a).take l.length = l) := Lib.hid (by rw [HW.out]; simp)
            rw [HTT.out] at HRT
            clear hsl hle
            go_wp2_with fail
            refine (rsame_any _ _ l l _ _ w7 HRT.out (S7.out.ownRow (A := [_, _]))).mono ?_
            rintro e w8 ⟨rfl, hg8⟩
            rw [show decide (l = l) = true from by simp]
            have S8 := Lib.hid (S7.out.call hg8)
            have f1 := cell_of (S8.out.box (A := [_])) 0 (v := .pointer qo) rfl
            have f2 := cell_of (S8.out.box (A := [_, _, _])) 0 (v := .pointer q) rfl
            clear hg8 htk
            have HSLA : Hid ((srt a).length ≤ 40) := Lib.hid (by rw [srt_length]; exact hlen)
            have HOC : Hid (hcnt O ≤ 40) := Lib.hid (by have := HO1.out.2.length_eq; simp only [hcnt]; omega)
            have HHC2 : Hid (hcnt H ≤ 40) := HHC
            have HML : Hid (hdrain 200 (hmeld O H) = srt a) := Lib.hid (by
              have h3 := hcnt_meld O H
              have h4 := HOC.out
              have h5 := HHC2.out
              rw [hdrain_law (hok_meld HO1.out.1 HO.out) 200 (by omega), srt_congr (hels_meld O H), srt_congr (HO1.out.2.append_right (hels H))]
              exact srt_congr (((srt_perm (hels H)).symm.append_left l).trans (by rw [← HW.out]; exact srt_perm a)))
            have HKC : Hid (hcnt K ≤ 40) := Lib.hid (by have := HO2.out.2.length_eq; have h1 : hcnt H + l.length = a.length := HLN.out; simp only [hcnt, List.length_append] at *; omega)
            have HMK : Hid (hdrain 200 K = srt a) := Lib.hid (by
              have h4 := HKC.out
              rw [hdrain_law HO2.out.1 200 (by omega), srt_congr HO2.out.2]
              exact srt_congr (List.perm_append_comm.trans (((srt_perm (hels H)).symm.append_left l).trans (by rw [← HW.out]; exact srt_perm a))))
            go_wp2_with fail
            refine (hmeld_any _ none 0 O H qo q w8 (S8.out.mtn 0) S8.out.d3 S8.out.d4 (by have := HOC.out; have := HHC2.out; omega)).mono ?_
            rintro e w9 ⟨q9, rfl, hg9, -, hh9⟩
            have S9 := Lib.hid ((S8.out.call hg9).add (dH (hmeld O H) q9) hh9)
            clear hg9 hh9 f1 f2
            go_wp2_with fail
            refine (hdrain_any (hmeld O H) q9 200 w9 (HAt.weak S9.out.d1 (fun _ h _ => h.elim)) (hok_meld HO1.out.1 HO.out) (by have := hcnt_meld O H; have := HOC.out; have := HHC2.out; omega) (by omega)).mono ?_
            rintro e w10 ⟨v10, rfl, hg10, hn10⟩
            rw [HML.out] at hn10
            have S10 := Lib.hid ((S9.out.call hg10).add (dR (srt a) v10) (S9.out.newRow hn10))
            clear hg10 hn10
            go_wp2_with fail
            refine (rsame_any _ _ (srt a) (srt a) _ _ w10 S10.out.d1 S10.out.d3).mono ?_
            rintro e w11 ⟨rfl, hg11⟩
            rw [show decide (srt a = srt a) = true from by simp]
            have S11 := Lib.hid (S10.out.call hg11)
            have f3 := cell_of (S11.out.box (A := [])) 0 (v := .pointer qb) rfl
            clear hg11
            go_wp2_with fail
            refine (hdrain_any K qb 200 w11 (HAt.weak S11.out.d4 (fun _ h _ => h.elim)) HO2.out.1 (by have := HKC.out; omega) (by omega)).mono ?_
            rintro e w12 ⟨v12, rfl, hg12, hn12⟩
            rw [HMK.out] at hn12
            have S12 := Lib.hid ((S11.out.call hg12).add (dR (srt a) v12) (S11.out.newRow hn12))
            clear hg12 hn12 f3
            go_wp2_with fail
            refine (rsame_any _ _ (srt a) (srt a) _ _ w12 S12.out.d1 S12.out.d4).mono ?_
            rintro e w13 ⟨rfl, hg13⟩
            rw [show decide (srt a = srt a) = true from by simp]
            have S13 := Lib.hid (S12.out.call hg13)
            clear hg13
            go_wp2_with fail
            go_ret
            exact ⟨rfl, S13.out.gr⟩
  · have hlt : (40 : Int) < a.length := by omega
    go_enter Tryd.func12, Tryd.ntmps12
    go_wp2_with fail
    refine (awake_any w).mono ?_
    rintro e w1 ⟨rfl, hg1⟩
    have HG1 := Lib.hid hg1
    clear hg1
    go_wp2
    go_ret
    exact ⟨rfl, HG1.out⟩
end Go.Proofs.YtgdnlolicjdfoaaDoor
