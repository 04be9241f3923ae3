import Derived.Test.YtgdnlolicjdfoaaDoorW19
/- Heap: Min, Of, Size. -/
namespace Go.Proofs.YtgdnlolicjdfoaaDoor
open Go Go.Proofs Go.RowKit Slag

def minE (h : List (Tr E)) : E := (minT id h).getD (0, 0)
theorem smin_end {X : Nat → Prop} {m : Option Nat} {n k : Int} {w W0 w5 : World} {S : Nat} (hS : w.heap.size = S) (hm : Mt X w m n) (hg0 : w.grownBy W0 none) (hh5 : W0.grownBy w5 m) (hm5 : MeterAt w5 m k)
    {a b : Int} (hb : w5.heap[S + 1]? = some (.cells #[.int .i64 a, .int .i64 b] 24 (0, 0))) (x y : Int) :
    w.grownBy ((w5.setCell ⟨S + 1, 0, none⟩ (.int .i64 x)).setCell ⟨S + 1, 1, none⟩ (.int .i64 y)) m ∧ Mt X ((w5.setCell ⟨S + 1, 0, none⟩ (.int .i64 x)).setCell ⟨S + 1, 1, none⟩ (.int .i64 y)) m k ∧
      ((w5.setCell ⟨S + 1, 0, none⟩ (.int .i64 x)).setCell ⟨S + 1, 1, none⟩ (.int .i64 y)).cell? ⟨S + 1, 0, none⟩ = some (.int .i64 x) ∧
      ((w5.setCell ⟨S + 1, 0, none⟩ (.int .i64 x)).setCell ⟨S + 1, 1, none⟩ (.int .i64 y)).cell? ⟨S + 1, 1, none⟩ = some (.int .i64 y) := by
  have hg := grown_set (grown_set (grown_trans (grown_of_none m hg0) hh5) (p := ⟨S + 1, 0, none⟩) (by simp; omega) (.int .i64 x)) (p := ⟨S + 1, 1, none⟩) (by simp; omega) (.int .i64 y)
  have hne : ∀ b, m = some b → S + 1 ≠ b := fun b e h => hm.ne (b := S + 1) (by omega) (by rw [e, ← h])
  have h2 := heap_set_same (heap_set_same hb 0 (.int .i64 x)) 1 (.int .i64 y)
  exact ⟨hg, hm.to hg.size ((hm5.set hne _).set hne _), cell_of h2 0 rfl, cell_of h2 1 rfl⟩
set_option maxRecDepth 100000 in
set_option maxHeartbeats 2000000 in
theorem smin_any (X : Nat → Prop) (m : Option Nat) (n : Int) (h : List (Tr E)) (v : Value) (w : World) (hm : Mt X w m n) (hh : HeapAt X w h v) (hn : Tr.sizeL h ≤ 1099511627776) :
    Calls Tryd.prog 31 #[v, mval m] w fun e w' => e = .returned (.tuple #[elV (minE h), .bool (!h.isEmpty)]) ∧ w.grownBy w' m ∧ Mt X w' m (n + ((h.length - 1 : Nat) : Int)) := by
  obtain ⟨p, vs, rfl, hc, ht⟩ := hh
  have hl := ht.length
  have hb := Tr.length_le_sizeL h
  obtain ⟨S, hS⟩ : ∃ S, w.heap.size = S := ⟨_, rfl⟩
  have hg0 : w.grownBy ((w.alloc (.cells #[.pointer p] 64)).alloc (.cells #[.int .i64 0, .int .i64 0] 24)) none := grown_alloc (grown_alloc (grown_refl w none) _) _
  have b3 := heap_alloc_new (w.alloc (.cells #[.pointer p] 64)) (.cells #[.int .i64 0, .int .i64 0] 24)
  simp only [World.size_alloc, hS] at b3
  have hM0 : Mt X ((w.alloc (.cells #[.pointer p] 64)).alloc (.cells #[.int .i64 0, .int .i64 0] 24)) m n := hm.to hg0.size ((hm.at_.alloc _).alloc _)
  have HN : Hid (m ≠ some (S + 1)) := Lib.hid (hm.ne (by omega))
  have HS := Lib.hid hS
  have HM := Lib.hid hm
  have HM0 := Lib.hid hM0
  have HC := Lib.hid (hc.ext (grown_ext hg0))
  have HT := Lib.hid (ht.ext (grown_ext hg0))
  have HL := Lib.hid hl
  have HG0 := Lib.hid hg0
  have HB3 := Lib.hid b3
  clear hm hc ht hl hM0 hg0 b3
  go_enter Tryd.func31, Tryd.ntmps31
  go_wp2_with fail
  generalize ((w.alloc (.cells #[.pointer p] 64)).alloc (.cells #[.int .i64 0, .int .i64 0] 24)) = W0 at *
  refine (lall_any X p vs W0 HC.out (by have := HL.out; omega)).mono ?_
  rintro e w1 ⟨u1, rfl, ho1, hg1⟩
  have HO1 : Hid (RowAt X 84 1 w1 h.length (vs.map pv) u1) := Lib.hid (by have := RowAt.of_owns ho1 (fun b hb => HM0.out.lt b hb); rw [HL.out] at this; exact this)
  have HG1 := Lib.hid hg1
  have HM1 := Lib.hid (HM0.out.to hg1.size (HM0.out.at_.grown hg1))
  have HT1 := Lib.hid (HT.out.ext (grown_ext hg1))
  have HBB := Lib.hid (box_none hg1 HB3.out)
  obtain ⟨-, p1, c1, rfl, -⟩ := id HO1.out
  clear ho1 hg1
  cases h with
  | nil =>
    have HBB1 := Lib.hid (heap_alloc_lt HBB.out (.cells #[.int .i64 0, .int .i64 0] 24))
    have q3 := cell_of HBB1.out 0 (v := .int .i64 0) rfl
    have q4 := cell_of HBB1.out 1 (v := .int .i64 0) rfl
    have f3 := frozen_of HBB1.out 0
    have f4 := frozen_of HBB1.out 1
    have HE := Lib.hid (smin_end HS.out HM.out HG0.out (grown_of_none m (grown_alloc HG1.out (.cells #[.int .i64 0, .int .i64 0] 24))) (HM1.out.at_.alloc (.cells #[.int .i64 0, .int .i64 0] 24)) HBB1.out 0 0)
    go_wp2
    refine bodyPost_ret (v := .tuple #[.agg #[.int .i64 0, .int .i64 0], .bool false]) (by simp [results, Tryd.results31, go_sem, HE.out.2.2.1, HE.out.2.2.2]) rfl ?_
    refine ⟨rfl, HE.out.1, ?_⟩
    have := HE.out.2.1
    simpa using this
  | cons t ts =>
    obtain ⟨t', ht'⟩ : ∃ t', (t :: ts)[least id (t :: ts)]? = some t' := ⟨_, List.getElem?_eq_getElem (least_lt (by simp))⟩
    have HC2 := Lib.hid (least_any X m n t ts vs _ w1 HM1.out HT1.out HO1.out (by omega))
    have hlt : least id (t :: ts) < (t :: ts).length := least_lt (by simp)
    simp only [List.length_cons] at *
    obtain ⟨b, off, tb, rfl, -, hcell, htb⟩ := row_get HO1.out HT1.out ht'
    have HCE := Lib.hid hcell
    have HTB := Lib.hid htb
    have HT' := Lib.hid ht'
    clear hcell htb ht'
    have hmin : minE (t :: ts) = t'.root := by simp [minE, minT, HT'.out]
    have HMIN := Lib.hid hmin
    clear hmin
    generalize hi : least id (t :: ts) = i at *
    go_wp2_with fail
    refine HC2.out.mono ?_
    rintro e w2 ⟨rfl, hg2, hM2⟩
    have c1 := HCE.out w2 (HM1.out.ext hg2)
    have HBB2 := Lib.hid (box_of hg2 HBB.out HN.out)
    have HG2 := Lib.hid hg2
    have HM2 := Lib.hid hM2
    clear hg2 hM2
    go_wp2_with fail
    refine (troot_any X t' tb w2 (HTB.out.ext (HM1.out.ext HG2.out))).mono ?_
    rintro e w3 ⟨rfl, hg3⟩
    have HBB3 := Lib.hid (box_none hg3 HBB2.out)
    have q3 := cell_of HBB3.out 0 (v := .int .i64 0) rfl
    have q4 := cell_of HBB3.out 1 (v := .int .i64 0) rfl
    have f3 := frozen_of HBB3.out 0
    have f4 := frozen_of HBB3.out 1
    have HE := Lib.hid (smin_end HS.out HM.out HG0.out (grown_trans (grown_of_none m HG1.out) (grown_trans HG2.out (grown_of_none m hg3))) (HM2.out.at_.grown hg3) HBB3.out t'.root.1 t'.root.2)
    unfold elV
    clear hg3
    go_wp2
    refine bodyPost_ret (v := .tuple #[.agg #[.int .i64 t'.root.1, .int .i64 t'.root.2], .bool true]) (by simp [results, Tryd.results31, go_sem, HE.out.2.2.1, HE.out.2.2.2]) rfl ?_
    refine ⟨?_, HE.out.1, HE.out.2.1⟩
    rw [HMIN.out]; rfl
set_option maxRecDepth 100000 in
set_option maxHeartbeats 2000000 in
theorem ssize_any (X : Nat → Prop) (h : List (Tr E)) (v : Value) (w : World) (hX : ∀ b, X b → b < w.heap.size) (hh : HeapAt X w h v) (hn : Tr.sizeL h ≤ 1099511627776) :
    Calls Tryd.prog 36 #[v] w fun e w' => e = .returned (.int .i64 (Tr.sizeL h)) ∧ w.grownBy w' none := by
  obtain ⟨p, vs, rfl, hc, ht⟩ := hh
  have hl := ht.length
  have hb := Tr.length_le_sizeL h
  have HX := Lib.hid hX
  have HC := Lib.hid (hc.ext (grown_ext (grown_alloc (grown_refl w none) (.cells #[.pointer p] 64))))
  have HT := Lib.hid (ht.ext (grown_ext (grown_alloc (grown_refl w none) (.cells #[.pointer p] 64))))
  have HL := Lib.hid hl
  clear hc ht hl hX
  go_enter Tryd.func36, Tryd.ntmps36
  go_wp2_with fail
  refine (lall_any X p vs _ HC.out (by have := HL.out; omega)).mono ?_
  rintro e w1 ⟨u1, rfl, ho1, hg1⟩
  have HO1 : Hid (RowAt X 84 1 w1 h.length (vs.map pv) u1) := Lib.hid (by have := RowAt.of_owns ho1 (fun b hb => by have := HX.out b hb; simp; omega); rw [HL.out] at this; exact this)
  have HG1 := Lib.hid (grown_trans (grown_alloc (grown_refl w none) (.cells #[.pointer p] 64)) hg1)
  have HT1 := Lib.hid (HT.out.ext (grown_ext hg1))
  obtain ⟨-, p1, c1, rfl, -⟩ := id HO1.out
  clear ho1 hg1
  have HL1 := Lib.hid HT1.out.length
  go_wp2_with fail
  go_loopw [3, 10] (fun s i wr => ∃ k : Nat, k ≤ h.length ∧ i = .int .i64 k ∧ s = .int .i64 (Tr.sizeL (h.take k) : Nat) ∧ wr = w1) (fun _ i _ => h.length - (intOf i).toNat)
  case atStart => exact ⟨0, by omega, rfl, by simp [Tr.sizeL_nil], rfl⟩
  case round =>
    obtain ⟨k, hk, rfl, rfl, rfl⟩ := hrel
    by_cases hlt : k < h.length
    · obtain ⟨t, ht⟩ : ∃ t, h[k]? = some t := ⟨h[k], by simp [hlt]⟩
      obtain ⟨b, off, tb, rfl, -, hcell, htb⟩ := row_get HO1.out HT1.out ht
      have c1 := hcell wr (Ext.refl _ _)
      have HTB := Lib.hid htb
      have hsum := sizeL_take_succ ht
      have hle := sizeL_take_le h (k + 1)
      have HSUM := Lib.hid hsum
      have hb1 : Tr.sizeL (h.take k) + t.size ≤ 1099511627776 := by omega
      generalize hs1 : Tr.sizeL (h.take k) = s1 at *
      generalize hs2 : t.size = s2 at *
      have HS2 := Lib.hid hs2
      clear hcell htb ht hsum hle hs1 hs2
      go_wp2_with fail
      refine (tsize_any X t tb wr HTB.out).mono ?_
      rintro e w' ⟨rfl, rfl⟩
      rw [HS2.out]
      go_wp2
      go_roundw
      case rel => exact ⟨k + 1, by omega, by go_num, by rw [HSUM.out]; go_num, trivial⟩
      case measure => simp [intOf]; omega
    · obtain rfl : k = h.length := by omega
      go_wp2
      go_ret
      rw [List.take_length]
      exact ⟨rfl, HG1.out⟩

theorem insAll_take {p : List (Tr E) × Nat} {l : List E} {k : Nat} {x : E} (h : l[k]? = some x) :
    insAll id p (l.take (k + 1)) = (Slag.insert id (insAll id p (l.take k)).1 x, (insAll id p (l.take k)).2 + insertN (insAll id p (l.take k)).1) := by
  have hk := (List.getElem?_eq_some_iff.1 h)
  rw [List.take_succ_eq_append_getElem hk.1, hk.2]
  simp [insAll, List.foldl_append]
theorem insAll_fst (l : List E) : ∀ p : List (Tr E) × Nat, (insAll id p l).1 = l.foldl SH.ins p.1 := by
  induction l with
  | nil => intro p; rfl
  | cons x l ih => intro p; exact ih _
theorem insAll_size (p : List (Tr E) × Nat) (l : List E) : Tr.sizeL (insAll id p l).1 = Tr.sizeL p.1 + l.length := by
  have := (insAll_all (key := id) l p).length_eq
  simpa [Tr.sizeL] using this
theorem eCells_get {l : List E} {k : Nat} {x : E} (h : l[k]? = some x) : (eCells l)[2 * k]? = some (.int .i64 x.1) ∧ (eCells l)[2 * k + 1]? = some (.int .i64 x.2) := by
  induction l generalizing k with
  | nil => simp at h
  | cons y l ih =>
    cases k with
    | zero => simp at h; subst h; simp [eCells]
    | succ k =>
      have := ih (k := k) (by simpa using h)
      simpa [eCells, show 2 * (k + 1) = 2 * k + 1 + 1 from by omega] using this
/-- Inside the loop that puts in one by one: the heap's box at B, boxes lo..hi own. -/
structure InsInv (X : Nat → Prop) (m : Option Nat) (n : Int) (p : List (Tr E) × Nat) (l : List E) (B lo hi : Nat) (w : World) (k : Nat) (wr : World) : Prop where
  gr : w.grownBy wr m
  box : ∃ q vs, wr.heap[B]? = some (.cells #[.pointer q] 64 (0, 0)) ∧ ConsAt (Xb X lo hi) wr vs q ∧ TreesAt (Xb X lo hi) wr (insAll id p (l.take k)).1 vs
  mt : MeterAt wr m (n + ((insAll id p (l.take k)).2 : Nat))
  le : k ≤ l.length
theorem InsInv.step {X : Nat → Prop} {m : Option Nat} {n n' : Int} {p : List (Tr E) × Nat} {l : List E} {B lo hi : Nat} {w : World} {k : Nat} {wr w2 : World} {x : E} {q : Option Addr} (h : InsInv X m n p l B lo hi w k wr)
    (hlo : w.heap.size = lo) (hB1 : lo ≤ B) (hB2 : B < hi) (hm : Mt X w m n') (hx : l[k]? = some x) (hg : wr.grownBy w2 m) (hm2 : MeterAt w2 m (n + ((insAll id p (l.take k)).2 : Nat) + (insertN (insAll id p (l.take k)).1 : Nat)))
    (hh : HeapAt (Xb X lo hi) w2 (Slag.insert id (insAll id p (l.take k)).1 x) (.agg #[.pointer q])) : InsInv X m n p l B lo hi w (k + 1) (w2.setCell ⟨B, 0, none⟩ (.pointer q)) := by
  obtain ⟨q0, vs0, hb, -, -⟩ := h.box
  have hne : m ≠ some B := hm.ne (by omega)
  have hx2 : Ext (Xb X lo hi) w2 (w2.setCell ⟨B, 0, none⟩ (.pointer q)) := Ext.set w2 (p := ⟨B, 0, none⟩) (.inr ⟨hB1, hB2⟩) _
  obtain ⟨q', vs, e, h1, h2⟩ := hh
  simp only [Value.agg.injEq, Array.mk.injEq, List.cons.injEq, Value.pointer.injEq, and_true] at e
  subst e
  have hk := (List.getElem?_eq_some_iff.1 hx).1
  refine ⟨grown_set (grown_trans h.gr hg) (by simp; omega) _, ⟨q, vs, heap_set_same (box_of hg hb hne) 0 _, h1.ext hx2, ?_⟩, ?_, by omega⟩
  · rw [insAll_take hx]; exact h2.ext hx2
  · rw [insAll_take hx]
    refine MeterAt.set ?_ (fun b e h => hne (by rw [e, ← h])) _
    rw [show n + (((insAll id p (l.take k)).2 + insertN (insAll id p (l.take k)).1 : Nat) : Int) = n + ((insAll id p (l.take k)).2 : Nat) + (insertN (insAll id p (l.take k)).1 : Nat) from by omega]
    exact hm2
/-- The heap at hand, behind one box more. -/
theorem InsInv.call {X : Nat → Prop} {m : Option Nat} {n n' : Int} {p : List (Tr E) × Nat} {l : List E} {B lo hi : Nat} {w : World} {k : Nat} {wr : World} {x : E} (h : InsInv X m n p l B lo hi w k wr)
    (_hlo : w.heap.size = lo) (hm : Mt X w m n') (hhi : hi ≤ wr.heap.size) (hx : l[k]? = some x) (hn : Tr.sizeL p.1 + l.length ≤ 1099511627776) (o : Obj) {q : Option Addr} (hq : wr.heap[B]? = some (.cells #[.pointer q] 64 (0, 0))) :
    Calls Tryd.prog 35 #[.agg #[.pointer q], mval m, elV x] (wr.alloc o) fun e w' => ∃ q', e = .returned (.agg #[.pointer q']) ∧ wr.grownBy w' m ∧ MeterAt w' m (n + ((insAll id p (l.take k)).2 : Nat) + (insertN (insAll id p (l.take k)).1 : Nat)) ∧
      HeapAt (Xb X lo hi) w' (Slag.insert id (insAll id p (l.take k)).1 x) (.agg #[.pointer q']) := by
  obtain ⟨q0, vs0, hb, hc, ht⟩ := h.box
  rw [hq] at hb
  simp only [Option.some.injEq, Obj.cells.injEq, Array.mk.injEq, List.cons.injEq, Value.pointer.injEq, and_true] at hb
  subst hb
  have hk := (List.getElem?_eq_some_iff.1 hx).1
  have hsz := insAll_size p (l.take k)
  have hg := World.grownBy_alloc wr o m
  have hM := hm.own (lo := lo) (hi := hi) (Nat.le_trans h.gr.size hg.size) (by simp; omega) (h.mt.alloc o)
  refine (sins_any (Xb X lo hi) m _ (insAll id p (l.take k)).1 (.agg #[.pointer q]) x _ hM ⟨q, vs0, rfl, hc.ext (grown_ext (grown_alloc (grown_refl wr none) o)), ht.ext (grown_ext (grown_alloc (grown_refl wr none) o))⟩ (by simp at hsz; omega)).mono ?_
  rintro e w2 ⟨v', rfl, hg2, hM2, hh⟩
  obtain ⟨q', vs', rfl, h1, h2⟩ := id hh
  exact ⟨q', rfl, grown_trans hg hg2, hM2.at_, hh⟩
end Go.Proofs.YtgdnlolicjdfoaaDoor
