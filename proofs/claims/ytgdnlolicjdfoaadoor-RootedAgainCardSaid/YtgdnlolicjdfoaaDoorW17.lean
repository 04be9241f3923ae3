import Derived.Test.YtgdnlolicjdfoaaDoorW16
/- least. -/
namespace Go.Proofs.YtgdnlolicjdfoaaDoor
open Go Go.Proofs Go.RowKit Slag

theorem row_get {X Y : Nat → Prop} {w : World} {l : List (Tr E)} {vs : List Nat} {p : Option Addr} {n cap : Nat} (hv : RowAt X 84 1 w n (vs.map pv) (.slice p n cap)) (hl : TreesAt Y w l vs) {i : Nat} {t : Tr E} (hi : l[i]? = some t) :
    ∃ b off tb, p = some ⟨b, off, none⟩ ∧ ¬ X b ∧ (∀ w', Ext X w w' → w'.cell? ⟨b, off + i, none⟩ = some (.pointer (some ⟨tb, 0, none⟩))) ∧ TreeAt Y w t tb := by
  obtain ⟨tb, h1, h2⟩ := hl.get hi
  obtain ⟨b, off, rfl, h3⟩ := hv.cell (j := i) (u := .pointer (some ⟨tb, 0, none⟩)) (by rw [List.getElem?_map, h1]; rfl)
  obtain ⟨-, p', cap', h4, -, -, -, h6⟩ := id hv
  cases h4
  have hn : 0 < n := by
    have := hv.1
    have := (List.getElem?_eq_some_iff.1 h1).1
    simp at *; omega
  refine ⟨b, off, tb, rfl, ((h6 _ rfl).2 hn).1, fun w' hx => ?_, h2⟩
  obtain ⟨b', off', e, h⟩ := (hv.ext hx).cell (j := i) (u := .pointer (some ⟨tb, 0, none⟩)) (by rw [List.getElem?_map, h1]; rfl)
  cases e
  exact h

set_option maxRecDepth 100000 in
set_option maxHeartbeats 2000000 in
theorem least1_any (X : Nat → Prop) (m : Option Nat) (n : Int) (l : List (Tr E)) (vs : List Nat) (p : Option Addr) (cap i best bl bb bm : Nat) (ti tb : Tr E) (w : World) (hm : Mt X w m n) (hl : TreesAt X w l vs)
    (hv : RowAt X 84 1 w l.length (vs.map pv) (.slice p l.length cap)) (hi : l[i]? = some ti) (hb : l[best]? = some tb)
    (h1 : w.heap[bl]? = some (.cells #[.slice p l.length cap] 82 (0, 0))) (h2 : w.heap[bb]? = some (.cells #[.int .i64 best] 3 (0, 0))) (h3 : w.heap[bm]? = some (.cells #[mval m] 41 (0, 0)))
    (n1 : m ≠ some bl) (n2 : m ≠ some bb) (n3 : m ≠ some bm) :
    Calls Tryd.prog 67 #[.int .i64 i, .pointer (some ⟨bl, 0, none⟩), .pointer (some ⟨bb, 0, none⟩), .pointer (some ⟨bm, 0, none⟩)] w fun e w' => e = .returned (.bool (less ti.root tb.root)) ∧ w.grownBy w' m ∧ Mt X w' m (n + 1) := by
  obtain ⟨b, off, r1, rfl, hXb, hc1, ht1⟩ := row_get hv hl hi
  obtain ⟨b', off', r2, e2, -, hc2, ht2⟩ := row_get hv hl hb
  cases e2
  have hil : i < l.length := (List.getElem?_eq_some_iff.1 hi).1
  have hbl : best < l.length := (List.getElem?_eq_some_iff.1 hb).1
  generalize hlen : l.length = len at *
  have hS : ∀ w', w.grownBy w' m → (w'.cell? ⟨bl, 0, none⟩ = some (.slice (some ⟨b, off, none⟩) len cap) ∧ w'.cell? ⟨bb, 0, none⟩ = some (.int .i64 best) ∧ w'.cell? ⟨bm, 0, none⟩ = some (mval m) ∧
      w'.cell? ⟨b, off + i, none⟩ = some (.pointer (some ⟨r1, 0, none⟩)) ∧ w'.cell? ⟨b, off + best, none⟩ = some (.pointer (some ⟨r2, 0, none⟩))) := fun w' hg =>
    ⟨cell_of (box_of hg h1 n1) 0 rfl, cell_of (box_of hg h2 n2) 0 rfl, cell_of (box_of hg h3 n3) 0 rfl, hc1 _ (hm.ext hg), hc2 _ (hm.ext hg)⟩
  have hLT : ∀ w', w.grownBy w' m → ¬ w'.heap.size = bl ∧ ¬ w'.heap.size = bb ∧ ¬ w'.heap.size = bm ∧ ¬ w'.heap.size = b := fun w' hg => by
    have := lt_of_heap h1
    have := lt_of_heap h2
    have := lt_of_heap h3
    have := hg.size
    have hq := World.block_lt_of_cell? _ _ (hc1 w (Ext.refl _ _))
    replace hq : b < w.heap.size := hq
    refine ⟨?_, ?_, ?_, ?_⟩ <;> omega
  have HLT := Lib.hid hLT
  clear hLT
  have HS := Lib.hid hS
  have HM := Lib.hid hm
  have HT1 := Lib.hid ht1
  have HT2 := Lib.hid ht2
  clear hS hm hl hv h1 h2 h3 hc1 hc2 ht1 ht2 hi hb hlen
  have hS0 := HS.out w (grown_refl _ _)
  obtain ⟨q1, q2, q3, q4, q5⟩ := hS0
  have hkm := fun x y w => key_method 271 x y w
  go_enter Tryd.func67, Tryd.ntmps67
  go_wp2_with fail
  refine (troot_any X ti r1 w HT1.out).mono ?_
  rintro e w1 ⟨rfl, hg1⟩
  obtain ⟨q1, q2, q3, q4, q5⟩ := HS.out (w1.alloc (.cells #[.int .i64 ti.root.1, .int .i64 ti.root.2] 24)) (grown_alloc (grown_of_none m hg1) _)
  unfold elV
  have HT2' := Lib.hid (HT2.out.ext (HM.out.ext (grown_alloc (grown_of_none m hg1) (.cells #[.int .i64 ti.root.1, .int .i64 ti.root.2] 24))))
  have HG1 := Lib.hid (grown_alloc hg1 (.cells #[.int .i64 ti.root.1, .int .i64 ti.root.2] 24))
  obtain ⟨z1, z2, z3, z4⟩ := HLT.out w1 (grown_of_none m hg1)
  have HX1 := Lib.hid (heap_alloc_new w1 (.cells #[.int .i64 ti.root.1, .int .i64 ti.root.2] 24))
  have HN1 := Lib.hid (HM.out.ne hg1.size)
  clear hg1
  go_wp2_with fail
  refine (troot_any X tb r2 _ HT2'.out).mono ?_
  rintro e w2 ⟨rfl, hg2⟩
  have HG2 := Lib.hid (grown_alloc (grown_trans HG1.out hg2) (.cells #[.int .i64 tb.root.1, .int .i64 tb.root.2] 24))
  have HX2 := Lib.hid (heap_alloc_new w2 (.cells #[.int .i64 tb.root.1, .int .i64 tb.root.2] 24))
  have HX12 := Lib.hid (heap_alloc_lt (box_none hg2 HX1.out) (.cells #[.int .i64 tb.root.1, .int .i64 tb.root.2] 24))
  have HN2 := Lib.hid (HM.out.ne (grown_trans HG1.out hg2).size)
  have hS2 : ∀ w', (w2.alloc (.cells #[.int .i64 tb.root.1, .int .i64 tb.root.2] 24)).grownBy w' m → (w'.cell? ⟨bm, 0, none⟩ = some (mval m) ∧ w'.cell? ⟨w1.heap.size, 0, none⟩ = some (.int .i64 ti.root.1) ∧ w'.cell? ⟨w1.heap.size, 1, none⟩ = some (.int .i64 ti.root.2) ∧
      w'.cell? ⟨w2.heap.size, 0, none⟩ = some (.int .i64 tb.root.1) ∧ w'.cell? ⟨w2.heap.size, 1, none⟩ = some (.int .i64 tb.root.2)) := fun w' hg =>
    ⟨(HS.out _ (grown_trans (grown_of_none m HG2.out) hg)).2.2.1, cell_of (box_of hg HX12.out HN1.out) 0 rfl, cell_of (box_of hg HX12.out HN1.out) 1 rfl, cell_of (box_of hg HX2.out HN2.out) 0 rfl, cell_of (box_of hg HX2.out HN2.out) 1 rfl⟩
  have HS2 := Lib.hid hS2
  clear hS2
  obtain ⟨q1, q2, q3, q4, q5⟩ := HS2.out _ (grown_refl _ _)
  unfold elV
  clear hg2
  go_wp2_with fail
  go_region_held3 (fun w' => w'.cell? ⟨bm, 0, none⟩ = some (mval m) ∧ w'.cell? ⟨w1.heap.size, 0, none⟩ = some (.int .i64 ti.root.1) ∧ w'.cell? ⟨w1.heap.size, 1, none⟩ = some (.int .i64 ti.root.2) ∧
      w'.cell? ⟨w2.heap.size, 0, none⟩ = some (.int .i64 tb.root.1) ∧ w'.cell? ⟨w2.heap.size, 1, none⟩ = some (.int .i64 tb.root.2))
    (first | exact HS2.out _ hh3 | exact HS2.out _ hh2 | exact HS2.out _ hh1 | exact HS2.out _ (grown_drew (grown_refl _ _)) | exact HS2.out _ (grown_refl _ _))
    (first
      | (go_at_call_of 118 (Value.agg #[Value.int IntKind.i64 ti.root.1, Value.int IntKind.i64 ti.root.2]); refine (ekey2 ti.root.1 ti.root.2 _).mono ?_; rintro e w3 ⟨rfl, hg3⟩; have hh1 := grown_of_none m (grown_trans (grown_drew (grown_refl (w2.alloc (.cells #[.int .i64 tb.root.1, .int .i64 tb.root.2] 24)) none)) hg3))
      | (go_at_call_of 118 (Value.agg #[Value.int IntKind.i64 tb.root.1, Value.int IntKind.i64 tb.root.2]); refine (ekey2 tb.root.1 tb.root.2 _).mono ?_; rintro e w4 ⟨rfl, hg4⟩; have hh2 := grown_trans hh1 (grown_of_none m hg4))
      | (go_at_call 34; refine (mless2 m n ti.root tb.root _ ?_).mono ?_; exact ((HM.out.at_.grown (grown_drew HG2.out)).grown hg3).grown hg4; rintro e w5 ⟨rfl, hg5, hm5⟩; have hh3 := grown_trans hh2 hg5))
  have HH3 := Lib.hid (grown_trans (grown_of_none m HG2.out) hh3)
  have HM5 := Lib.hid hm5
  clear hm5 hh3
  go_wp2
  go_ret
  exact ⟨rfl, HH3.out, HM.out.to HH3.out.size HM5.out⟩

structure LeastInv (X : Nat → Prop) (m : Option Nat) (n : Int) (l : List (Tr E)) (p : Option Addr) (cap S : Nat) (w : World) (k best : Nat) (wr : World) : Prop where
  gr : w.grownBy wr m
  b1 : wr.heap[S]? = some (.cells #[mval m] 41 (0, 0))
  b2 : wr.heap[S + 1]? = some (.cells #[.slice p l.length cap] 82 (0, 0))
  b3 : wr.heap[S + 1 + 1]? = some (.cells #[.int .i64 best] 3 (0, 0))
  hb : ∃ tb, l[best]? = some tb ∧ Slag.least id l = leastGo id best tb.root k (l.drop k)
  mt : Mt X wr m (n + ((k - 1 : Nat) : Int))
  pos : 1 ≤ k
  le : k ≤ l.length
theorem LeastInv.call {X : Nat → Prop} {m : Option Nat} {n : Int} {l : List (Tr E)} {p : Option Addr} {cap S : Nat} {w : World} {k best : Nat} {wr : World} (h : LeastInv X m n l p cap S w k best wr) (hS : w.heap.size = S)
    (hm : Mt X w m n) {vs : List Nat} (hl : TreesAt X w l vs) (hv : RowAt X 84 1 w l.length (vs.map pv) (.slice p l.length cap)) {ti tb : Tr E} (hi : l[k]? = some ti) (hb : l[best]? = some tb) :
    Calls Tryd.prog 67 #[.int .i64 k, .pointer (some ⟨S + 1, 0, none⟩), .pointer (some ⟨S + 1 + 1, 0, none⟩), .pointer (some ⟨S, 0, none⟩)] wr fun e w' => e = .returned (.bool (less ti.root tb.root)) ∧ wr.grownBy w' m ∧ Mt X w' m (n + ((k - 1 : Nat) : Int) + 1) :=
  least1_any X m _ l vs p cap k best (S + 1) (S + 1 + 1) S ti tb wr h.mt (hl.ext (hm.ext h.gr)) (hv.ext (hm.ext h.gr)) hi hb h.b2 h.b3 h.b1 (hm.ne (by omega)) (hm.ne (by omega)) (hm.ne (by omega))
theorem LeastInv.no {X : Nat → Prop} {m : Option Nat} {n : Int} {l : List (Tr E)} {p : Option Addr} {cap S : Nat} {w : World} {k best : Nat} {wr w' : World} (h : LeastInv X m n l p cap S w k best wr) (hS : w.heap.size = S)
    (hm : Mt X w m n) {ti tb : Tr E} (hi : l[k]? = some ti) (hb : l[best]? = some tb) (hl : less ti.root tb.root = false) (hg : wr.grownBy w' m) (hm' : Mt X w' m (n + ((k - 1 : Nat) : Int) + 1)) :
    LeastInv X m n l p cap S w (k + 1) best w' := by
  have hkl : k < l.length := (List.getElem?_eq_some_iff.1 hi).1
  obtain ⟨tb', h1, h2⟩ := h.hb
  rw [hb] at h1; cases h1
  have hk := h.pos
  refine ⟨grown_trans h.gr hg, box_of hg h.b1 (hm.ne (by omega)), box_of hg h.b2 (hm.ne (by omega)), box_of hg h.b3 (hm.ne (by omega)), ⟨tb, hb, ?_⟩, ?_, by omega, by omega⟩
  · rw [h2, List.drop_eq_getElem_cons hkl]
    have : l[k] = ti := by rw [List.getElem?_eq_getElem hkl] at hi; simpa using hi
    rw [this]; simp [leastGo, hl]
  · rw [show ((k + 1 - 1 : Nat) : Int) = ((k - 1 : Nat) : Int) + 1 from by omega, ← Int.add_assoc]; exact hm'
theorem LeastInv.yes {X : Nat → Prop} {m : Option Nat} {n : Int} {l : List (Tr E)} {p : Option Addr} {cap S : Nat} {w : World} {k best : Nat} {wr w' : World} (h : LeastInv X m n l p cap S w k best wr) (hS : w.heap.size = S)
    (hm : Mt X w m n) {ti tb : Tr E} (hi : l[k]? = some ti) (hb : l[best]? = some tb) (hl : less ti.root tb.root = true) (hg : wr.grownBy w' m) (hm' : Mt X w' m (n + ((k - 1 : Nat) : Int) + 1)) :
    LeastInv X m n l p cap S w (k + 1) k (w'.setCell ⟨S + 1 + 1, 0, none⟩ (.int .i64 k)) := by
  have hkl : k < l.length := (List.getElem?_eq_some_iff.1 hi).1
  obtain ⟨tb', h1, h2⟩ := h.hb
  rw [hb] at h1; cases h1
  have hk := h.pos
  have hgg := grown_set (grown_trans h.gr hg) (p := ⟨S + 1 + 1, 0, none⟩) (by simp; omega) (.int .i64 k)
  refine ⟨hgg, heap_set_ne (box_of hg h.b1 (hm.ne (by omega))) _ _ (by simp; omega), heap_set_ne (box_of hg h.b2 (hm.ne (by omega))) _ _ (by simp), heap_set_same (box_of hg h.b3 (hm.ne (by omega))) _ _, ⟨ti, hi, ?_⟩, ?_, by omega, by omega⟩
  · rw [h2, List.drop_eq_getElem_cons hkl]
    have : l[k] = ti := by rw [List.getElem?_eq_getElem hkl] at hi; simpa using hi
    rw [this]; simp [leastGo, hl]
  · rw [show ((k + 1 - 1 : Nat) : Int) = ((k - 1 : Nat) : Int) + 1 from by omega, ← Int.add_assoc]
    exact hm'.to (by simp [World.setCell]) (hm'.at_.set (fun b e h => hm.ne (b := S + 1 + 1) (by omega) (by rw [e, ← h])) _)
theorem LeastInv.done {X : Nat → Prop} {m : Option Nat} {n : Int} {l : List (Tr E)} {p : Option Addr} {cap S : Nat} {w : World} {k best : Nat} {wr : World} (h : LeastInv X m n l p cap S w k best wr) (hk : ¬ k < l.length) :
    best = Slag.least id l ∧ Mt X wr m (n + ((l.length - 1 : Nat) : Int)) := by
  obtain ⟨tb, h1, h2⟩ := h.hb
  have hle := h.le
  obtain rfl : k = l.length := by omega
  rw [h2, List.drop_length]
  exact ⟨rfl, h.mt⟩
set_option maxRecDepth 100000 in
set_option maxHeartbeats 2000000 in
theorem least_any (X : Nat → Prop) (m : Option Nat) (n : Int) (t0 : Tr E) (l : List (Tr E)) (vs : List Nat) (v : Value) (w : World) (hm : Mt X w m n) (hl : TreesAt X w (t0 :: l) vs)
    (hv : RowAt X 84 1 w (t0 :: l).length (vs.map pv) v) (hn : (t0 :: l).length ≤ 1099511627776) :
    Calls Tryd.prog 42 #[mval m, v] w fun e w' => e = .returned (.int .i64 (least id (t0 :: l))) ∧ w.grownBy w' m ∧ Mt X w' m (n + (l.length : Nat)) := by
  obtain ⟨-, p, cap, rfl, -⟩ := id hv
  have hmf : ∀ (fn : Fn) (first cap : Array Value) (w : World), (Instr.makeFunc fn first cap).run Tryd.prog w = .ok (.func fn first cap) w := fun _ _ _ _ => rfl
  obtain ⟨S, hS⟩ : ∃ S, w.heap.size = S := ⟨_, rfl⟩
  have hw3 : w.grownBy (((w.alloc (.cells #[mval m] 41)).alloc (.cells #[.slice p (t0 :: l).length cap] 82)).alloc (.cells #[.int .i64 0] 3)) m := grown_alloc (grown_alloc (grown_alloc (grown_refl w m) _) _) _
  have b1 := heap_alloc_lt (heap_alloc_lt (heap_alloc_new w (.cells #[mval m] 41)) (.cells #[.slice p (t0 :: l).length cap] 82)) (.cells #[.int .i64 0] 3)
  have b2 := heap_alloc_lt (heap_alloc_new (w.alloc (.cells #[mval m] 41)) (.cells #[.slice p (t0 :: l).length cap] 82)) (.cells #[.int .i64 0] 3)
  have b3 := heap_alloc_new ((w.alloc (.cells #[mval m] 41)).alloc (.cells #[.slice p (t0 :: l).length cap] 82)) (.cells #[.int .i64 0] 3)
  simp only [World.size_alloc, hS] at b1 b2 b3
  have h3 : LeastInv X m n (t0 :: l) p cap S w 1 0 (((w.alloc (.cells #[mval m] 41)).alloc (.cells #[.slice p (t0 :: l).length cap] 82)).alloc (.cells #[.int .i64 0] 3)) :=
    ⟨hw3, b1, b2, b3, ⟨t0, rfl, rfl⟩, hm.to hw3.size (by rw [show n + ((1 - 1 : Nat) : Int) = n from by omega]; exact ((hm.at_.alloc _).alloc _).alloc _), Nat.le_refl _, by simp⟩
  have H3 := Lib.hid h3
  have HS := Lib.hid hS
  have HM := Lib.hid hm
  have HL := Lib.hid hl
  have HV := Lib.hid hv
  clear hm hl hv hw3 b1 b2 b3 h3 hS
  go_enter Tryd.func42, Tryd.ntmps42
  go_wp2_with fail
  rw [HS.out]
  go_loopw [7] (fun i wr => ∃ (k best : Nat), i = .int .i64 k ∧ LeastInv X m n (t0 :: l) p cap S w k best wr) (fun i _ => (l.length + 1) - (intOf i).toNat)
  case atStart => exact ⟨1, 0, rfl, H3.out⟩
  case round =>
    obtain ⟨k, best, rfl, hI⟩ := hrel
    have hk2 := hI.le
    have hk1 := hI.pos
    have c2 := cell_of hI.b2 0 (v := .slice p (t0 :: l).length cap) rfl
    have c3 := cell_of hI.b3 0 (v := .int .i64 best) rfl
    have f3 := frozen_of hI.b3 0
    have HI := Lib.hid hI
    clear hI
    simp only [List.length_cons] at *
    by_cases hlt : k < l.length + 1
    · obtain ⟨ti, hti⟩ : ∃ ti, (t0 :: l)[k]? = some ti := ⟨_, List.getElem?_eq_getElem (by simpa using hlt)⟩
      obtain ⟨tb, htb, -⟩ := HI.out.hb
      have hC := HI.out.call HS.out HM.out HL.out HV.out hti htb
      have HC := Lib.hid hC
      have HTI := Lib.hid hti
      have HTB := Lib.hid htb
      have hlt' : (k : Int) < (l.length : Int) + 1 := by omega
      generalize hls : less ti.root tb.root = ls at hC HC
      have HLS := Lib.hid hls
      clear hC hti htb hls
      go_wp2_with fail
      refine HC.out.mono ?_
      rintro e w1 ⟨rfl, hg1, hm1⟩
      have HG1 := Lib.hid hg1
      have HM1 := Lib.hid hm1
      have b3' := box_of hg1 HI.out.b3 (HM.out.ne (by have := HS.out; omega))
      have c3' := cell_of b3' 0 (v := .int .i64 best) rfl
      have f3' := frozen_of b3' 0
      clear hg1 hm1 b3'
      cases ls with
      | true =>
        go_wp2
        go_roundw
        case rel => exact ⟨k + 1, k, by go_num, HI.out.yes HS.out HM.out HTI.out HTB.out HLS.out HG1.out HM1.out⟩
        case measure => simp [intOf]; omega
      | false =>
        go_wp2
        go_roundw
        case rel => exact ⟨k + 1, best, by go_num, HI.out.no HS.out HM.out HTI.out HTB.out HLS.out HG1.out HM1.out⟩
        case measure => simp [intOf]; omega
    · have hlt' : ¬ (k : Int) < (l.length : Int) + 1 := by omega
      go_wp2_with fail
      go_ret
      obtain ⟨rfl, h2⟩ := HI.out.done hlt
      exact ⟨rfl, HI.out.gr, h2⟩
end Go.Proofs.YtgdnlolicjdfoaaDoor
