import Derived.Test.YtgdnlolicjdfoaaDoorW2
/- The functions of lists, but All. -/
namespace Go.Proofs.YtgdnlolicjdfoaaDoor
open Go Go.Proofs Go.RowKit Slag

def headV : List Nat → Value | [] => .pointer none | b :: _ => .pointer (some ⟨b, 0, none⟩)
theorem lfirst_any (X : Nat → Prop) (vs : List Nat) (p : Option Addr) (w : World) (h : ConsAt X w vs p) :
    Calls Tryd.prog 54 #[.agg #[.pointer p]] w fun e w' => e = .returned (.tuple #[headV vs, .bool (!vs.isEmpty)]) ∧ w.grownBy w' none := by
  cases vs with
  | nil =>
    obtain rfl : p = none := h
    go_enter Tryd.func54, Tryd.ntmps54
    go_wp2
    go_ret2
    exact ⟨rfl, grown_alloc (grown_refl _ _) _⟩
  | cons x xs =>
    obtain ⟨b, q, rfl, _, hb, _⟩ := h
    have hlt := lt_of_heap hb
    have hne : ¬ w.heap.size = b := by omega
    have h0 := cell_of hb 0 rfl
    clear hb
    go_enter Tryd.func54, Tryd.ntmps54
    go_wp2
    go_ret2
    exact ⟨rfl, grown_alloc (grown_refl _ _) _⟩
theorem lrest_any (X : Nat → Prop) (vs : List Nat) (p : Option Addr) (w : World) (h : ConsAt X w vs p) :
    Calls Tryd.prog 55 #[.agg #[.pointer p]] w fun e w' => ∃ q, e = .returned (.agg #[.pointer q]) ∧ ConsAt X w vs.tail q ∧ w.grownBy w' none := by
  cases vs with
  | nil =>
    obtain rfl : p = none := h
    go_enter Tryd.func55, Tryd.ntmps55
    go_wp2
    refine bodyPost_ret (v := .agg #[.pointer none]) (by simp [results, Tryd.results55, go_sem]) rfl ⟨none, rfl, rfl, ?_⟩
    exact grown_two _ _ _
  | cons x xs =>
    obtain ⟨b, q, rfl, _, hb, hr⟩ := h
    have hlt := lt_of_heap hb
    have hne : ¬ w.heap.size = b := by omega
    have hne2 : ¬ w.heap.size + 1 = b := by omega
    have h0 := cell_of hb 1 (v := .pointer q) rfl
    have HR := Lib.hid hr
    clear hb hr
    go_enter Tryd.func55, Tryd.ntmps55
    go_wp2
    refine bodyPost_ret (v := .agg #[.pointer q]) (by simp [results, Tryd.results55, go_sem]) rfl ⟨q, rfl, HR.out, ?_⟩
    exact grown_two _ _ _
theorem llen_any (X : Nat → Prop) (vs : List Nat) (p : Option Addr) (w : World) (h : ConsAt X w vs p) :
    Calls Tryd.prog 74 #[.agg #[.pointer p]] w fun e w' => e = .returned (.int .i64 (wrap64 (vs.length : Int))) ∧ w.grownBy w' none := by
  cases vs with
  | nil =>
    obtain rfl : p = none := h
    go_enter Tryd.func74, Tryd.ntmps74
    go_wp2
    go_ret
    exact ⟨ret_int (by simp [wrap64]), grown_alloc (grown_refl _ _) _⟩
  | cons x xs =>
    obtain ⟨b, q, rfl, _, hb, hr⟩ := h
    have hlt := lt_of_heap hb
    have hne : ¬ w.heap.size = b := by omega
    have h0 := cell_of hb 2 (v := .int .i64 (wrap64 ((xs.length : Int) + 1))) rfl
    clear hb hr
    go_enter Tryd.func74, Tryd.ntmps74
    go_wp2
    go_ret
    exact ⟨ret_int (by simp), grown_alloc (grown_refl _ _) _⟩
theorem two_first (w : World) (o1 o2 : Obj) : ((w.alloc o1).alloc o2).heap[w.heap.size]? = some o1 := by
  rw [Below.heap_alloc _ _ _ (by simp)]; exact heap_alloc_new w _
theorem two_second (w : World) (o1 o2 : Obj) : ((w.alloc o1).alloc o2).heap[w.heap.size + 1]? = some o2 := by
  have := heap_alloc_new (w.alloc o1) o2; simpa using this
theorem lpush_any (X : Nat → Prop) (vs : List Nat) (x : Nat) (p : Option Addr) (w : World) (h : ConsAt X w vs p) (hX : ∀ b, X b → b < w.heap.size) :
    Calls Tryd.prog 58 #[.agg #[.pointer p], .pointer (some ⟨x, 0, none⟩)] w fun e w' => ∃ q, e = .returned (.agg #[.pointer q]) ∧ w.grownBy w' none ∧ ConsAt X w' (x :: vs) q := by
  have H1 := Lib.hid (two_first w (.cells #[.pointer p] 62) (.cells #[.pointer none] 62))
  have H2 := Lib.hid (two_second w (.cells #[.pointer p] 62) (.cells #[.pointer none] 62))
  have HH := Lib.hid (h.ext (grown_ext (grown_drew (grown_two w (.cells #[.pointer p] 62) (.cells #[.pointer none] 62)))))
  have HH0 := Lib.hid h
  have HX := Lib.hid hX
  clear h hX
  go_enter Tryd.func58, Tryd.ntmps58
  go_wp2
  go_region_held3 (fun w' => w'.cell? ⟨w.heap.size, 0, none⟩ = some (.pointer p) ∧ w'.cell? ⟨w.heap.size + 1, 0, none⟩ = some (cellAt w' ⟨w.heap.size + 1, 0, none⟩) ∧ w'.frozen? ⟨w.heap.size + 1, 0, none⟩ = false)
    (first
      | (refine ⟨cell_of (box_none ?_ H1.out) 0 rfl, at_of (cell_of (box_none ?_ H2.out) 0 rfl), frozen_of (box_none ?_ H2.out) 0⟩ <;> first | exact hg | exact grown_alloc hg _ | exact grown_drew (grown_refl _ _) | exact grown_refl _ _)
      | exact ⟨cell_set_ne _ (cell_of (box_none (grown_alloc hg _) H1.out) 0 rfl) (by simp), at_set _ (cell_of (box_none (grown_alloc hg _) H2.out) 0 rfl), frozen_set _ (frozen_of (box_none (grown_alloc hg _) H2.out) 0)⟩)
    (first | (go_at_call 74; refine (llen_any X vs p _ HH.out).mono ?_; rintro e w1 ⟨rfl, hg0⟩; have hg := grown_trans (grown_drew (grown_refl _ _)) hg0; clear hg0))
  all_goals go_wp2
  have hr := World.cell?_setCell_same' (w1.alloc (Obj.cells #[Value.pointer (some ⟨x, 0, none⟩), Value.pointer p, Value.int IntKind.i64 (IntKind.i64.wrap (wrap64 vs.length + 1))] 121)) ⟨w.heap.size + 1, 0, none⟩ (Value.pointer (some ⟨w1.heap.size, 0, none⟩)) (by rw [cell_of (box_none (grown_alloc hg _) H2.out) 0 rfl]; rfl)
  rename_i hHeld
  clear hHeld
  have hgf := grown_set (grown_alloc (grown_trans (grown_two w (.cells #[.pointer p] 62) (.cells #[.pointer none] 62)) hg) (Obj.cells #[Value.pointer (some ⟨x, 0, none⟩), Value.pointer p, Value.int IntKind.i64 (IntKind.i64.wrap (wrap64 vs.length + 1))] 121)) (p := ⟨w.heap.size + 1, 0, none⟩) (by simp) (Value.pointer (some ⟨w1.heap.size, 0, none⟩))
  have hsz : w.heap.size + 1 < w1.heap.size := by have := hg.size; simp at this; omega
  refine bodyPost_ret (v := .agg #[.pointer (some ⟨w1.heap.size, 0, none⟩)]) (by simp [results, Tryd.results58, go_sem, hr]) rfl ⟨_, rfl, hgf, w1.heap.size, p, rfl, ?_, ?_, HH0.out.ext (grown_ext hgf)⟩
  · intro hx; have := HX.out _ hx; omega
  · rw [Below.heap_setCell _ _ _ _ (by simp; omega), heap_alloc_new, i64wrap, wrap64_wrap64_add]
theorem drop_tail {α : Type} (l : List α) (k : Nat) : (l.drop k).tail = l.drop (k + 1) := by simp
/-- Drop. -/
theorem ldrop_any (X : Nat → Prop) (n : Nat) (vs : List Nat) (p : Option Addr) (w : World) (h : ConsAt X w vs p) (hX : ∀ b, X b → b < w.heap.size) (hn : n ≤ 4611686018427387904) :
    Calls Tryd.prog 57 #[.agg #[.pointer p], .int .i64 n] w fun e w' => ∃ q, e = .returned (.agg #[.pointer q]) ∧ w.grownBy w' none ∧ ConsAt X w' (vs.drop n) q := by
  have HX := Lib.hid hX
  have HH := Lib.hid (h.weak (X := X) (Y := X) (fun _ h _ => h))
  clear h hX
  go_enter Tryd.func57, Tryd.ntmps57
  go_wp2
  go_loopw [1] (fun i wr => ∃ (k : Nat) (q : Option Addr), k ≤ n ∧ i = .int .i64 ((n : Int) - k) ∧ wr.heap[w.heap.size]? = some (.cells #[.pointer q] 62 (0, 0)) ∧ wr.heap[w.heap.size + 1]? = some (.cells #[.pointer none] 62 (0, 0)) ∧ ConsAt (Xb X w.heap.size (w.heap.size + 2)) wr (vs.drop k) q ∧ w.grownBy wr none) (fun i _ => (intOf i).toNat)
  case atStart =>
    refine ⟨0, p, by omega, by simp, two_first _ _ _, two_second _ _ _, ?_, grown_two _ _ _⟩
    refine ConsAt.ext (grown_ext (grown_two _ _ _)) (ConsAt.weak (X := X) ?_ (by simpa using HH.out))
    rintro b (hb | hb) hlt
    · exact hb
    · omega
  case round =>
    obtain ⟨k, q, hk, rfl, hb1, hb2, hc, hg⟩ := hrel
    have h0 := cell_of hb1 0 (v := .pointer q) rfl
    have f0 := frozen_of hb1 0
    have h1 := cell_of hb2 0 (v := .pointer none) rfl
    have f1 := frozen_of hb2 0
    have HB1 := Lib.hid hb1
    have HB2 := Lib.hid hb2
    have HC := Lib.hid hc
    have HD := Lib.hid (drop_tail vs k)
    clear hb1 hb2 hc
    have hout : ∀ l, ConsAt (Xb X w.heap.size (w.heap.size + 2)) wr l q → ConsAt X (wr.setCell ⟨w.heap.size + 1, 0, none⟩ (.pointer q)) l q := fun l hl =>
      ConsAt.weak (X := Xb X w.heap.size (w.heap.size + 2)) (fun b hb _ => Xb.left hb) (hl.ext (Ext.set _ (Xb.own (by simp) (by simp)) _))
    have HO := Lib.hid hout
    clear hout
    by_cases hlt : k < n
    · have d1 : decide (0 < (n : Int) - k) = true := by simp; omega
      cases hd : vs.drop k with
      | nil =>
        have hq : q = none := by have := HC.out; rw [hd] at this; exact this
        subst hq
        have hres : vs.drop n = [] := by
          have : vs.length ≤ k := by simpa using hd
          rw [List.drop_eq_nil_iff]; omega
        have HRES := Lib.hid hres
        clear hd hres
        go_wp2
        have hr := World.cell?_setCell_same' wr ⟨w.heap.size + 1, 0, none⟩ (Value.pointer none) (by rw [h1]; rfl)
        refine bodyPost_ret (v := .agg #[.pointer none]) (by simp [results, Tryd.results57, go_sem, hr]) rfl ⟨none, rfl, grown_set hg (by simp) _, ?_⟩
        rw [HRES.out]; rfl
      | cons x xs =>
        have hcc := HC.out
        rw [hd] at hcc
        have HCC := Lib.hid hcc
        obtain ⟨b, q', rfl, _, _, hcc'⟩ := hcc
        have htl : (x :: xs).tail = vs.drop (k + 1) := by rw [← HD.out, hd]
        have HT := Lib.hid htl
        clear hcc' htl hd
        go_wp2_with fail
        refine (lrest_any _ _ _ _ HCC.out).mono ?_
        rintro e w1 ⟨q1, rfl, hc1, hg1⟩
        have g1 := box_none hg1 HB1.out
        have g2 := box_none hg1 HB2.out
        have c1 := cell_of g1 0 rfl
        have z1 := frozen_of g1 0
        have G1 := Lib.hid g1
        have G2 := Lib.hid g2
        have HC1 := Lib.hid (hc1.ext (grown_ext hg1))
        clear g1 g2 hc1
        go_wp2
        go_roundw
        case rel =>
          refine ⟨k + 1, q1, by omega, by go_num, heap_set_same G1.out 0 _, heap_set_ne G2.out _ _ (by simp), ?_, grown_set (grown_trans hg hg1) (by simp) _⟩
          rw [← HT.out]
          exact HC1.out.ext (Ext.set _ (Xb.own (by simp) (by simp)) _)
        case measure => simp [intOf]; omega
    · obtain rfl : k = n := by omega
      go_wp2
      have hr := World.cell?_setCell_same' wr ⟨w.heap.size + 1, 0, none⟩ (Value.pointer q) (by rw [h1]; rfl)
      exact bodyPost_ret (v := .agg #[.pointer q]) (by simp [results, Tryd.results57, go_sem, hr]) rfl ⟨q, rfl, grown_set hg (by simp) _, HO.out _ HC.out⟩
end Go.Proofs.YtgdnlolicjdfoaaDoor
