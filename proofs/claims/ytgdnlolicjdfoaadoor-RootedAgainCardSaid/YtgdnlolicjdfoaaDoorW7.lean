import Derived.Test.YtgdnlolicjdfoaaDoorW6
/- Trees: what they have; made. -/
namespace Go.Proofs.YtgdnlolicjdfoaaDoor
open Go Go.Proofs Go.RowKit Slag

theorem trank_any (X : Nat → Prop) (t : Tr E) (b : Nat) (w : World) (h : TreeAt X w t b) :
    Calls Tryd.prog 56 #[.pointer (some ⟨b, 0, none⟩)] w fun e w' => e = .returned (.int .i64 t.rank) ∧ w = w' := by
  obtain ⟨bv, kv, _, hb, _⟩ := h.open
  have h0 := cell_of hb 0 rfl
  clear hb h
  go_enter Tryd.func56, Tryd.ntmps56
  go_wp2
  go_ret
  exact ⟨rfl, rfl⟩
theorem tsize_any (X : Nat → Prop) (t : Tr E) (b : Nat) (w : World) (h : TreeAt X w t b) :
    Calls Tryd.prog 61 #[.pointer (some ⟨b, 0, none⟩)] w fun e w' => e = .returned (.int .i64 t.size) ∧ w = w' := by
  obtain ⟨bv, kv, _, hb, _⟩ := h.open
  have h0 := cell_of hb 5 rfl
  clear hb h
  go_enter Tryd.func61, Tryd.ntmps61
  go_wp2
  go_ret
  exact ⟨rfl, rfl⟩
theorem troot_any (X : Nat → Prop) (t : Tr E) (b : Nat) (w : World) (h : TreeAt X w t b) :
    Calls Tryd.prog 43 #[.pointer (some ⟨b, 0, none⟩)] w fun e w' => e = .returned (.tuple #[elV t.root, .bool true]) ∧ w.grownBy w' none := by
  obtain ⟨bv, kv, _, hb, _⟩ := h.open
  have hlt := lt_of_heap hb
  have hne : ¬ w.heap.size = b := by omega
  have h1 := cell_of hb 1 rfl
  have h2 := cell_of hb 2 rfl
  clear hb h
  generalize t.root = x at *
  obtain ⟨x1, x2⟩ := x
  unfold elV
  go_enter Tryd.func43, Tryd.ntmps43
  go_wp2
  refine bodyPost_ret (v := .tuple #[.agg #[.int .i64 x1, .int .i64 x2], .bool true]) (by simp [results, Tryd.results43, go_sem]) rfl ⟨rfl, ?_⟩
  exact grown_alloc (grown_refl _ _) _
theorem tkids_any (X : Nat → Prop) (t : Tr E) (b : Nat) (w : World) (h : TreeAt X w t b) (hn : t.size ≤ 1099511627776) :
    Calls Tryd.prog 44 #[.pointer (some ⟨b, 0, none⟩)] w fun e w' => ∃ v' vs, e = .returned v' ∧ w.grownBy w' none ∧ w'.ownsRow w.heap.size 84 1 v' t.kids.length (vs.map pv) ∧ TreesAt X w' t.kids vs := by
  obtain ⟨bv, kv, _, hb, _, _, vs, hk, hks⟩ := h.open
  have h4 := cell_of hb 4 rfl
  have hlen : t.kids.length ≤ 1099511627776 := by have := Tr.length_le_sizeL t.kids; have := Tr.size_eq t; omega
  have HK := Lib.hid hk
  have HS := Lib.hid hks
  clear hb h hk hks
  obtain ⟨_, p, cap, rfl, -⟩ := HK.out
  go_enter Tryd.func44, Tryd.ntmps44
  go_wp2_with fail
  refine (cloneP_any X _ vs _ _ HK.out hlen).mono ?_
  rintro e w1 ⟨v', rfl, hg, hown⟩
  have HO := Lib.hid hown
  clear hown
  go_wp2
  go_ret
  exact ⟨v', vs, rfl, hg, HO.out, HS.out.ext (grown_ext hg)⟩
theorem tbes_any (X : Nat → Prop) (t : Tr E) (b : Nat) (w : World) (h : TreeAt X w t b) (hn : t.size ≤ 1099511627776) :
    Calls Tryd.prog 50 #[.pointer (some ⟨b, 0, none⟩)] w fun e w' => ∃ v', e = .returned v' ∧ w.grownBy w' none ∧ w'.ownsRow w.heap.size 24 2 v' t.bes.length (eCells t.bes) := by
  obtain ⟨bv, kv, _, hb, hbs, _⟩ := h.open
  have h3 := cell_of hb 3 rfl
  have hlen : t.bes.length ≤ 1099511627776 := by have := Tr.size_eq t; omega
  have HK := Lib.hid hbs
  clear hb h hbs
  obtain ⟨_, p, cap, rfl, -⟩ := HK.out
  go_enter Tryd.func50, Tryd.ntmps50
  go_wp2_with fail
  refine (cloneE_any X _ t.bes _ _ HK.out hlen).mono ?_
  rintro e w1 ⟨v', rfl, hg, hown⟩
  have HO := Lib.hid hown
  clear hown
  go_wp2
  go_ret
  exact ⟨v', rfl, hg, HO.out⟩

theorem TreesAt.own {X : Nat → Prop} {w W : World} {l : List (Tr E)} {vs : List Nat} {hi : Nat} {m : Option Nat} {n : Int} (h : TreesAt X w l vs) (hm : Mt X w m n) (hx : w.grownBy W m) : TreesAt (Xb X w.heap.size hi) W l vs :=
  TreesAt.ext ((hm.ext hx).weak (fun _ h => .inl h)) (TreesAt.weak (X := X) (fun b hb hlt => by
    rcases hb with hb | hb
    · exact hb
    · omega) h)
theorem RowAt.own2 {X : Nat → Prop} {T : TypeId} {sz : Nat} {w W : World} {n : Nat} {cs : List Value} {v : Value} {hi : Nat} {m : Option Nat} {k : Int} (h : RowAt X T sz w n cs v) (hm : Mt X w m k) (hx : w.grownBy W m) : RowAt (Xb X w.heap.size hi) T sz W n cs v :=
  RowAt.ext (RowAt.weak (X := X) h (fun b hb hlt => by
    rcases hb with hb | hb
    · exact hb
    · omega)) ((hm.ext hx).weak (fun _ h => .inl h))
theorem sizeL_take_succ {l : List (Tr E)} {k : Nat} {t : Tr E} (h : l[k]? = some t) : Tr.sizeL (l.take (k + 1)) = Tr.sizeL (l.take k) + t.size := by
  have hk := (List.getElem?_eq_some_iff.1 h).1
  rw [List.take_succ_eq_append_getElem hk]
  have : l[k] = t := (List.getElem?_eq_some_iff.1 h).2
  rw [this]
  simp [Tr.sizeL, Tr.size, Tr.allL_append, Tr.allL_cons, Tr.allL_nil]
theorem sizeL_take_le (l : List (Tr E)) (k : Nat) : Tr.sizeL (l.take k) ≤ Tr.sizeL l := by
  have := Tr.allL_append (l.take k) (l.drop k)
  rw [List.take_append_drop] at this
  unfold Tr.sizeL; rw [this]; simp
set_option maxRecDepth 100000 in
set_option maxHeartbeats 1000000 in
/-- made -/
theorem tmade_any (X : Nat → Prop) (m : Option Nat) (n : Int) (t : Tr E) (vs : List Nat) (bv kv : Value) (w : World) (hm : Mt X w m n)
    (hb : RowAt X 24 2 w t.bes.length (eCells t.bes) bv) (hk : RowAt X 84 1 w t.kids.length (vs.map pv) kv) (hks : TreesAt X w t.kids vs) (hr : t.rank < t.size) (hn : t.size ≤ 1099511627776) :
    Calls Tryd.prog 75 #[mval m, .agg #[.int .i64 t.rank, .int .i64 t.root.1, .int .i64 t.root.2, bv, kv, .int .i64 0]] w fun e w' => ∃ b, e = .returned (.pointer (some ⟨b, 0, none⟩)) ∧ w.grownBy w' m ∧ Mt X w' m (n + 1) ∧ TreeAt X w' t b := by
  have HM := Lib.hid hm
  have HB := Lib.hid hb
  have HK := Lib.hid hk
  have HKS := Lib.hid hks
  have hsz := Tr.size_eq t
  have HR := Lib.hid hr
  have HSZ := Lib.hid hsz
  have HLEN := Lib.hid hks.length
  have hkl : t.kids.length ≤ 1099511627776 := by have := Tr.length_le_sizeL t.kids; omega
  have hbl : t.bes.length ≤ 1099511627776 := by omega
  obtain ⟨_, pb, capb, hbv, -⟩ := hb
  obtain ⟨_, pk, capk, hkv, hkcap, hkmax, -⟩ := hk
  subst hbv; subst hkv
  clear hm hks hr hsz
  generalize hbn : t.bes.length = nb at *
  generalize hkn : t.kids.length = nk at *
  have HBN := Lib.hid hbn
  have HKN := Lib.hid hkn
  clear hbn hkn
  unfold maxLen at hkmax
  go_enter Tryd.func75, Tryd.ntmps75
  go_wp2_with fail
  refine (mmade_any m n _ (HM.out.at_.alloc _)).mono ?_
  rintro e w1 ⟨rfl, hg1, hm1⟩
  have hb1 := box_of hg1 (heap_alloc_new w _) (HM.out.ne (Nat.le_refl _))
  have hg1' := grown_trans (World.grownBy_alloc w _ m) hg1
  have c3 := cell_of hb1 3 (v := .slice pb nb capb) rfl
  have c4 := cell_of hb1 4 (v := .slice pk nk capk) rfl
  have c5 := cell_of hb1 5 (v := .int .i64 0) rfl
  have z5 := frozen_of hb1 5
  have HB1 := Lib.hid hb1
  have HG1 := Lib.hid hg1'
  have HM1 := Lib.hid hm1
  clear hb1 hg1 hg1' hm1
  go_wp2
  go_loopw [17] (fun i wr => ∃ k : Nat, k ≤ nk ∧ i = .int .i64 k ∧ wr.heap[w.heap.size]? = some (.cells #[.int .i64 t.rank, .int .i64 t.root.1, .int .i64 t.root.2, .slice pb nb capb, .slice pk nk capk, .int .i64 (1 + (nb : Int) + (Tr.sizeL (t.kids.take k) : Nat))] 112 (0, 0)) ∧ w.grownBy wr m ∧ MeterAt wr m (n + 1)) (fun i _ => nk - (intOf i).toNat)
  case atStart =>
    refine ⟨0, by omega, rfl, ?_, grown_set HG1.out (by simp) _, HM1.out.set (fun b e => by have := HM.out.lt b (HM.out.mem b e); simp; omega) _⟩
    have := heap_set_same HB1.out 5 (.int .i64 (1 + (nb : Int)))
    simpa [Tr.sizeL_nil] using this
  case round =>
    obtain ⟨k, hk, rfl, hbr, hgr, hmr⟩ := hrel
    have HBR := Lib.hid hbr
    have HGR := Lib.hid hgr
    have HMR := Lib.hid hmr
    have c5r := cell_of hbr 5 (v := .int .i64 (1 + (nb : Int) + (Tr.sizeL (t.kids.take k) : Nat))) rfl
    have z5r := frozen_of hbr 5
    clear hbr hgr hmr
    by_cases hlt : k < nk
    · have hkl' : k < t.kids.length := by rw [HKN.out]; exact hlt
      obtain ⟨kid, hkid⟩ : ∃ kid, t.kids[k]? = some kid := ⟨t.kids[k], by simp [hkl']⟩
      obtain ⟨kb, hvk, hkt⟩ := HKS.out.get hkid
      have hrow := HK.out.ext (HM.out.ext HGR.out)
      obtain ⟨b, off, rfl, hcell⟩ := hrow.cell (j := k) (u := .pointer (some ⟨kb, 0, none⟩)) (by simp [hvk, pv])
      obtain ⟨kbv, kkv, hkX, hkb, -⟩ := (hkt.ext (HM.out.ext HGR.out)).open
      have hkne : ¬ kb = w.heap.size := by
        obtain ⟨_, _, _, h0, -⟩ := hkt.open
        have := lt_of_heap h0; omega
      have ck := cell_of hkb 5 rfl
      have hsum := sizeL_take_succ hkid
      have hle := sizeL_take_le t.kids (k + 1)
      have hszz := HSZ.out
      have HSUM := Lib.hid hsum
      have hb1 : Tr.sizeL (t.kids.take k) + kid.size ≤ 1099511627776 := by omega
      generalize hs1 : Tr.sizeL (t.kids.take k) = s1 at *
      generalize hs2 : kid.size = s2 at *
      have HS1 := Lib.hid hs1
      clear hrow hkl' hkid hvk hkt hkb hkX hsum hle hszz hs1 hs2
      go_wp2
      refine wp_region_still_tail 8 (by kernel_rfl) (by kernel_rfl) ?_
      simp only [List.take_succ_cons, List.take_zero, List.drop_succ_cons, List.drop_zero]
      change wpStill _ _ wr.drew _ _ _
      repeat still_step
      refine wpStill_nil ?_
      change wpList _ _ _ _ _ wr.drew
      go_wp2
      go_roundw
      case rel =>
        refine ⟨k + 1, by omega, by go_num, ?_, grown_drew (grown_set HGR.out (by simp) _), (HMR.out.set (fun b e => by have := HM.out.lt b (HM.out.mem b e); simp; omega) _).drew⟩
        have := heap_set_same HBR.out 5 (.int .i64 (1 + (nb : Int) + s1 + s2))
        rw [HSUM.out]
        have e : (1 + (nb : Int) + s1 + s2) = 1 + (nb : Int) + ((s1 + s2 : Nat) : Int) := by omega
        rw [← e]
        exact this
      case measure => simp [intOf]; omega
    · obtain rfl : k = nk := by omega
      go_wp2
      go_ret
      refine ⟨w.heap.size, rfl, HGR.out, HM.out.to HGR.out.size HMR.out, ?_⟩
      have hx := HM.out.ext HGR.out
      have hcell := HBR.out
      rw [List.take_of_length_le (by rw [HKN.out]; exact Nat.le_refl _), show (1 + (nb : Int) + (Tr.sizeL t.kids : Nat)) = (t.size : Nat) from by rw [HSZ.out]; omega] at hcell
      refine TreeAt.shut (fun hX => ?_) hcell (by rw [HBN.out]; exact HB.out.ext hx) HR.out (by rw [HKN.out]; exact HK.out.ext hx) (HKS.out.ext hx)
      have := HM.out.lt _ hX; omega
end Go.Proofs.YtgdnlolicjdfoaaDoor
