import Derived.Test.YtgdnlolicjdfoaaDoorW20
/- Heap: Pop. -/
namespace Go.Proofs.YtgdnlolicjdfoaaDoor
open Go Go.Proofs Go.RowKit Slag

/-- X, and all that is new behind w. -/
def Xf (X : Nat → Prop) (w : World) : Nat → Prop := fun b => X b ∨ w.heap.size ≤ b
theorem far_ext {X : Nat → Prop} {m : Option Nat} {n : Int} {w W W' : World} (hm : Mt X w m n) (h1 : w.grownBy W m) (h2 : w.grownBy W' m) (hs : W.heap.size ≤ W'.heap.size) : Ext (Xf X w) W W' :=
  ⟨hs, fun b c T fz hX hb => by
    have hlt : b < w.heap.size := by
      rcases Nat.lt_or_ge b w.heap.size with h | h
      · exact h
      · exact absurd (.inr h) hX
    have hne : some b ≠ m := fun e => hX (.inl (hm.mem b e.symm))
    rw [h2.block b hlt hne, ← h1.block b hlt hne]; exact hb⟩
theorem TreesAt.far {X : Nat → Prop} {w : World} {l : List (Tr E)} {vs : List Nat} (h : TreesAt X w l vs) : TreesAt (Xf X w) w l vs :=
  TreesAt.weak (fun b hb hlt => by rcases hb with hb | hb; exact hb; omega) h
theorem TreesAt.near {X : Nat → Prop} {w W : World} {l : List (Tr E)} {vs : List Nat} (h : TreesAt (Xf X w) W l vs) : TreesAt X W l vs := TreesAt.weak (fun _ hb _ => .inl hb) h
theorem TreesAt.near2 {X : Nat → Prop} {w W : World} {l : List (Tr E)} {vs : List Nat} {S hi : Nat} (hS : w.heap.size = S) (h : TreesAt (Xf X w) W l vs) : TreesAt (Xb X S hi) W l vs := TreesAt.weak (fun _ hb _ => by
  rcases hb with hb | hb
  · exact .inl hb
  · exact .inr (by omega)) h
theorem ownsRow_keep {w w' : World} {base e size : Nat} {v : Value} {n : Nat} {xs : List Value} {row : Option Nat} (h : w.ownsRow base e size v n xs) (hg : w.grownBy w' row) (hne : ∀ g, row = some g → g < base ∨ v.ownBlock ≠ some g) : w'.ownsRow base e size v n xs := by
  refine h.kept hg ?_
  cases hv : v.ownBlock with
  | none => exact .inl rfl
  | some g =>
    refine .inr fun e => ?_
    have h1 := (h.lt g hv).1
    rcases hne g e.symm with h2 | h2
    · omega
    · exact h2 hv

theorem size_le_of_get {l : List (Tr E)} {i : Nat} {t : Tr E} (h : l[i]? = some t) : t.size + Tr.sizeL (l.eraseIdx i) = Tr.sizeL l := by
  induction l generalizing i with
  | nil => simp at h
  | cons u l ih =>
    cases i with
    | zero => simp at h; subst h; simp [Tr.sizeL_cons]
    | succ i =>
      have := ih (i := i) (by simpa using h)
      simp only [List.eraseIdx_cons_succ, Tr.sizeL_cons]; omega
theorem heap_row {w w' : World} {b : Nat} {o : Obj} {row : Option Nat} (h : w.heap[b]? = some o) (hg : w.grownBy w' row) (hne : ∀ g, row = some g → g ≠ b) : w'.heap[b]? = some o := by
  rw [hg.block b (lt_of_heap h) (fun e => hne b e.symm rfl)]; exact h
set_option maxRecDepth 100000 in
set_option maxHeartbeats 2000000 in
theorem spop_any (X : Nat → Prop) (m : Option Nat) (n : Int) (h : List (Tr E)) (v : Value) (w : World) (hm : Mt X w m n) (hh : HeapAt X w h v) (hn : Tr.sizeL h ≤ 1099511627776) :
    Calls Tryd.prog 32 #[v, mval m] w fun e w' => ∃ v', e = .returned (.tuple #[v', .bool (!h.isEmpty)]) ∧ w.grownBy w' m ∧ Mt X w' m (n + (popN id h : Nat)) ∧ HeapAt X w' (pop id h) v' := by
  obtain ⟨p, vs, rfl, hc, ht⟩ := hh
  have hl := ht.length
  have hb := Tr.length_le_sizeL h
  obtain ⟨S, hS⟩ : ∃ S, w.heap.size = S := ⟨_, rfl⟩
  have hg0 : w.grownBy ((w.alloc (.cells #[.pointer p] 64)).alloc (.cells #[.pointer none] 64)) none := grown_alloc (grown_alloc (grown_refl w none) _) _
  have b1 := heap_alloc_new (w.alloc (.cells #[.pointer p] 64)) (.cells #[.pointer none] 64)
  simp only [World.size_alloc, hS] at b1
  have hM0 : Mt (Xb X S (S + 2)) ((w.alloc (.cells #[.pointer p] 64)).alloc (.cells #[.pointer none] 64)) m n := by
    have := hm.own (lo := w.heap.size) (hi := S + 2) hg0.size (by simp [hS]) ((hm.at_.alloc (.cells #[.pointer p] 64)).alloc (.cells #[.pointer none] 64))
    rw [hS] at this; exact this
  have HM0 := Lib.hid hM0
  have HG0 := Lib.hid hg0
  have HB0 := Lib.hid b1
  have HM := Lib.hid hm
  have HC := Lib.hid (hc.ext (grown_ext hg0))
  have HF0 := Lib.hid (ht.far.ext (far_ext hm (grown_refl w m) (grown_of_none m hg0) hg0.size))
  have HL := Lib.hid hl
  have HS := Lib.hid hS
  have HNR : Hid (m ≠ some (S + 1)) := Lib.hid (hm.ne (by omega))
  clear hm hc ht hl hM0 hg0 b1
  go_enter Tryd.func32, Tryd.ntmps32
  go_wp2_with fail
  generalize ((w.alloc (.cells #[.pointer p] 64)).alloc (.cells #[.pointer none] 64)) = W0 at *
  refine (lall_any X p vs W0 HC.out (by have := HL.out; omega)).mono ?_
  rintro e w1 ⟨u1, rfl, ho1, hg1⟩
  have HO1 := Lib.hid ho1
  have HR1 : Hid (RowAt (Xb X S (S + 2)) 84 1 w1 h.length (vs.map pv) u1) := Lib.hid (by have := RowAt.of_owns ho1 (fun b hb => HM0.out.lt b hb); rw [HL.out] at this; exact this)
  have HG1 := Lib.hid (grown_trans HG0.out hg1)
  have HM1 := Lib.hid (HM0.out.to hg1.size (HM0.out.at_.grown hg1))
  have HF1 := Lib.hid (HF0.out.ext (grown_ext hg1))
  have HB1 := Lib.hid (box_none hg1 HB0.out)
  have hsz1 := hg1.size
  obtain ⟨-, p1, c1, rfl, -⟩ := id HR1.out
  clear ho1 hg1
  cases h with
  | nil =>
    have q3 := cell_of HB1.out 0 (v := .pointer none) rfl
    have f3 := frozen_of HB1.out 0
    have hr : (w1.setCell ⟨S + 1, 0, none⟩ (.pointer none)).cell? ⟨S + 1, 0, none⟩ = some (.pointer none) := World.cell?_setCell_same' _ _ _ (by rw [q3]; rfl)
    have hS1 := HS.out
    have HGS := Lib.hid (grown_set (grown_of_none m HG1.out) (p := ⟨S + 1, 0, none⟩) (by simp; omega) (.pointer none))
    go_wp2
    refine bodyPost_ret (v := .tuple #[.agg #[.pointer none], .bool false]) (by simp [results, Tryd.results32, go_sem, hr]) rfl ?_
    refine ⟨_, rfl, HGS.out, HM.out.to HGS.out.size ?_, HeapAt.nil _ _⟩
    have := HM1.out.at_.set (p := ⟨S + 1, 0, none⟩) (fun b e h => HNR.out (by rw [e, ← h])) (.pointer none)
    simpa [popN, popP, popAt] using this
  | cons t ts =>
    obtain ⟨t', ht'⟩ : ∃ t', (t :: ts)[least id (t :: ts)]? = some t' := ⟨_, List.getElem?_eq_getElem (least_lt (by simp))⟩
    have hlt : least id (t :: ts) < (t :: ts).length := least_lt (by simp)
    have HLT := Lib.hid hlt
    have HC2 := Lib.hid (least_any (Xb X S (S + 2)) m n t ts vs _ w1 HM1.out (TreesAt.near2 HS.out HF1.out) HR1.out (by omega))
    obtain ⟨b, off, tb, rfl, -, hcell, htb⟩ := row_get HR1.out HF1.out ht'
    have HCE := Lib.hid hcell
    have HTB := Lib.hid htb
    have HT' := Lib.hid ht'
    have HSZ := Lib.hid (size_le_of_get ht')
    clear hcell htb ht' hlt
    have HPOP : Hid (popP id (t :: ts) = insAll id (meldT id t'.kids.reverse (level id ((t :: ts).eraseIdx (least id (t :: ts)))), (t :: ts).length - 1 + levelN id ((t :: ts).eraseIdx (least id (t :: ts))) + meldTN id t'.kids.reverse (level id ((t :: ts).eraseIdx (least id (t :: ts))))) t'.bes) :=
      Lib.hid (by unfold popP popAt; simp only [HT'.out])
    have HPERM : Hid (Tr.sizeL (meldT id t'.kids.reverse (level id ((t :: ts).eraseIdx (least id (t :: ts))))) + t'.bes.length + 1 = Tr.sizeL (t :: ts)) := Lib.hid (by
      have := (popAt_all (key := id) HT'.out).length_eq
      rw [show popAt id (t :: ts) (least id (t :: ts)) = _ from HPOP.out, List.length_cons] at this
      have h2 := insAll_size (meldT id t'.kids.reverse (level id ((t :: ts).eraseIdx (least id (t :: ts)))), (t :: ts).length - 1 + levelN id ((t :: ts).eraseIdx (least id (t :: ts))) + meldTN id t'.kids.reverse (level id ((t :: ts).eraseIdx (least id (t :: ts))))) t'.bes
      simp only [Tr.sizeL] at *; omega)
    have hpp : popN id (t :: ts) = (popP id (t :: ts)).2 ∧ pop id (t :: ts) = (popP id (t :: ts)).1 := ⟨rfl, rfl⟩
    have HPP := Lib.hid hpp
    clear hpp
    have HLEN : Hid ((t :: ts).length = ts.length + 1) := Lib.hid rfl
    simp only [List.length_cons] at hb
    obtain ⟨i, hi⟩ : ∃ i, least id (t :: ts) = i := ⟨_, rfl⟩
    rw [hi] at HC2 HCE HT' HPOP HPERM HLT
    have HI := Lib.hid hi
    clear hi
    have hil : i < ts.length + 1 := HLT.out
    go_wp2_with fail
    refine HC2.out.mono ?_
    rintro e w2 ⟨rfl, hg2, hM2⟩
    have HG2 := Lib.hid (grown_trans (grown_of_none m HG1.out) hg2)
    have HM2 := Lib.hid hM2
    have hce := HCE.out w2 (HM1.out.ext hg2)
    have HO2 := Lib.hid (ownsRow_keep HO1.out hg2 (fun g e => .inl (by have := HM0.out.lt g (HM0.out.mem g e); exact this)))
    have HB2 := Lib.hid (box_of hg2 HB1.out HNR.out)
    have HF2 := Lib.hid (HF1.out.ext (far_ext HM.out (grown_of_none m HG1.out) HG2.out hg2.size))
    have hsz2 := hg2.size
    have HTB2 := Lib.hid (HTB.out.ext (far_ext HM.out (grown_of_none m HG1.out) HG2.out hg2.size))
    clear hg2 hM2
    go_wp2_with fail
    refine (tkids_any _ t' tb w2 HTB2.out (by have := HSZ.out; omega)).mono ?_
    rintro e w3 ⟨v3, kvs, rfl, hg3, ho3, hks3⟩
    have HG3 := Lib.hid (grown_trans HG2.out (grown_of_none m hg3))
    have HM3 := Lib.hid (HM2.out.to hg3.size (HM2.out.at_.grown hg3))
    have HO3 := Lib.hid (ownsRow_keep HO2.out hg3 (fun g e => by cases e))
    have HB3 := Lib.hid (box_none hg3 HB2.out)
    have HKL := Lib.hid hks3.length
    have HKO : Hid (w3.ownsRow w2.heap.size 84 1 v3 kvs.length (kvs.map pv)) := Lib.hid (by rw [HKL.out]; exact ho3)
    have HK3 := Lib.hid hks3
    have hsz3 := hg3.size
    clear hg3 ho3 hks3
    have hkl : kvs.length ≤ 1099511627776 := by
      have := HKL.out
      have := Tr.length_le_sizeL t'.kids
      have := Tr.size_eq t'
      have := HSZ.out
      omega
    go_wp2_with fail
    refine (reverse_any w2.heap.size kvs v3 w3 HKO.out hkl).mono ?_
    rintro e w4 ⟨rfl, ho4, hg4⟩
    have hown3 : ∀ g, v3.ownBlock = some g → w2.heap.size ≤ g := fun g e => (HKO.out.lt g e).1
    have HG4 := Lib.hid (grown_row HG3.out hg4 (fun g e => by have := hown3 g e; have := HG2.out.size; omega))
    have HM4 := Lib.hid (HM3.out.to hg4.size (HM3.out.at_.row hg4 (fun g e h => by have := hown3 g e; have := HM2.out.lt g (HM2.out.mem g h); omega)))
    have HO4 : Hid (w4.ownsRow W0.heap.size 84 1 (.slice (some ⟨b, off, none⟩) vs.length c1) vs.length (vs.map pv)) := Lib.hid (by
      have := ownsRow_keep HO3.out hg4 (fun g e => .inr (fun h => by have := hown3 g e; have := (HO2.out.lt g h).2; omega))
      rw [HL.out]; rw [HL.out] at this; exact this)
    have HB4 := Lib.hid (heap_row HB3.out hg4 (fun g e => by have := hown3 g e; have := lt_of_heap HB2.out; omega))
    have HKO4 := Lib.hid ho4
    have HOWN3 := Lib.hid hown3
    have hsz4 := hg4.size
    have hd := delete_one W0.heap.size i vs _ w4 HO4.out (by have := HL.out; simp only [List.length_cons] at this; omega) (by have := HL.out; simp only [List.length_cons] at this; omega)
    rw [show vs.length = ts.length + 1 from HL.out, show ((i + 1 : Nat) : Int) = (i : Int) + 1 from by omega] at hd
    have HD := Lib.hid hd
    have hbb : W0.heap.size ≤ b ∧ b < w4.heap.size := HO4.out.lt b rfl
    have hb2 : b < w2.heap.size := (HO2.out.lt b rfl).2
    clear hg4 ho4 hown3 hd
    go_wp2_with fail
    refine HD.out.mono ?_
    rintro e w5 ⟨v5, rfl, ho5, hg5, hob5⟩
    have HG5 := Lib.hid (grown_row HG4.out hg5 (fun g e => by have e' : b = g := Option.some.inj e; subst e'; have := HG0.out.size; omega))
    have hM5 := HM4.out.to hg5.size (HM4.out.at_.row hg5 (fun g e h => by have e' : b = g := Option.some.inj e; subst e'; have := HM0.out.lt b (HM0.out.mem b h); omega))
    have hB5 := heap_row HB4.out hg5 (fun g e => by have e' : b = g := Option.some.inj e; subst e'; have := lt_of_heap HB0.out; omega)
    have hKO5 := ownsRow_keep HKO4.out hg5 (fun g e => by have e' : b = g := Option.some.inj e; subst e'; exact .inl hb2)
    have hF5 := HF0.out.ext (far_ext HM.out (grown_of_none m HG0.out) HG5.out (by have := hg5.size; omega))
    have hel : ((t :: ts).eraseIdx i).length = ts.length := by rw [List.length_eraseIdx_of_lt (by simpa using hil)]; simp
    have hR5 : RowAt (Xb X S (S + 2)) 84 1 w5 ((t :: ts).eraseIdx i).length ((vs.eraseIdx i).map pv) v5 := by
      rw [hel]
      exact RowAt.of_owns ho5 (fun b hb => HM0.out.lt b hb)
    have HLV := Lib.hid (level_any (Xb X S (S + 2)) m _ ((t :: ts).eraseIdx i) (vs.eraseIdx i) v5 w5 hM5 (TreesAt.near2 HS.out (hF5.eraseIdx i)) hR5 (by have := HSZ.out; rw [HI.out] at this; omega))
    have HK5 := Lib.hid (HK3.out.ext (far_ext HM.out HG3.out HG5.out (by have := hg5.size; omega)))
    have HM5 := Lib.hid hM5
    have HB5 := Lib.hid hB5
    have HKO5 := Lib.hid hKO5
    have hsz5 := hg5.size
    clear ho5 hg5 hob5 hM5 hB5 hKO5 hF5 hel hR5
    go_wp2_with fail
    refine HLV.out.mono ?_
    rintro e w6 ⟨v6, us6, rfl, hg6, hM6, hT6, hR6⟩
    have HG6 := Lib.hid (grown_trans HG5.out hg6)
    have hKO6 := ownsRow_keep HKO5.out hg6 (fun g e => .inl (by have := HM2.out.lt g (HM2.out.mem g e); exact this))
    have hB6 := box_of hg6 HB5.out HNR.out
    have hK6 := HK5.out.ext (far_ext HM.out HG5.out HG6.out hg6.size)
    have hRK : RowAt (Xb X S (S + 2)) 84 1 w6 t'.kids.reverse.length (kvs.reverse.map pv) v3 := by
      have := RowAt.of_owns hKO6 (fun b hb => HM2.out.lt b hb)
      rw [List.length_reverse, ← HKL.out]; exact this
    have hzz : Tr.sizeL t'.kids.reverse + Tr.sizeL (level id ((t :: ts).eraseIdx i)) ≤ 1099511627776 := by
      have e1 := (level_all (key := id) ((t :: ts).eraseIdx i)).length_eq
      have e2 := (Tr.allL_perm (List.reverse_perm t'.kids)).length_eq
      have e3 := HSZ.out
      rw [HI.out] at e3
      have e4 := Tr.size_eq t'
      simp only [Tr.sizeL] at *; omega
    have HML := Lib.hid (meld_any _ (Xb X S (S + 2)) m _ t'.kids.reverse (level id ((t :: ts).eraseIdx i)) kvs.reverse us6 v3 v6 w6 hM6 (TreesAt.near2 HS.out hK6.reverse) hT6 hRK hR6 (Nat.le_refl _) hzz)
    have HZZ := Lib.hid (Nat.le_trans (meldT_length_le t'.kids.reverse (level id ((t :: ts).eraseIdx i))) hzz)
    have HM6 := Lib.hid hM6
    have HB6 := Lib.hid hB6
    have hsz6 := hg6.size
    clear hg6 hM6 hT6 hR6 hKO6 hB6 hK6 hRK hzz
    go_wp2_with fail
    refine HML.out.mono ?_
    rintro e w7 ⟨v7, us7, rfl, hg7, hM7, hT7, hR7⟩
    have HG7 := Lib.hid (grown_trans HG6.out hg7)
    have HB7 := Lib.hid (box_of hg7 HB6.out HNR.out)
    have HM7 := Lib.hid hM7
    have HT7 := Lib.hid hT7
    have hl7 := hT7.length
    have HOF := Lib.hid (lof_any (Xb X S (S + 2)) us7 v7 w7 (by rw [hl7]; exact hR7) (fun b hb => hM7.lt b hb) (by rw [hl7]; have := HZZ.out; omega))
    have hsz7 := hg7.size
    clear hg7 hM7 hT7 hR7 hl7
    go_wp2_with fail
    refine HOF.out.mono ?_
    rintro e w8 ⟨q8, rfl, hg8, hc8⟩
    have HG8 := Lib.hid (grown_trans HG7.out (grown_of_none m hg8))
    have HB8 := Lib.hid (box_none hg8 HB7.out)
    have HM8 := Lib.hid (HM7.out.to hg8.size (HM7.out.at_.grown hg8))
    have HT8 := Lib.hid (HT7.out.ext (grown_ext hg8))
    have HC8 := Lib.hid hc8
    have HTB8 := Lib.hid (HTB.out.ext (far_ext HM.out (grown_of_none m HG1.out) HG8.out (by have := hg8.size; omega)))
    have hsz8 := hg8.size
    have HTB9 := Lib.hid (HTB8.out.ext (grown_ext (grown_alloc (grown_refl w8 none) (.cells #[.pointer q8] 64))))
    have hbes : t'.bes.length ≤ 1099511627776 ∧ t'.size ≤ 1099511627776 := by have := Tr.size_eq t'; have := HSZ.out; omega
    have HBES := Lib.hid hbes
    have HC9 := Lib.hid (fun (w9 : World) (hg : (w8.alloc (.cells #[.pointer q8] 64)).grownBy w9 none) => HC8.out.own (hi := w8.heap.size + 1) (grown_trans (World.grownBy_alloc w8 (.cells #[.pointer q8] 64) none) hg))
    clear hg8 hc8 hbes
    go_wp2_with fail
    refine (tbes_any _ t' tb _ HTB9.out HBES.out.2).mono ?_
    rintro e w9 ⟨v9, rfl, hg9, ho9⟩
    obtain ⟨-, p9, c9, rfl, -⟩ := id (RowAt.of_owns (X := fun b => b < (w8.alloc (.cells #[.pointer q8] 64)).heap.size) ho9 (fun b hb => hb))
    have hg89 : w8.grownBy w9 none := grown_trans (World.grownBy_alloc w8 (.cells #[.pointer q8] 64) none) hg9
    have hbo := box_none hg9 (heap_alloc_new w8 (.cells #[.pointer q8] 64))
    have HI0 : Hid (InsInv (Xb X S (S + 2)) m n (meldT id t'.kids.reverse (level id ((t :: ts).eraseIdx i)), (t :: ts).length - 1 + levelN id ((t :: ts).eraseIdx i) + meldTN id t'.kids.reverse (level id ((t :: ts).eraseIdx i))) t'.bes w8.heap.size w8.heap.size (w8.heap.size + 1) w8 0 w9) :=
      Lib.hid ⟨grown_of_none m hg89, ⟨q8, us7, hbo, HC9.out w9 hg9, HT8.out.own HM8.out (grown_of_none m hg89)⟩, by
        have := HM8.out.at_.grown hg89
        simp only [insAll, List.take_zero, List.foldl_nil, List.length_cons]
        rw [show n + ((ts.length + 1 - 1 + levelN id ((t :: ts).eraseIdx i) + meldTN id t'.kids.reverse (level id ((t :: ts).eraseIdx i)) : Nat) : Int) = n + (ts.length : Nat) + (levelN id ((t :: ts).eraseIdx i) : Nat) + (meldTN id t'.kids.reverse (level id ((t :: ts).eraseIdx i)) : Nat) from by omega]
        exact this, Nat.zero_le _⟩
    have HR0 : Hid (RowAt (fun b => m = some b ∨ b = w8.heap.size) 24 2 w9 t'.bes.length (eCells t'.bes) (.slice p9 t'.bes.length c9)) := Lib.hid (RowAt.of_owns ho9 (fun b hb => by
      rcases hb with hb | hb
      · have := HM8.out.lt b (HM8.out.mem b hb); simp; omega
      · simp; omega))
    have HB9 := Lib.hid (box_none hg89 HB8.out)
    have hlS : S + 1 < w8.heap.size := lt_of_heap HB8.out
    have hm8 : m ≠ some w8.heap.size := HM8.out.ne (Nat.le_refl _)
    have HM8n := Lib.hid hm8
    have hbl := HBES.out.1
    clear hg9 ho9 hg89 hbo hm8
    generalize hpp : (meldT id t'.kids.reverse (level id ((t :: ts).eraseIdx i)), (t :: ts).length - 1 + levelN id ((t :: ts).eraseIdx i) + meldTN id t'.kids.reverse (level id ((t :: ts).eraseIdx i))) = P at *
    have HPPP : Hid (Tr.sizeL P.1 + t'.bes.length ≤ 1099511627776) := Lib.hid (by rw [← hpp]; have := HPERM.out; simp only; omega)
    clear hpp
    go_wp2_with fail
    clear hce hil hbb hb2 hkl hsz1 hsz2 hsz3 hsz4 hsz5 hsz6 hsz7 hsz8 hb
    go_loopw [48] (fun j wr => ∃ k : Nat, j = .int .i64 k ∧ InsInv (Xb X S (S + 2)) m n P t'.bes w8.heap.size w8.heap.size (w8.heap.size + 1) w8 k wr ∧ RowAt (fun b => m = some b ∨ b = w8.heap.size) 24 2 wr t'.bes.length (eCells t'.bes) (.slice p9 t'.bes.length c9) ∧
      wr.heap[S + 1]? = some (.cells #[.pointer none] 64 (0, 0))) (fun j _ => t'.bes.length - (intOf j).toNat)
    case atStart => exact ⟨0, rfl, HI0.out, HR0.out, HB9.out⟩
    case round =>
      obtain ⟨k, rfl, hI, hrow, hbS⟩ := hrel
      obtain ⟨q, us, hbx, hcq, htq⟩ := hI.box
      have hk := hI.le
      have c1 := cell_of hbx 0 (v := .pointer q) rfl
      have f1 := frozen_of hbx 0
      have HII := Lib.hid hI
      have HBS := Lib.hid hbS
      have HBX := Lib.hid hbx
      have HCQ := Lib.hid hcq
      have HTQ := Lib.hid htq
      have HROW := Lib.hid hrow
      clear hI hbS hbx hcq htq
      by_cases hlt : k < t'.bes.length
      · obtain ⟨x, hx⟩ : ∃ x, t'.bes[k]? = some x := ⟨t'.bes[k], by simp [hlt]⟩
        obtain ⟨e1, e2⟩ := eCells_get hx
        obtain ⟨bb, off2, rfl, d1⟩ := hrow.cell e1
        obtain ⟨bb', off2', e, d2⟩ := hrow.cell e2
        cases e
        rw [show off2 + 2 * k = off2 + k * 2 from by omega] at d1
        rw [show off2 + (2 * k + 1) = off2 + k * 2 + 1 from by omega] at d2
        have hlt3 : w8.heap.size + 1 ≤ wr.heap.size := by have := lt_of_heap HBX.out; omega
        have hcall := HII.out.call (x := x) rfl HM8.out hlt3 hx HPPP.out (.cells #[.int .i64 x.1, .int .i64 x.2] 24) HBX.out
        have HCALL := Lib.hid hcall
        have HXX := Lib.hid hx
        have hb' := heap_alloc_lt HBX.out (.cells #[.int .i64 x.1, .int .i64 x.2] 24)
        have g1 := cell_of hb' 0 (v := .pointer q) rfl
        clear e1 e2 hrow hb' hcall hx c1 f1
        go_wp2_with fail
        refine HCALL.out.mono ?_
        rintro e w2' ⟨q', rfl, hg2, hm2, hh2⟩
        have HGX := Lib.hid hg2
        have HMX := Lib.hid hm2
        have HHX := Lib.hid hh2
        have hb2 := box_of hg2 HBX.out HM8n.out
        have c1' := cell_of hb2 0 (v := .pointer q) rfl
        have f1' := frozen_of hb2 0
        clear hg2 hm2 hh2 hb2
        go_wp2
        go_roundw
        case rel =>
          refine ⟨k + 1, by go_num, HII.out.step rfl (Nat.le_refl _) (Nat.lt_succ_self _) HM8.out HXX.out HGX.out HMX.out HHX.out, ?_, heap_set_ne (box_of HGX.out HBS.out HNR.out) _ _ (by simp; omega)⟩
          refine RowAt.ext (RowAt.ext HROW.out ?_) (Ext.set w2' (p := ⟨w8.heap.size, 0, none⟩) (.inr rfl) _)
          exact ⟨HGX.out.size, fun b c T fz hX hb => by rw [HGX.out.block b (lt_of_heap hb) (fun e => hX (.inl e.symm))]; exact hb⟩
        case measure => simp [intOf]; omega
      · have e1 := cell_of HBS.out 0 (v := .pointer none) rfl
        have e2 := frozen_of HBS.out 0
        have hr : (wr.setCell ⟨S + 1, 0, none⟩ (.pointer q)).cell? ⟨S + 1, 0, none⟩ = some (.pointer q) := World.cell?_setCell_same' _ _ _ (by rw [e1]; rfl)
        clear hrow
        go_wp2_with fail
        refine bodyPost_ret (v := .tuple #[.agg #[.pointer q], .bool true]) (by simp [results, Tryd.results32, go_sem, hr]) rfl ?_
        obtain rfl : k = t'.bes.length := by omega
        have hS' := HS.out
        have hg := grown_set (grown_trans HG8.out HII.out.gr) (p := ⟨S + 1, 0, none⟩) (by simp; omega) (.pointer q)
        have hx : Ext (Xb (Xb X S (S + 2)) w8.heap.size (w8.heap.size + 1)) wr (wr.setCell ⟨S + 1, 0, none⟩ (.pointer q)) := Ext.set wr (p := ⟨S + 1, 0, none⟩) (.inl (.inr ⟨by simp, by simp⟩)) _
        have hmt := HII.out.mt
        have htq := HTQ.out
        rw [List.take_length, ← HPOP.out] at hmt htq
        rw [HPP.out.1, HPP.out.2]
        refine ⟨_, rfl, hg, HM.out.to hg.size (hmt.set (fun b e h => HNR.out (by rw [e, ← h])) _), q, us, rfl, (HCQ.out.ext hx).back.back, ?_⟩
        exact TreesAt.weak (fun _ hb _ => Xb.left (Xb.left hb)) (htq.ext hx)
end Go.Proofs.YtgdnlolicjdfoaaDoor
