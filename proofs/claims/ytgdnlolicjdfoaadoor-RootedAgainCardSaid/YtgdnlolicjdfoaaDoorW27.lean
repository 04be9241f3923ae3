import Derived.Test.YtgdnlolicjdfoaaDoorW26
/- Show of a tree. -/
namespace Go.Proofs.YtgdnlolicjdfoaaDoor
open Go Go.Proofs Go.RowKit Slag

theorem TreeAt.openFar {w : World} {t : Tr E} {b : Nat} (h : TreeAt (fun _ => False) w t b) : ∃ bv kv, (∀ w', Ext (fun b => w.heap.size ≤ b) w w' → w'.heap[b]? = some (.cells #[.int .i64 t.rank, .int .i64 t.root.1, .int .i64 t.root.2, bv, kv, .int .i64 (t.size : Nat)] 112 (0, 0))) ∧
      RowAt (fun b => w.heap.size ≤ b) 24 2 w t.bes.length (eCells t.bes) bv ∧ ∃ vs, RowAt (fun b => w.heap.size ≤ b) 84 1 w t.kids.length (vs.map pv) kv ∧ TreesAt (fun b => w.heap.size ≤ b) w t.kids vs := by
  obtain ⟨bv, kv, hX, h1, h2, h3, vs, h4, h5⟩ := (h.weak (Y := fun b => w.heap.size ≤ b) (fun b hb hlt => by omega)).open
  exact ⟨bv, kv, fun w' hx => hx.block _ _ _ _ hX h1, h2, vs, h4, h5⟩
theorem Below.of_grown {n : Nat} {a b : World} (h : a.grownBy b none) (hn : n ≤ a.heap.size) : Below n a b := ⟨h.os, h.tape, h.output, h.size, fun k hk => h.block k (Nat.lt_of_lt_of_le hk hn) (by simp)⟩
def bT (t : Tr E) (k : Nat) : List UInt8 := 40 :: eText t.root ++ (t.bes.take k).flatMap (fun y => 32 :: 43 :: eText y)
theorem bT_zero (t : Tr E) : bT t 0 = 40 :: eText t.root := by simp [bT]
theorem bT_succ {t : Tr E} {k : Nat} {x : E} (h : t.bes[k]? = some x) : bT t (k + 1) = bT t k ++ (32 :: 43 :: eText x) := by
  obtain ⟨hk, rfl⟩ := List.getElem?_eq_some_iff.1 h
  rw [bT, List.take_succ_eq_append_getElem hk, List.flatMap_append]; simp [bT]
theorem bT_le {t : Tr E} (h : ∀ x ∈ t.all, ShortE x) (k : Nat) (hk : k ≤ t.bes.length) : (bT t k).length ≤ 44 + 45 * k := by
  have h1 := eText_le (h t.root (Tr.root_mem t))
  have h2 := bText_le (l := t.bes.take k) (fun y hy => h y (by rw [Tr.all_eq]; have := List.mem_of_mem_take hy; simp [this]))
  simp only [bT, List.length_append, List.length_cons, List.length_take] at *
  rw [Nat.min_eq_left hk] at h2; omega
def kT (t : Tr E) (k : Nat) : List UInt8 := bT t t.bes.length ++ kText (t.kids.take k)
theorem kT_zero (t : Tr E) : kT t 0 = bT t t.bes.length := by simp [kT, kText_nil]
theorem kT_succ {t : Tr E} {k : Nat} {u : Tr E} (h : t.kids[k]? = some u) : kT t (k + 1) = kT t k ++ (32 :: tText u) := by
  obtain ⟨hk, rfl⟩ := List.getElem?_eq_some_iff.1 h
  rw [kT, List.take_succ_eq_append_getElem hk, kText_append, kText_cons, kText_nil, kT]; simp
theorem kT_all (t : Tr E) : kT t t.kids.length ++ [41] = tText t := by
  rw [kT, bT, List.take_length, List.take_length, tText_eq]; simp
theorem kT_le (t : Tr E) (k : Nat) : (kT t k).length + 1 ≤ (tText t).length := by
  rw [← kT_all t, kT, kT, List.take_length]
  have : kText t.kids = kText (t.kids.take k) ++ kText (t.kids.drop k) := by rw [← kText_append, List.take_append_drop]
  rw [this]; simp; omega
theorem kid_size {t u : Tr E} {j : Nat} (h : t.kids[j]? = some u) : u.size + 1 ≤ t.size ∧ ∀ x ∈ u.all, x ∈ t.all := by
  have hm := List.mem_of_getElem? h
  refine ⟨?_, fun x hx => by rw [Tr.all_eq]; have := Tr.mem_allL.2 ⟨u, hm, hx⟩; simp [this]⟩
  have h1 := size_le_of_get h
  have := Tr.size_eq t; omega
set_option maxRecDepth 100000 in
set_option maxHeartbeats 4000000 in
theorem tshow_any (k : Nat) : ∀ (t : Tr E) (tb : Nat) (w : World), TreeAt (fun _ => False) w t tb → t.size ≤ k → t.size ≤ 1099511627776 → (∀ x ∈ t.all, ElOk w x) →
    Calls Tryd.prog 64 #[.pointer (some ⟨tb, 0, none⟩)] w fun e w' => e = .returned (.string ⟨(tText t).toArray⟩) ∧ w.grownBy w' none := by
  induction k with
  | zero => intro t tb w _ h; have := Tr.size_pos t; omega
  | succ k ih =>
    intro t tb w ht hk hn hok
    have HIH := Lib.hid ih
    obtain ⟨bv, kv, hcell, hbes, kvs, hkids, hks⟩ := ht.openFar
    obtain ⟨-, pb, cb, rfl, -⟩ := id hbes
    obtain ⟨-, pk, ck, rfl, -⟩ := id hkids
    have HOK := Lib.hid hok
    have HSH : Hid (∀ x ∈ t.all, ShortE x) := Lib.hid (fun x hx => ⟨(hok x hx).1.1, (hok x hx).2.1⟩)
    have HLEN := Lib.hid (tText_le t HSH.out)
    have hkm := fun x y w => key_method 271 x y w
    have HC := Lib.hid (fun (w' : World) (hb : Below w.heap.size w w') =>
      (⟨cell_of (hcell w' (below_ext hb)) 1 rfl, cell_of (hcell w' (below_ext hb)) 2 rfl, cell_of (hcell w' (below_ext hb)) 3 rfl, cell_of (hcell w' (below_ext hb)) 4 rfl⟩ :
        w'.cell? ⟨tb, 1, none⟩ = some (.int .i64 t.root.1) ∧ w'.cell? ⟨tb, 2, none⟩ = some (.int .i64 t.root.2) ∧ w'.cell? ⟨tb, 3, none⟩ = some (.slice pb t.bes.length cb) ∧ w'.cell? ⟨tb, 4, none⟩ = some (.slice pk t.kids.length ck)))
    have HBES := Lib.hid hbes
    have HKIDS := Lib.hid hkids
    have HKS := Lib.hid hks
    have HB0 := Lib.hid (Lib.fresh_isBuilder 128 5 w)
    have HL0 : Hid (Below w.heap.size w (w.alloc (.cells #[.pointer none, .slice none 0 0] 128))) := Lib.hid ((Below.refl _ w).alloc (Nat.le_refl _) _)
    obtain ⟨q1, q2, q3, q4⟩ := HC.out _ HL0.out
    obtain ⟨sr, hsr⟩ : ∃ sr : ByteArray, sr = ⟨(eText t.root).toArray⟩ := ⟨_, rfl⟩
    have hsrl : sr.size ≤ 43 := by rw [hsr]; simpa [ByteArray.size] using eText_le (HSH.out t.root (Tr.root_mem t))
    have HSR := Lib.hid hsr
    have HET := Lib.hid (fun (w' : World) (hb : Below w.heap.size w w') => etext_any t.root w' ((hok t.root (Tr.root_mem t)).later (below_grown hb none)))
    have z1 : ¬ (9223372036854775807 < 1 + sr.size) := by omega
    clear ih ht hok hcell hbes hkids hks hsr
    go_enter Tryd.func64, Tryd.ntmps64
    go_wp2_with fail
    refine (ekey2 t.root.1 t.root.2 _).mono ?_
    rintro e w1 ⟨rfl, hg1⟩
    have HL1 := Lib.hid (HL0.out.trans (Below.of_grown hg1 (by simp)))
    have HB1 := Lib.hid (builder_keep HB0.out hg1)
    clear hg1
    go_wp2_with fail
    refine (HET.out _ HL1.out).mono ?_
    rintro e w2 ⟨rfl, hg2⟩
    rw [← HSR.out]
    have HL2 := Lib.hid (HL1.out.trans (Below.of_grown hg2 HL1.out.size))
    have HB2 := Lib.hid (builder_keep HB1.out hg2)
    have HZ1 : Hid ((⟨#[40]⟩ : ByteArray) ++ sr = ⟨(40 :: eText t.root).toArray⟩) := Lib.hid (by rw [HSR.out]; simp [ByteArray.ext_iff])
    clear hg2
    go_wp2_with fail
    refine (write_bytes w.heap.size w.heap.size [] (40 :: eText t.root) _ w2 HZ1.out HB2.out (by have := eText_le (HSH.out t.root (Tr.root_mem t)); simp; omega) HL2.out.size).mono ?_
    rintro e w3 ⟨rfl, hb3, hl3⟩
    have HB3 := Lib.hid hb3
    have HL3 := Lib.hid (HL2.out.trans hl3)
    obtain ⟨r1, r2, r3, r4⟩ := HC.out _ HL3.out
    clear hb3 hl3 q1 q2 q3 q4
    have HB30 : Hid (Lib.IsBuilder 128 5 w.heap.size w.heap.size (Lib.byteCells (bT t 0)) w3) := Lib.hid (by rw [bT_zero]; exact HB3.out)
    have hbl : t.bes.length ≤ 1099511627776 ∧ t.bes.length + 1 ≤ t.size := by have := Tr.size_eq t; omega
    obtain ⟨hbl, hbl2⟩ := hbl
    go_wp2_with fail
    go_loopw [24] (fun i wr => ∃ j : Nat, j ≤ t.bes.length ∧ i = .int .i64 j ∧ Hid (Below w.heap.size w wr) ∧ Hid (Lib.IsBuilder 128 5 w.heap.size w.heap.size (Lib.byteCells (bT t j)) wr)) (fun i _ => t.bes.length - (intOf i).toNat)
    case atStart => exact ⟨0, Nat.zero_le _, rfl, HL3, HB30⟩
    case round =>
      obtain ⟨j, hj, rfl, HLr, HBr⟩ := hrel
      obtain ⟨r1, r2, r3, r4⟩ := HC.out _ HLr.out
      by_cases hlt : j < t.bes.length
      · obtain ⟨x, hx⟩ : ∃ x, t.bes[j]? = some x := ⟨t.bes[j], by simp [hlt]⟩
        obtain ⟨e1, e2⟩ := eCells_get hx
        have hrow := HBES.out.ext (below_ext HLr.out)
        obtain ⟨b, off, rfl, d1⟩ := hrow.cell e1
        obtain ⟨b', off', e, d2⟩ := hrow.cell e2
        cases e
        rw [show off + 2 * j = off + j * 2 from by omega] at d1
        rw [show off + (2 * j + 1) = off + j * 2 + 1 from by omega] at d2
        have hmem : x ∈ t.all := by rw [Tr.all_eq]; have := List.mem_of_getElem? hx; simp [this]
        obtain ⟨sx, hsx⟩ : ∃ sx : ByteArray, sx = ⟨(eText x).toArray⟩ := ⟨_, rfl⟩
        have hsxl : sx.size ≤ 43 := by rw [hsx]; simpa [ByteArray.size] using eText_le (HSH.out x hmem)
        have HSX := Lib.hid hsx
        have HEX := Lib.hid (fun (w' : World) (hb : Below w.heap.size w w') => etext_any x w' ((HOK.out x hmem).later (below_grown hb none)))
        have z2 : ¬ (9223372036854775807 < 2 + sx.size) := by omega
        have HLA := Lib.hid (HLr.out.alloc HLr.out.size (.cells #[.int .i64 x.1, .int .i64 x.2] 24))
        have HBA := Lib.hid (builder_keep HBr.out (World.grownBy_alloc wr (.cells #[.int .i64 x.1, .int .i64 x.2] 24) none))
        have HBT := Lib.hid (bT_succ hx)
        have HXL := Lib.hid (eText_le (HSH.out x hmem))
        clear e1 e2 hrow hx hmem hsx
        go_wp2_with fail
        refine (ekey2 x.1 x.2 _).mono ?_
        rintro e w4 ⟨rfl, hg4⟩
        have HL4 := Lib.hid (HLA.out.trans (Below.of_grown hg4 HLA.out.size))
        have HB4 := Lib.hid (builder_keep HBA.out hg4)
        clear hg4
        go_wp2_with fail
        refine (HEX.out _ HL4.out).mono ?_
        rintro e w5 ⟨rfl, hg5⟩
        rw [← HSX.out]
        have HL5 := Lib.hid (HL4.out.trans (Below.of_grown hg5 HL4.out.size))
        have HB5 := Lib.hid (builder_keep HB4.out hg5)
        have HZ2 : Hid ((⟨#[32, 43]⟩ : ByteArray) ++ sx = ⟨(32 :: 43 :: eText x).toArray⟩) := Lib.hid (by rw [HSX.out]; simp [ByteArray.ext_iff])
        clear hg5
        go_wp2_with fail
        refine (write_bytes w.heap.size w.heap.size (bT t j) (32 :: 43 :: eText x) _ w5 HZ2.out HB5.out (by have := bT_le HSH.out j (by omega); have := HXL.out; simp; omega) HL5.out.size).mono ?_
        rintro e w6 ⟨rfl, hb6, hl6⟩
        have HB6 : Hid (Lib.IsBuilder 128 5 w.heap.size w.heap.size (Lib.byteCells (bT t (j + 1))) w6) := Lib.hid (by rw [HBT.out]; exact hb6)
        have HL6 := Lib.hid (HL5.out.trans hl6)
        clear hb6 hl6
        go_wp2_with fail
        go_roundw
        case rel => exact ⟨j + 1, by omega, by go_num, HL6, HB6⟩
        case measure => simp [intOf]; omega
      · obtain rfl : j = t.bes.length := by omega
        have hkl : t.kids.length ≤ 1099511627776 := by have := Tr.length_le_sizeL t.kids; have := Tr.size_eq t; omega
        have HBr0 : Hid (Lib.IsBuilder 128 5 w.heap.size w.heap.size (Lib.byteCells (kT t 0)) wr) := Lib.hid (by rw [kT_zero]; exact HBr.out)
        go_wp2_with fail
        go_loopw [40] (fun i wk => ∃ j : Nat, j ≤ t.kids.length ∧ i = .int .i64 j ∧ Hid (Below w.heap.size w wk) ∧ Hid (Lib.IsBuilder 128 5 w.heap.size w.heap.size (Lib.byteCells (kT t j)) wk)) (fun i _ => t.kids.length - (intOf i).toNat)
        case atStart => exact ⟨0, Nat.zero_le _, rfl, HLr, HBr0⟩
        case round =>
          obtain ⟨j, hj, rfl, HLk, HBk⟩ := hrel
          by_cases hlt2 : j < t.kids.length
          · obtain ⟨u, hu⟩ : ∃ u, t.kids[j]? = some u := ⟨t.kids[j], by simp [hlt2]⟩
            obtain ⟨b, off, ub, rfl, -, hcell, hut⟩ := row_get HKIDS.out HKS.out hu
            have d1 := hcell _ (below_ext HLk.out)
            obtain ⟨hus, hum⟩ := kid_size hu
            obtain ⟨su, hsu⟩ : ∃ su : ByteArray, su = ⟨(tText u).toArray⟩ := ⟨_, rfl⟩
            have hul := tText_le u (fun x hx => HSH.out x (hum x hx))
            have hsul : su.size ≤ 65970697666560 := by rw [hsu]; simp only [ByteArray.size, List.size_toArray]; omega
            have HSU := Lib.hid hsu
            have z2 : ¬ (9223372036854775807 < 1 + su.size) := by omega
            have HSHOW := Lib.hid (HIH.out u ub _ (TreeAt.weak (fun _ h _ => h.elim) (hut.ext (below_ext HLk.out))) (by omega) (by omega) (fun x hx => (HOK.out x (hum x hx)).later (below_grown HLk.out none)))
            have HKT := Lib.hid (kT_succ hu)
            have HKL := Lib.hid (kT_le t (j + 1))
            clear hu hcell hut hus hum hul hsu
            go_wp2_with fail
            refine HSHOW.out.mono ?_
            rintro e w5 ⟨rfl, hg5⟩
            rw [← HSU.out]
            have HL5 := Lib.hid (HLk.out.trans (Below.of_grown hg5 HLk.out.size))
            have HB5 := Lib.hid (builder_keep HBk.out hg5)
            have HZ2 : Hid ((⟨#[32]⟩ : ByteArray) ++ su = ⟨(32 :: tText u).toArray⟩) := Lib.hid (by rw [HSU.out]; simp [ByteArray.ext_iff])
            clear hg5
            go_wp2_with fail
            refine (write_bytes w.heap.size w.heap.size (kT t j) (32 :: tText u) _ w5 HZ2.out HB5.out (by have := HKL.out; rw [HKT.out, List.length_append] at this; have := HLEN.out; omega) HL5.out.size).mono ?_
            rintro e w6 ⟨rfl, hb6, hl6⟩
            have HB6 : Hid (Lib.IsBuilder 128 5 w.heap.size w.heap.size (Lib.byteCells (kT t (j + 1))) w6) := Lib.hid (by rw [HKT.out]; exact hb6)
            have HL6 := Lib.hid (HL5.out.trans hl6)
            clear hb6 hl6
            go_wp2_with fail
            go_roundw
            case rel => exact ⟨j + 1, by omega, by go_num, HL6, HB6⟩
            case measure => simp [intOf]; omega
          · obtain rfl : j = t.kids.length := by omega
            have HKA := Lib.hid (kT_all t)
            have HKL := Lib.hid (kT_le t t.kids.length)
            go_wp2_with fail
            refine (write_bytes w.heap.size w.heap.size (kT t t.kids.length) [41] _ _ rfl HBk.out (by have := HKL.out; have := HLEN.out; simp; omega) HLk.out.size).mono ?_
            rintro e w6 ⟨rfl, hb6, hl6⟩
            rw [HKA.out] at hb6
            have HB6 := Lib.hid hb6
            have HL6 := Lib.hid (HLk.out.trans hl6)
            clear hb6 hl6
            go_wp2_with fail
            refine (Tryd.Builder_String_any w.heap.size w.heap.size (tText t) w6 HB6.out HL6.out.size).mono ?_
            rintro e w7 ⟨rfl, hl7⟩
            have HL7 := Lib.hid (HL6.out.trans hl7)
            clear hl7
            go_wp2
            go_ret
            exact ⟨rfl, below_grown HL7.out none⟩
end Go.Proofs.YtgdnlolicjdfoaaDoor
