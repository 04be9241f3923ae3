import Derived.Test.YtgdnlolicjdfoaaDoorW9
/- Skew. -/
namespace Go.Proofs.YtgdnlolicjdfoaaDoor
open Go Go.Proofs Go.RowKit Slag

theorem TreeAt.own {X : Nat → Prop} {w W : World} {t : Tr E} {b : Nat} {hi : Nat} {m : Option Nat} {n : Int} (h : TreeAt X w t b) (hm : Mt X w m n) (hx : w.grownBy W m) : TreeAt (Xb X w.heap.size hi) W t b :=
  TreeAt.ext ((hm.ext hx).weak (fun _ h => .inl h)) (TreeAt.weak (X := X) (fun b hb hlt => by
    rcases hb with hb | hb
    · exact hb
    · omega) h)
theorem TreeAt.back {X : Nat → Prop} {w : World} {t : Tr E} {b lo hi : Nat} (h : TreeAt (Xb X lo hi) w t b) : TreeAt X w t b := h.weak (fun _ hb _ => Xb.left hb)
theorem Mt.back {X : Nat → Prop} {w W : World} {m : Option Nat} {n k : Int} {Y : Nat → Prop} (h : Mt X w m n) (hs : w.heap.size ≤ W.heap.size) (hk : Mt Y W m k) : Mt X W m k := h.to hs hk.at_
theorem skew_half (X : Nat → Prop) (m : Option Nat) (n : Int) (t : Tr E) (r1 : Nat) (y z : E) (w : World) (ht : TreeAt X w t r1) (hn : t.size + 1 ≤ 1099511627776) :
    ∃ pb cb pk nk ck, (∀ w', Ext X w w' → (w'.cell? ⟨r1, 0, none⟩ = some (.int .i64 t.rank) ∧ w'.cell? ⟨r1, 3, none⟩ = some (.slice pb t.bes.length cb) ∧ w'.cell? ⟨r1, 4, none⟩ = some (.slice pk nk ck))) ∧
      (∀ w', Ext X w w' → Calls Tryd.prog 76 #[.agg #[.int .i64 z.1, .int .i64 z.2], .slice pb t.bes.length cb] w' fun e w'' => ∃ v', e = .returned v' ∧ w'.grownBy w'' none ∧ w''.ownsRow w'.heap.size 24 2 v' (t.bes.length + 1) (eCells (z :: t.bes))) ∧
      (∀ w' v base, Ext X w w' → Mt X w' m n → (∀ b, X b → b < base) → w'.ownsRow base 24 2 v (t.bes.length + 1) (eCells (z :: t.bes)) →
        Calls Tryd.prog 75 #[mval m, .agg #[.int .i64 t.rank, .int .i64 y.1, .int .i64 y.2, v, .slice pk nk ck, .int .i64 0]] w' fun e w'' => ∃ r, e = .returned (.pointer (some ⟨r, 0, none⟩)) ∧ w'.grownBy w'' m ∧ Mt X w'' m (n + 1) ∧ TreeAt X w'' (.mk t.rank y (z :: t.bes) t.kids) r) := by
  obtain ⟨bv, kv, hX, hc, hbs, hr, kvs, hk, hks⟩ := ht.open
  obtain ⟨-, pk, ck, rfl, -⟩ := id hk
  obtain ⟨-, pb, cb, rfl, -⟩ := id hbs
  have hsz := Tr.size_eq t
  refine ⟨pb, cb, pk, _, ck, fun w' hx => ⟨cell_of (hx.block _ _ _ _ hX hc) 0 rfl, cell_of (hx.block _ _ _ _ hX hc) 3 rfl, cell_of (hx.block _ _ _ _ hX hc) 4 rfl⟩, fun w' hx => ?_, fun w' v base hx hm hXb hown => ?_⟩
  · exact aheadE_any X z t.bes _ w' (hbs.ext hx) (by omega)
  · have hsz2 : (Tr.mk t.rank y (z :: t.bes) t.kids).size = t.size + 1 := by rw [Tr.size_eq, hsz]; simp [Tr.bes, Tr.kids]; omega
    refine tmade2 X m n (.mk t.rank y (z :: t.bes) t.kids) kvs _ _ _ v _ w' hm rfl rfl rfl (RowAt.of_owns hown hXb) (hk.ext hx) (hks.ext hx) ?_ (by rw [hsz2]; exact hn)
    rw [hsz2]; show t.rank < t.size + 1; omega
theorem link_size (a b : Tr E) : (link id a b).size = a.size + b.size := by
  have := (link_all (key := id) a b).length_eq; simpa [Tr.size] using this
set_option maxRecDepth 100000 in
set_option maxHeartbeats 2000000 in
theorem skew_any (X : Nat → Prop) (m : Option Nat) (n : Int) (x : E) (a b : Tr E) (ba bb : Nat) (w : World) (hm : Mt X w m n) (ha : TreeAt X w a ba) (hb : TreeAt X w b bb) (hn : a.size + b.size + 1 ≤ 1099511627776) :
    Calls Tryd.prog 59 #[mval m, elV x, .pointer (some ⟨ba, 0, none⟩), .pointer (some ⟨bb, 0, none⟩)] w fun e w' => ∃ r, e = .returned (.pointer (some ⟨r, 0, none⟩)) ∧ w.grownBy w' m ∧ Mt X w' m (n + 4) ∧ TreeAt X w' (skewT id x a b) r := by
  have hg0 := World.grownBy_alloc w (.cells #[.int .i64 x.1, .int .i64 x.2] 24) m
  have hM0 : Mt (Xb X w.heap.size (w.heap.size + 1)) (w.alloc (.cells #[.int .i64 x.1, .int .i64 x.2] 24)) m n := hm.own hg0.size (by simp) (hm.at_.alloc _)
  have hC := link_any (Xb X w.heap.size (w.heap.size + 1)) m n a b ba bb _ hM0 (ha.own hm hg0) (hb.own hm hg0) (by omega)
  have HM := Lib.hid hm
  have HC := Lib.hid hC
  have HG0 := Lib.hid hg0
  have HLS := Lib.hid (link_size a b)
  have HSK : Hid (skewT id x a b = if less (link id a b).root x then .mk (link id a b).rank (link id a b).root (x :: (link id a b).bes) (link id a b).kids else .mk (link id a b).rank x ((link id a b).root :: (link id a b).bes) (link id a b).kids) := Lib.hid rfl
  generalize hsk : skewT id x a b = sk at *
  generalize hlk : link id a b = t at *
  have hn1 : t.size + 1 ≤ 1099511627776 := by rw [HLS.out]; exact hn
  clear hm ha hb hg0 hM0 hC hsk hlk hn
  unfold elV
  have hkm := fun x y w => key_method 271 x y w
  go_enter Tryd.func59, Tryd.ntmps59
  go_wp2_with fail
  refine HC.out.mono ?_
  rintro e w1 ⟨r1, rfl, hg1, hM1, ht⟩
  have hgg1 := grown_trans HG0.out hg1
  have hbx := box_of hg1 (heap_alloc_new w _) (HM.out.ne (Nat.le_refl _))
  obtain ⟨bv, kv, hXr, hcr, -⟩ := ht.open
  have q1 := cell_of hcr 1 rfl
  have q2 := cell_of hcr 2 rfl
  have HT := Lib.hid ht
  have HM1 := Lib.hid hM1
  have HG1 := Lib.hid hgg1
  have HBX := Lib.hid hbx
  have HCR := Lib.hid hcr
  have HXR := Lib.hid hXr
  clear ht hM1 hgg1 hbx hcr hXr hg1
  go_wp2
  have HG2 := Lib.hid (World.grownBy_alloc w1 (.cells #[.int .i64 t.root.1, .int .i64 t.root.2] 24) m)
  have HM2 : Hid (Mt (Xb (Xb X w.heap.size (w.heap.size + 1)) w1.heap.size (w1.heap.size + 1)) (w1.alloc (.cells #[.int .i64 t.root.1, .int .i64 t.root.2] 24)) m (n + 2)) := Lib.hid (HM1.out.own HG2.out.size (by simp) (HM1.out.at_.alloc _))
  have HT2 : Hid (TreeAt (Xb (Xb X w.heap.size (w.heap.size + 1)) w1.heap.size (w1.heap.size + 1)) (w1.alloc (.cells #[.int .i64 t.root.1, .int .i64 t.root.2] 24)) t r1) := Lib.hid (HT.out.own HM1.out HG2.out)
  have HB5 := Lib.hid (heap_alloc_lt HBX.out (.cells #[.int .i64 t.root.1, .int .i64 t.root.2] 24))
  have HB10 := Lib.hid (heap_alloc_new w1 (.cells #[.int .i64 t.root.1, .int .i64 t.root.2] 24))
  have hlt1 : w.heap.size < w1.heap.size := lt_of_heap HBX.out
  have HLT1 := Lib.hid hlt1
  have HNE5 : Hid (m ≠ some w.heap.size) := Lib.hid (HM.out.ne (Nat.le_refl _))
  have HNE10 : Hid (m ≠ some w1.heap.size) := Lib.hid (HM1.out.ne (Nat.le_refl _))
  generalize hw2 : w1.alloc (.cells #[.int .i64 t.root.1, .int .i64 t.root.2] 24) = w2 at *
  clear hw2 q1 q2 hlt1
  have hS : ∀ w', w2.grownBy w' m → (w'.cell? ⟨r1, 1, none⟩ = some (.int .i64 t.root.1) ∧ w'.cell? ⟨r1, 2, none⟩ = some (.int .i64 t.root.2) ∧ w'.cell? ⟨w.heap.size, 0, none⟩ = some (.int .i64 x.1) ∧ w'.cell? ⟨w.heap.size, 1, none⟩ = some (.int .i64 x.2)) := fun w' hg => by
    obtain ⟨_, _, hX, hc, -⟩ := (HT2.out.ext (HM2.out.ext hg)).open
    have hb := box_of hg HB5.out HNE5.out
    exact ⟨cell_of hc 1 rfl, cell_of hc 2 rfl, cell_of hb 0 rfl, cell_of hb 1 rfl⟩
  have HS := Lib.hid hS
  clear hS
  have hS0 := HS.out w2 (grown_refl _ _)
  go_region_held3 (fun w' => w'.cell? ⟨r1, 1, none⟩ = some (.int .i64 t.root.1) ∧ w'.cell? ⟨r1, 2, none⟩ = some (.int .i64 t.root.2) ∧ w'.cell? ⟨w.heap.size, 0, none⟩ = some (.int .i64 x.1) ∧ w'.cell? ⟨w.heap.size, 1, none⟩ = some (.int .i64 x.2))
    (first | exact HS.out _ hh5 | exact HS.out _ hh4 | exact HS.out _ hh3 | exact HS.out _ (grown_drew (grown_refl _ _)) | exact HS.out _ (grown_refl _ _))
    (first
      | (go_at_call_of 118 (Value.agg #[Value.int IntKind.i64 t.root.1, Value.int IntKind.i64 t.root.2]); refine (ekey2 t.root.1 t.root.2 _).mono ?_; rintro e w3 ⟨rfl, hg3⟩; have hh3 := grown_of_none m (grown_trans (grown_drew (grown_refl w2 none)) hg3))
      | (go_at_call_of 118 (Value.agg #[Value.int IntKind.i64 x.1, Value.int IntKind.i64 x.2]); refine (ekey2 x.1 x.2 _).mono ?_; rintro e w4 ⟨rfl, hg4⟩; have hh4 := grown_trans hh3 (grown_of_none m hg4))
      | (go_at_call 34; refine (mless2 m (n + 2) t.root x _ ?_).mono ?_; exact HM2.out.at_.keep (fun b e hb => by rw [hg4.block b (Nat.lt_of_lt_of_le hb hg3.size) (by simp), hg3.block b hb (by simp)]; rfl); rintro e w5 ⟨rfl, hg5, hm5⟩; have hh5 := grown_trans hh4 hg5))
  rename_i hHeld
  clear hHeld hS0
  have HH5 := Lib.hid hh5
  have HM5 := Lib.hid (HM2.out.to hh5.size hm5)
  have hb5 := box_of hh5 HB5.out HNE5.out
  have hb10 := box_of hh5 HB10.out HNE10.out
  have HBB5 := Lib.hid hb5
  have HBB10 := Lib.hid hb10
  have c50 := cell_of hb5 0 (v := .int .i64 x.1) rfl
  have c51 := cell_of hb5 1 (v := .int .i64 x.2) rfl
  have c100 := cell_of hb10 0 (v := .int .i64 t.root.1) rfl
  have c101 := cell_of hb10 1 (v := .int .i64 t.root.2) rfl
  have z50 := frozen_of hb5 0
  have z51 := frozen_of hb5 1
  have z100 := frozen_of hb10 0
  have z101 := frozen_of hb10 1
  have hne : ¬ w.heap.size = w1.heap.size := by have := HLT1.out; omega
  have hne' : ¬ w1.heap.size = w.heap.size := by have := HLT1.out; omega
  clear hh5 hm5 hb5 hb10 hh4 hh3 hg3 hg4 hg5
  generalize hl : less t.root x = l
  have HL := Lib.hid hl
  clear hl
  cases l with
  | true =>
    go_wp2_with fail
    have HT6 : Hid (TreeAt (Xb (Xb X w.heap.size (w.heap.size + 1)) w1.heap.size (w1.heap.size + 1)) w5 t r1) := Lib.hid (HT2.out.ext (HM2.out.ext HH5.out))
    have HM6 : Hid (Mt (Xb (Xb X w.heap.size (w.heap.size + 1)) w1.heap.size (w1.heap.size + 1)) w5 m (n + 3)) := Lib.hid (by rw [show n + 3 = n + 2 + 1 from by omega]; exact HM5.out)
    have HG6 : Hid (w.grownBy w5 m) := Lib.hid (grown_trans HG1.out (grown_trans HG2.out HH5.out))
    have HB56 := HBB5
    have HB106 := HBB10
    generalize w5 = w6 at *
    obtain ⟨pb, cb, pk, nk, ck, hS6, hA6, hT6⟩ := skew_half _ m (n + 3) t r1 t.root x w6 HT6.out hn1
    have hS7 : ∀ w', w6.grownBy w' m → (w'.cell? ⟨r1, 0, none⟩ = some (.int .i64 t.rank) ∧ w'.cell? ⟨r1, 3, none⟩ = some (.slice pb t.bes.length cb) ∧ w'.cell? ⟨r1, 4, none⟩ = some (.slice pk nk ck) ∧
        w'.cell? ⟨w.heap.size, 0, none⟩ = some (.int .i64 x.1) ∧ w'.cell? ⟨w.heap.size, 1, none⟩ = some (.int .i64 x.2) ∧ w'.cell? ⟨w1.heap.size, 0, none⟩ = some (.int .i64 t.root.1) ∧ w'.cell? ⟨w1.heap.size, 1, none⟩ = some (.int .i64 t.root.2)) := fun w' hg => by
      obtain ⟨h1, h2, h3⟩ := hS6 w' (HM6.out.ext hg)
      have hb5 := box_of hg HB56.out HNE5.out
      have hb10 := box_of hg HB106.out HNE10.out
      exact ⟨h1, h2, h3, cell_of hb5 0 rfl, cell_of hb5 1 rfl, cell_of hb10 0 rfl, cell_of hb10 1 rfl⟩
    have HS7 := Lib.hid hS7
    have HA6 := Lib.hid hA6
    have HT66 := Lib.hid hT6
    have hS0 := hS7 w6 (grown_refl _ _)
    clear hS6 hS7 hA6 hT6
    go_region_held3 (fun w' => w'.cell? ⟨r1, 0, none⟩ = some (.int .i64 t.rank) ∧ w'.cell? ⟨r1, 3, none⟩ = some (.slice pb t.bes.length cb) ∧ w'.cell? ⟨r1, 4, none⟩ = some (.slice pk nk ck) ∧
        w'.cell? ⟨w.heap.size, 0, none⟩ = some (.int .i64 x.1) ∧ w'.cell? ⟨w.heap.size, 1, none⟩ = some (.int .i64 x.2) ∧ w'.cell? ⟨w1.heap.size, 0, none⟩ = some (.int .i64 t.root.1) ∧ w'.cell? ⟨w1.heap.size, 1, none⟩ = some (.int .i64 t.root.2))
      (first | exact HS7.out _ hh8 | exact HS7.out _ hh7 | exact HS7.out _ (grown_drew (grown_refl _ _)) | exact HS7.out _ (grown_refl _ _))
      (first
        | (go_at_call 76; refine (HA6.out _ (Ext.drew _ _)).mono ?_; rintro e w7 ⟨v7, rfl, hg7, hown7⟩; obtain ⟨g7, cap7, rfl⟩ := ownsRow_succ hown7; have hh7 := grown_of_none m (grown_trans (grown_drew (grown_refl w6 none)) hg7); have hm7 := HM6.out.to hh7.size (HM6.out.at_.keep (fun b _ hb => by rw [hg7.block b hb (by simp)]; rfl)))
        | (go_at_call 75; refine (HT66.out _ _ _ (HM6.out.ext hh7) hm7 (fun b hb => HM6.out.lt b hb) hown7).mono ?_; rintro e w8 ⟨r8, rfl, hg8, hm8, ht8⟩; have hh8 := grown_trans hh7 hg8))
    have HM8 := Lib.hid hm8
    have HT8 := Lib.hid ht8
    have HH8 := Lib.hid hh8
    clear hm8 ht8 hh8
    go_wp2
    go_ret
    refine ⟨r8, rfl, grown_trans HG6.out HH8.out, HM.out.to (grown_trans HG6.out HH8.out).size (by rw [show n + 4 = n + 3 + 1 from by omega]; exact HM8.out.at_), ?_⟩
    rw [HSK.out]
    simp only [HL.out]
    exact HT8.out.back.back
  | false =>
    go_wp2_with fail
    have hx6 : Ext (Xb (Xb X w.heap.size (w.heap.size + 1)) w1.heap.size (w1.heap.size + 1)) w5 ((((w5.setCell ⟨w1.heap.size, 0, none⟩ (.int .i64 x.1)).setCell ⟨w1.heap.size, 1, none⟩ (.int .i64 x.2)).setCell ⟨w.heap.size, 0, none⟩ (.int .i64 t.root.1)).setCell ⟨w.heap.size, 1, none⟩ (.int .i64 t.root.2)) :=
      (((Ext.set _ (Xb.own (by simp) (by simp)) _).trans (Ext.set _ (Xb.own (by simp) (by simp)) _)).trans (Ext.set _ (Xb.left (Xb.own (by simp) (by simp))) _)).trans (Ext.set _ (Xb.left (Xb.own (by simp) (by simp))) _)
    have HT6 := Lib.hid ((HT2.out.ext (HM2.out.ext HH5.out)).ext hx6)
    have HM6 : Hid (Mt (Xb (Xb X w.heap.size (w.heap.size + 1)) w1.heap.size (w1.heap.size + 1)) ((((w5.setCell ⟨w1.heap.size, 0, none⟩ (.int .i64 x.1)).setCell ⟨w1.heap.size, 1, none⟩ (.int .i64 x.2)).setCell ⟨w.heap.size, 0, none⟩ (.int .i64 t.root.1)).setCell ⟨w.heap.size, 1, none⟩ (.int .i64 t.root.2)) m (n + 3)) :=
      Lib.hid (HM5.out.to hx6.size (by rw [show n + 3 = n + 2 + 1 from by omega]; exact (((HM5.out.at_.set (fun b e h => HNE10.out (by rw [e, ← h])) _).set (fun b e h => HNE10.out (by rw [e, ← h])) _).set (fun b e h => HNE5.out (by rw [e, ← h])) _).set (fun b e h => HNE5.out (by rw [e, ← h])) _))
    have HG6 : Hid (w.grownBy ((((w5.setCell ⟨w1.heap.size, 0, none⟩ (.int .i64 x.1)).setCell ⟨w1.heap.size, 1, none⟩ (.int .i64 x.2)).setCell ⟨w.heap.size, 0, none⟩ (.int .i64 t.root.1)).setCell ⟨w.heap.size, 1, none⟩ (.int .i64 t.root.2)) m) :=
      Lib.hid (grown_set (grown_set (grown_set (grown_set (grown_trans HG1.out (grown_trans HG2.out HH5.out)) (by have := HLT1.out; simp; omega) _) (by have := HLT1.out; simp; omega) _) (by simp) _) (by simp) _)
    have HB56 := Lib.hid (heap_set_same (heap_set_same (heap_set_ne (heap_set_ne HBB5.out ⟨w1.heap.size, 0, none⟩ (.int .i64 x.1) hne) ⟨w1.heap.size, 1, none⟩ (.int .i64 x.2) hne) 0 (.int .i64 t.root.1)) 1 (.int .i64 t.root.2))
    have HB106 := Lib.hid (heap_set_ne (heap_set_ne (heap_set_same (heap_set_same HBB10.out 0 (.int .i64 x.1)) 1 (.int .i64 x.2)) ⟨w.heap.size, 0, none⟩ (.int .i64 t.root.1) hne') ⟨w.heap.size, 1, none⟩ (.int .i64 t.root.2) hne')
    generalize ((((w5.setCell ⟨w1.heap.size, 0, none⟩ (.int .i64 x.1)).setCell ⟨w1.heap.size, 1, none⟩ (.int .i64 x.2)).setCell ⟨w.heap.size, 0, none⟩ (.int .i64 t.root.1)).setCell ⟨w.heap.size, 1, none⟩ (.int .i64 t.root.2)) = w6 at *
    clear hx6
    obtain ⟨pb, cb, pk, nk, ck, hS6, hA6, hT6⟩ := skew_half _ m (n + 3) t r1 x t.root w6 HT6.out hn1
    have hS7 : ∀ w', w6.grownBy w' m → (w'.cell? ⟨r1, 0, none⟩ = some (.int .i64 t.rank) ∧ w'.cell? ⟨r1, 3, none⟩ = some (.slice pb t.bes.length cb) ∧ w'.cell? ⟨r1, 4, none⟩ = some (.slice pk nk ck) ∧
        w'.cell? ⟨w.heap.size, 0, none⟩ = some (.int .i64 t.root.1) ∧ w'.cell? ⟨w.heap.size, 1, none⟩ = some (.int .i64 t.root.2) ∧ w'.cell? ⟨w1.heap.size, 0, none⟩ = some (.int .i64 x.1) ∧ w'.cell? ⟨w1.heap.size, 1, none⟩ = some (.int .i64 x.2)) := fun w' hg => by
      obtain ⟨h1, h2, h3⟩ := hS6 w' (HM6.out.ext hg)
      have hb5 := box_of hg HB56.out HNE5.out
      have hb10 := box_of hg HB106.out HNE10.out
      exact ⟨h1, h2, h3, cell_of hb5 0 rfl, cell_of hb5 1 rfl, cell_of hb10 0 rfl, cell_of hb10 1 rfl⟩
    have HS7 := Lib.hid hS7
    have HA6 := Lib.hid hA6
    have HT66 := Lib.hid hT6
    have hS0 := hS7 w6 (grown_refl _ _)
    clear hS6 hS7 hA6 hT6
    go_region_held3 (fun w' => w'.cell? ⟨r1, 0, none⟩ = some (.int .i64 t.rank) ∧ w'.cell? ⟨r1, 3, none⟩ = some (.slice pb t.bes.length cb) ∧ w'.cell? ⟨r1, 4, none⟩ = some (.slice pk nk ck) ∧
        w'.cell? ⟨w.heap.size, 0, none⟩ = some (.int .i64 t.root.1) ∧ w'.cell? ⟨w.heap.size, 1, none⟩ = some (.int .i64 t.root.2) ∧ w'.cell? ⟨w1.heap.size, 0, none⟩ = some (.int .i64 x.1) ∧ w'.cell? ⟨w1.heap.size, 1, none⟩ = some (.int .i64 x.2))
      (first | exact HS7.out _ hh8 | exact HS7.out _ hh7 | exact HS7.out _ (grown_drew (grown_refl _ _)) | exact HS7.out _ (grown_refl _ _))
      (first
        | (go_at_call 76; refine (HA6.out _ (Ext.drew _ _)).mono ?_; rintro e w7 ⟨v7, rfl, hg7, hown7⟩; obtain ⟨g7, cap7, rfl⟩ := ownsRow_succ hown7; have hh7 := grown_of_none m (grown_trans (grown_drew (grown_refl w6 none)) hg7); have hm7 := HM6.out.to hh7.size (HM6.out.at_.keep (fun b _ hb => by rw [hg7.block b hb (by simp)]; rfl)))
        | (go_at_call 75; refine (HT66.out _ _ _ (HM6.out.ext hh7) hm7 (fun b hb => HM6.out.lt b hb) hown7).mono ?_; rintro e w8 ⟨r8, rfl, hg8, hm8, ht8⟩; have hh8 := grown_trans hh7 hg8))
    have HM8 := Lib.hid hm8
    have HT8 := Lib.hid ht8
    have HH8 := Lib.hid hh8
    clear hm8 ht8 hh8
    go_wp2
    go_ret
    refine ⟨r8, rfl, grown_trans HG6.out HH8.out, HM.out.to (grown_trans HG6.out HH8.out).size (by rw [show n + 4 = n + 3 + 1 from by omega]; exact HM8.out.at_), ?_⟩
    rw [HSK.out]
    simp only [HL.out]
    exact HT8.out.back.back
end Go.Proofs.YtgdnlolicjdfoaaDoor
