import Derived.Test.YtgdnlolicjdfoaaDoorW8
/- Link. -/
namespace Go.Proofs.YtgdnlolicjdfoaaDoor
open Go Go.Proofs Go.RowKit Slag

set_option maxRecDepth 100000 in
set_option maxHeartbeats 2000000 in
theorem link_any (X : Nat → Prop) (m : Option Nat) (n : Int) (a b : Tr E) (ba bb : Nat) (w : World) (hm : Mt X w m n) (ha : TreeAt X w a ba) (hb : TreeAt X w b bb) (hn : a.size + b.size ≤ 1099511627776) :
    Calls Tryd.prog 70 #[mval m, .pointer (some ⟨ba, 0, none⟩), .pointer (some ⟨bb, 0, none⟩)] w fun e w' => ∃ r, e = .returned (.pointer (some ⟨r, 0, none⟩)) ∧ w.grownBy w' m ∧ Mt X w' m (n + 2) ∧ TreeAt X w' (link id a b) r := by
  have HM := Lib.hid hm
  have HA := Lib.hid ha
  have HB := Lib.hid hb
  obtain ⟨abv, akv, hXa, hca, -⟩ := ha.open
  obtain ⟨bbv, bkv, hXb, hcb, -⟩ := hb.open
  have hS : ∀ w', Ext X w w' → (w'.cell? ⟨bb, 1, none⟩ = some (.int .i64 b.root.1) ∧ w'.cell? ⟨bb, 2, none⟩ = some (.int .i64 b.root.2) ∧ w'.cell? ⟨ba, 1, none⟩ = some (.int .i64 a.root.1) ∧ w'.cell? ⟨ba, 2, none⟩ = some (.int .i64 a.root.2)) := fun w' hx =>
    ⟨cell_of (hx.block _ _ _ _ hXb hcb) 1 rfl, cell_of (hx.block _ _ _ _ hXb hcb) 2 rfl, cell_of (hx.block _ _ _ _ hXa hca) 1 rfl, cell_of (hx.block _ _ _ _ hXa hca) 2 rfl⟩
  have HS := Lib.hid hS
  clear hm ha hb hS hca hcb hXa hXb
  go_enter Tryd.func70, Tryd.ntmps70
  have hkm := fun x y w => key_method 271 x y w
  go_wp2_with fail
  have hS0 := HS.out w (Ext.refl _ _)
  go_region_held3 (fun w' => w'.cell? ⟨bb, 1, none⟩ = some (.int .i64 b.root.1) ∧ w'.cell? ⟨bb, 2, none⟩ = some (.int .i64 b.root.2) ∧ w'.cell? ⟨ba, 1, none⟩ = some (.int .i64 a.root.1) ∧ w'.cell? ⟨ba, 2, none⟩ = some (.int .i64 a.root.2))
    (first | exact HS.out _ hx3 | exact HS.out _ hx2 | exact HS.out _ hx1 | exact HS.out _ (Ext.drew _ _) | exact HS.out _ (Ext.refl _ _))
    (first
      | (go_at_call_of 118 (Value.agg #[Value.int IntKind.i64 b.root.1, Value.int IntKind.i64 b.root.2]); refine (ekey2 b.root.1 b.root.2 _).mono ?_; rintro e w1 ⟨rfl, hg1⟩; have hx1 := (Ext.drew X w).trans (grown_ext hg1); have hh1 := grown_drew (grown_of_none m (grown_trans (grown_drew (grown_refl w none)) hg1)))
      | (go_at_call_of 118 (Value.agg #[Value.int IntKind.i64 a.root.1, Value.int IntKind.i64 a.root.2]); refine (ekey2 a.root.1 a.root.2 _).mono ?_; rintro e w2 ⟨rfl, hg2⟩; have hx2 := hx1.trans (grown_ext hg2); have hh2 := grown_trans (grown_of_none m (grown_trans (grown_drew (grown_refl w none)) hg1)) (grown_of_none m hg2))
      | (go_at_call 34; refine (mless2 m n b.root a.root _ ?_).mono ?_; exact HM.out.at_.keep (fun b e hb => by rw [hg2.block b (Nat.lt_of_lt_of_le hb hg1.size) (by simp), hg1.block b hb (by simp)]; rfl); rintro e w3 ⟨rfl, hg3, hm3⟩; have hh3 := grown_trans hh2 hg3; have hx3 := HM.out.ext hh3))
  have hsz3 := hh3.size
  have hM3 := HM.out.to hh3.size hm3
  have HM3 := Lib.hid hM3
  have HG3 := Lib.hid hh3
  have hra := (show a.rank < a.size from by obtain ⟨_, _, _, _, _, h, _⟩ := HA.out.open; exact h)
  have hrb := (show b.rank < b.size from by obtain ⟨_, _, _, _, _, h, _⟩ := HB.out.open; exact h)
  have hra' : a.rank ≤ 1099511627776 := by omega
  have hrb' : b.rank ≤ 1099511627776 := by omega
  rename_i hHeld
  clear hHeld hS0 hh2 hx2 hx1 hh1 hg1 hg2 hg3 hm3 hh3 hx3 hM3 hra hrb
  have HLB := Lib.hid (link_half X m (n + 1) b a bb ba w3 (HB.out.ext (HM.out.ext HG3.out)) (HA.out.ext (HM.out.ext HG3.out)) (by omega))
  have HLA := Lib.hid (link_half X m (n + 1) a b ba bb w3 (HA.out.ext (HM.out.ext HG3.out)) (HB.out.ext (HM.out.ext HG3.out)) (by omega))
  generalize hl : less b.root a.root = l
  have HL := Lib.hid hl
  clear hl
  cases l with
  | true =>
    obtain ⟨bv, pk, ck, kvs, hS, ⟨pb, nb, cb, rfl⟩, hA, hT⟩ := HLB.out
    have HS3 := Lib.hid hS
    have HAA := Lib.hid hA
    have HTT := Lib.hid hT
    clear hS hA hT
    go_wp2_with fail
    have hS0 := HS3.out w3 (Ext.refl _ _)
    go_region_held3 (fun w' => w'.cell? ⟨bb, 0, none⟩ = some (.int .i64 b.rank) ∧ w'.cell? ⟨bb, 1, none⟩ = some (.int .i64 b.root.1) ∧ w'.cell? ⟨bb, 2, none⟩ = some (.int .i64 b.root.2) ∧ w'.cell? ⟨bb, 3, none⟩ = some (.slice pb nb cb) ∧ w'.cell? ⟨bb, 4, none⟩ = some (.slice pk b.kids.length ck))
      (first | exact HS3.out _ hx5 | exact HS3.out _ hx4 | exact HS3.out _ (Ext.drew _ _) | exact HS3.out _ (Ext.refl _ _))
      (first
        | (go_at_call 83; refine (HAA.out _ (Ext.drew _ _)).mono ?_; rintro e w4 ⟨v4, rfl, hg4, hown4⟩; obtain ⟨g4, cap4, rfl⟩ := ownsRow_succ hown4; have hx4 := (Ext.drew X w3).trans (grown_ext hg4); have hg4' := grown_of_none m (grown_trans (grown_drew (grown_refl w3 none)) hg4); have hm4 := HM3.out.to hg4'.size (HM3.out.at_.keep (fun b _ hb => by rw [hg4.block b hb (by simp)]; rfl)))
        | (go_at_call 75; refine (HTT.out _ _ _ hx4 hm4 (Nat.le_refl _) (fun b hb => HM3.out.lt b hb) hown4).mono ?_; rintro e w5 ⟨r5, rfl, hg5, hm5, ht5⟩; have hg5' := grown_trans hg4' hg5; have hx5 := HM3.out.ext hg5'))
    have HM5 := Lib.hid hm5
    have HT5 := Lib.hid ht5
    clear hm5 ht5
    go_wp2
    go_ret
    exact ⟨r5, rfl, grown_trans HG3.out hg5', by rw [show n + 2 = n + 1 + 1 from by omega]; exact HM5.out, by unfold link; simp only [id, HL.out]; exact HT5.out⟩
  | false =>
    obtain ⟨bv, pk, ck, kvs, hS, ⟨pb, nb, cb, rfl⟩, hA, hT⟩ := HLA.out
    have HS3 := Lib.hid hS
    have HAA := Lib.hid hA
    have HTT := Lib.hid hT
    clear hS hA hT
    go_wp2_with fail
    have hS0 := HS3.out w3 (Ext.refl _ _)
    go_region_held3 (fun w' => w'.cell? ⟨ba, 0, none⟩ = some (.int .i64 a.rank) ∧ w'.cell? ⟨ba, 1, none⟩ = some (.int .i64 a.root.1) ∧ w'.cell? ⟨ba, 2, none⟩ = some (.int .i64 a.root.2) ∧ w'.cell? ⟨ba, 3, none⟩ = some (.slice pb nb cb) ∧ w'.cell? ⟨ba, 4, none⟩ = some (.slice pk a.kids.length ck))
      (first | exact HS3.out _ hx5 | exact HS3.out _ hx4 | exact HS3.out _ (Ext.drew _ _) | exact HS3.out _ (Ext.refl _ _))
      (first
        | (go_at_call 83; refine (HAA.out _ (Ext.drew _ _)).mono ?_; rintro e w4 ⟨v4, rfl, hg4, hown4⟩; obtain ⟨g4, cap4, rfl⟩ := ownsRow_succ hown4; have hx4 := (Ext.drew X w3).trans (grown_ext hg4); have hg4' := grown_of_none m (grown_trans (grown_drew (grown_refl w3 none)) hg4); have hm4 := HM3.out.to hg4'.size (HM3.out.at_.keep (fun b _ hb => by rw [hg4.block b hb (by simp)]; rfl)))
        | (go_at_call 75; refine (HTT.out _ _ _ hx4 hm4 (Nat.le_refl _) (fun b hb => HM3.out.lt b hb) hown4).mono ?_; rintro e w5 ⟨r5, rfl, hg5, hm5, ht5⟩; have hg5' := grown_trans hg4' hg5; have hx5 := HM3.out.ext hg5'))
    have HM5 := Lib.hid hm5
    have HT5 := Lib.hid ht5
    clear hm5 ht5
    go_wp2
    go_ret
    exact ⟨r5, rfl, grown_trans HG3.out hg5', by rw [show n + 2 = n + 1 + 1 from by omega]; exact HM5.out, by unfold link; simp only [id, HL.out]; exact HT5.out⟩
end Go.Proofs.YtgdnlolicjdfoaaDoor
