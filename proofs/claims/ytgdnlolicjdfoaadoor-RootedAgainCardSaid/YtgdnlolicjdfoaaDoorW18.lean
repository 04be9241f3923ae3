import Derived.Test.YtgdnlolicjdfoaaDoorW17
/- Heap: Insert. -/
namespace Go.Proofs.YtgdnlolicjdfoaaDoor
open Go Go.Proofs Go.RowKit Slag

def HeapAt (X : Nat → Prop) (w : World) (h : List (Tr E)) (v : Value) : Prop := ∃ p vs, v = .agg #[.pointer p] ∧ ConsAt X w vs p ∧ TreesAt X w h vs
theorem HeapAt.ext {X : Nat → Prop} {w w' : World} {h : List (Tr E)} {v : Value} (k : HeapAt X w h v) (hx : Ext X w w') : HeapAt X w' h v := by
  obtain ⟨p, vs, e, h1, h2⟩ := k
  exact ⟨p, vs, e, h1.ext hx, h2.ext hx⟩
theorem HeapAt.weak {X Y : Nat → Prop} {w : World} {h : List (Tr E)} {v : Value} (k : HeapAt X w h v) (hXY : ∀ b, Y b → b < w.heap.size → X b) : HeapAt Y w h v := by
  obtain ⟨p, vs, e, h1, h2⟩ := k
  exact ⟨p, vs, e, h1.weak hXY, TreesAt.weak hXY h2⟩
theorem HeapAt.nil (X : Nat → Prop) (w : World) : HeapAt X w [] (.agg #[.pointer none]) := ⟨none, [], rfl, rfl, TreesAt.nil⟩

theorem keep3 {a b c d e : Prop} (h : a ∧ b ∧ c ∧ d ∧ e) : a ∧ b ∧ c := ⟨h.1, h.2.1, h.2.2.1⟩
theorem keep3' {w : World} {S : Nat} {u x y z v : Value} {e : Prop} (h : w.cell? ⟨S, 0, none⟩ = some u ∧ w.cell? ⟨S + 1, 0, none⟩ = some x ∧ w.cell? ⟨S + 1, 1, none⟩ = some y ∧ w.cell? ⟨S + 1 + 1, 0, none⟩ = some z ∧ e) :
    (w.setCell ⟨S + 1 + 1, 0, none⟩ v).cell? ⟨S, 0, none⟩ = some u ∧ (w.setCell ⟨S + 1 + 1, 0, none⟩ v).cell? ⟨S + 1, 0, none⟩ = some x ∧ (w.setCell ⟨S + 1 + 1, 0, none⟩ v).cell? ⟨S + 1, 1, none⟩ = some y :=
  ⟨cell_set_ne v h.1 (by simp; omega), cell_set_ne v h.2.1 (by simp), cell_set_ne v h.2.2.1 (by simp)⟩
theorem sins_end {X : Nat → Prop} {m : Option Nat} {n k : Int} {w W0 w5 : World} {S : Nat} {q : Option Addr} {vs : List Nat} {h : List (Tr E)} (hS : w.heap.size = S) (hm : Mt X w m n) (hg0 : w.grownBy W0 none) (hh5 : W0.grownBy w5 m) (hm5 : MeterAt w5 m k)
    (hc : ConsAt (Xb X S (S + 3)) w5 vs q) (ht : TreesAt (Xb X S (S + 3)) w5 h vs) :
    w.grownBy (w5.setCell ⟨S + 1 + 1, 0, none⟩ (.pointer q)) m ∧ Mt X (w5.setCell ⟨S + 1 + 1, 0, none⟩ (.pointer q)) m k ∧ HeapAt X (w5.setCell ⟨S + 1 + 1, 0, none⟩ (.pointer q)) h (.agg #[.pointer q]) := by
  have hg := grown_set (grown_trans (grown_of_none m hg0) hh5) (p := ⟨S + 1 + 1, 0, none⟩) (by simp; omega) (.pointer q)
  have hx : Ext (Xb X S (S + 3)) w5 (w5.setCell ⟨S + 1 + 1, 0, none⟩ (.pointer q)) := Ext.set w5 (p := ⟨S + 1 + 1, 0, none⟩) (.inr ⟨by simp; omega, by simp⟩) _
  exact ⟨hg, hm.to hg.size (hm5.set (fun b e h => hm.ne (b := S + 1 + 1) (by omega) (by rw [e, ← h])) _), q, vs, rfl, (hc.ext hx).back, TreesAt.weak (fun _ hb _ => Xb.left hb) (ht.ext hx)⟩
set_option maxRecDepth 100000 in
set_option maxHeartbeats 2000000 in
theorem sins_any (X : Nat → Prop) (m : Option Nat) (n : Int) (h : List (Tr E)) (v : Value) (x : E) (w : World) (hm : Mt X w m n) (hh : HeapAt X w h v) (hn : Tr.sizeL h + 1 ≤ 1099511627776) :
    Calls Tryd.prog 35 #[v, mval m, elV x] w fun e w' => ∃ v', e = .returned v' ∧ w.grownBy w' m ∧ Mt X w' m (n + (insertN h : Nat)) ∧ HeapAt X w' (insert id h x) v' := by
  obtain ⟨p, vs, rfl, hc, ht⟩ := hh
  have HM := Lib.hid hm
  obtain ⟨x1, x2⟩ := x
  unfold elV
  obtain ⟨S, hS⟩ : ∃ S, w.heap.size = S := ⟨_, rfl⟩
  have hg0 : w.grownBy (((w.alloc (.cells #[.pointer p] 64)).alloc (.cells #[.int .i64 x1, .int .i64 x2] 24)).alloc (.cells #[.pointer none] 64)) none := grown_alloc (grown_alloc (grown_alloc (grown_refl w none) _) _) _
  have b1 := heap_alloc_lt (heap_alloc_lt (heap_alloc_new w (.cells #[.pointer p] 64)) (.cells #[.int .i64 x1, .int .i64 x2] 24)) (.cells #[.pointer none] 64)
  have b2 := heap_alloc_lt (heap_alloc_new (w.alloc (.cells #[.pointer p] 64)) (.cells #[.int .i64 x1, .int .i64 x2] 24)) (.cells #[.pointer none] 64)
  have b3 := heap_alloc_new ((w.alloc (.cells #[.pointer p] 64)).alloc (.cells #[.int .i64 x1, .int .i64 x2] 24)) (.cells #[.pointer none] 64)
  simp only [World.size_alloc, hS] at b1 b2 b3
  have hC0 := hc.own (hi := S + 3) hg0
  have hT0 := ht.own (hi := S + 3) hm (grown_of_none m hg0)
  have hM0 : Mt (Xb X w.heap.size (S + 3)) (((w.alloc (.cells #[.pointer p] 64)).alloc (.cells #[.int .i64 x1, .int .i64 x2] 24)).alloc (.cells #[.pointer none] 64)) m n := hm.own hg0.size (by simp [hS]) (((hm.at_.alloc _).alloc _).alloc _)
  rw [hS] at hC0 hT0 hM0
  have hS2 : ∀ W', (((w.alloc (.cells #[.pointer p] 64)).alloc (.cells #[.int .i64 x1, .int .i64 x2] 24)).alloc (.cells #[.pointer none] 64)).grownBy W' m →
      W'.cell? ⟨S, 0, none⟩ = some (.pointer p) ∧ W'.cell? ⟨S + 1, 0, none⟩ = some (.int .i64 x1) ∧ W'.cell? ⟨S + 1, 1, none⟩ = some (.int .i64 x2) ∧ W'.cell? ⟨S + 1 + 1, 0, none⟩ = some (.pointer none) ∧ W'.frozen? ⟨S + 1 + 1, 0, none⟩ = false := fun W' hg =>
    ⟨cell_of (box_of hg b1 (hm.ne (by omega))) 0 rfl, cell_of (box_of hg b2 (hm.ne (by omega))) 0 rfl, cell_of (box_of hg b2 (hm.ne (by omega))) 1 rfl, cell_of (box_of hg b3 (hm.ne (by omega))) 0 rfl, frozen_of (box_of hg b3 (hm.ne (by omega))) 0⟩
  have HS := Lib.hid hS
  have HS2 := Lib.hid hS2
  have HC := Lib.hid hC0
  have HT := Lib.hid hT0
  have HM0 := Lib.hid hM0
  have HG0 := Lib.hid hg0
  clear hm hc ht hC0 hT0 hM0 hS2 b1 b2 b3 hg0
  go_enter Tryd.func35, Tryd.ntmps35
  go_wp2_with fail
  generalize (((w.alloc (.cells #[.pointer p] 64)).alloc (.cells #[.int .i64 x1, .int .i64 x2] 24)).alloc (.cells #[.pointer none] 64)) = W0 at *
  have hsz : S + 3 ≤ W0.heap.size := by have := HS2.out W0 (grown_refl _ _) |>.2.2.2.1; have := World.block_lt_of_cell? _ _ this; simp at this; omega
  refine (lfirst_any (Xb X S (S + 3)) vs p _ HC.out).mono ?_
  rintro e w1 ⟨rfl, hg1⟩
  obtain ⟨q1, q2, q3, q4, q5⟩ := HS2.out w1 (grown_of_none m hg1)
  have HC1 := Lib.hid (HC.out.ext (grown_ext hg1))
  have HG1 := Lib.hid hg1
  clear hg1
  go_wp2_with fail
  refine (lrest_any (Xb X S (S + 3)) vs p _ HC1.out).mono ?_
  rintro e w2 ⟨q, rfl, hc2, hg2⟩
  have HC2 := Lib.hid (hc2.ext (grown_ext hg2))
  have HG2 := Lib.hid (grown_trans HG1.out hg2)
  clear hg2 hc2
  go_wp2_with fail
  refine (lfirst_any (Xb X S (S + 3)) vs.tail q _ HC2.out).mono ?_
  rintro e w3 ⟨rfl, hg3⟩
  have HG3 := Lib.hid (grown_trans HG2.out hg3)
  have HC3 := Lib.hid (HC.out.ext (grown_ext HG3.out))
  obtain ⟨q1, q2, q3, q4, q5⟩ := HS2.out w3 (grown_of_none m HG3.out)
  clear hg3
  have HT3 := Lib.hid (HT.out.ext (grown_ext HG3.out))
  have HM3 := Lib.hid (HM0.out.to HG3.out.size (HM0.out.at_.grown HG3.out))
  have HGW := Lib.hid (grown_trans HG0.out HG3.out)
  clear HC2 HC1 HC HT
  rcases h with _ | ⟨a, _ | ⟨b, r⟩⟩
  · obtain rfl := HT3.out.of_nil
    have HLF := Lib.hid (fun W hW => leaf_any (Xb X S (S + 3)) m n (x1, x2) W hW)
    go_wp2_with fail
    go_region_held3 (fun w' => w'.cell? ⟨S, 0, none⟩ = some (.pointer p) ∧ w'.cell? ⟨S + 1, 0, none⟩ = some (.int .i64 x1) ∧ w'.cell? ⟨S + 1, 1, none⟩ = some (.int .i64 x2))
      (first | exact keep3 (HS2.out _ hh5) | exact keep3 (HS2.out _ hh4) | exact keep3 (HS2.out _ (grown_of_none m (grown_drew HG3.out))) | exact keep3 (HS2.out _ (grown_of_none m HG3.out)) | exact keep3' (HS2.out _ hh5))
      (first
        | (go_at_call 60; refine (HLF.out _ ?_).mono ?_; exact HM3.out.to (Nat.le_refl _) HM3.out.at_; rintro e w4 ⟨r4, rfl, hg4, hm4, ht4⟩; have hh4 := grown_trans (grown_of_none m (grown_drew HG3.out)) hg4)
        | (go_at_call 58; refine (lpush_any (Xb X S (S + 3)) [] r4 p _ (HC3.out.ext (HM3.out.ext (grown_trans (grown_drew (grown_refl w3 m)) hg4))) hm4.lt).mono ?_; rintro e w5 ⟨q5, rfl, hg5, hc5⟩; have hh5 := grown_trans hh4 (grown_of_none m hg5); obtain ⟨p1, p2, p3, p4, p5⟩ := HS2.out _ hh5))
    have HE := Lib.hid (sins_end HS.out HM.out HG0.out hh5 (hm4.at_.grown hg5) hc5 (TreesAt.cons (ht4.ext (grown_ext hg5)) TreesAt.nil))
    have hr : (w5.setCell ⟨S + 1 + 1, 0, none⟩ (.pointer q5)).cell? ⟨S + 1 + 1, 0, none⟩ = some (.pointer q5) := World.cell?_setCell_same' _ _ _ (by rw [p4]; rfl)
    go_wp2
    refine bodyPost_ret (v := .agg #[.pointer q5]) (by simp [results, Tryd.results35, go_sem, hr]) rfl ?_
    exact ⟨_, rfl, HE.out⟩
  · obtain ⟨ba, vs', rfl, hta, htr⟩ := HT3.out.of_cons
    obtain rfl := htr.of_nil
    clear hta htr
    have HLF := Lib.hid (fun W hW => leaf_any (Xb X S (S + 3)) m n (x1, x2) W hW)
    go_wp2_with fail
    go_region_held3 (fun w' => w'.cell? ⟨S, 0, none⟩ = some (.pointer p) ∧ w'.cell? ⟨S + 1, 0, none⟩ = some (.int .i64 x1) ∧ w'.cell? ⟨S + 1, 1, none⟩ = some (.int .i64 x2))
      (first | exact keep3 (HS2.out _ hh5) | exact keep3 (HS2.out _ hh4) | exact keep3 (HS2.out _ (grown_of_none m (grown_drew HG3.out))) | exact keep3 (HS2.out _ (grown_of_none m HG3.out)) | exact keep3' (HS2.out _ hh5))
      (first
        | (go_at_call 60; refine (HLF.out _ ?_).mono ?_; exact HM3.out.to (Nat.le_refl _) HM3.out.at_; rintro e w4 ⟨r4, rfl, hg4, hm4, ht4⟩; have hh4 := grown_trans (grown_of_none m (grown_drew HG3.out)) hg4)
        | (go_at_call 58; refine (lpush_any (Xb X S (S + 3)) [ba] r4 p _ (HC3.out.ext (HM3.out.ext (grown_trans (grown_drew (grown_refl w3 m)) hg4))) hm4.lt).mono ?_; rintro e w5 ⟨q5, rfl, hg5, hc5⟩; have hh5 := grown_trans hh4 (grown_of_none m hg5); obtain ⟨p1, p2, p3, p4, p5⟩ := HS2.out _ hh5))
    have HE := Lib.hid (sins_end HS.out HM.out HG0.out hh5 (hm4.at_.grown hg5) hc5 (TreesAt.cons (ht4.ext (grown_ext hg5)) (HT3.out.ext (HM3.out.ext (grown_trans (grown_trans (grown_drew (grown_refl w3 m)) hg4) (grown_of_none m hg5))))))
    have hr : (w5.setCell ⟨S + 1 + 1, 0, none⟩ (.pointer q5)).cell? ⟨S + 1 + 1, 0, none⟩ = some (.pointer q5) := World.cell?_setCell_same' _ _ _ (by rw [p4]; rfl)
    go_wp2
    refine bodyPost_ret (v := .agg #[.pointer q5]) (by simp [results, Tryd.results35, go_sem, hr]) rfl ?_
    exact ⟨_, rfl, HE.out⟩
  · obtain ⟨ba, vs', rfl, hta, htr⟩ := HT3.out.of_cons
    obtain ⟨bb, vs'', rfl, htb, htr⟩ := htr.of_cons
    have HQA := Lib.hid (trank_any _ a ba w3 hta)
    have HQB := Lib.hid (trank_any _ b bb w3 htb)
    have HTA := Lib.hid hta
    have HTB := Lib.hid htb
    have HTR := Lib.hid htr
    clear hta htb htr
    go_wp2_with fail
    refine HQA.out.mono ?_
    rintro e w' ⟨rfl, rfl⟩
    go_wp2_with fail
    refine HQB.out.mono ?_
    rintro e w' ⟨rfl, rfl⟩
    by_cases hab : a.rank = b.rank
    · have hd : ((a.rank : Int) == (b.rank : Int)) = true := by simp [hab]
      have HSK := Lib.hid (fun W hW h1 h2 => skew_any (Xb X S (S + 3)) m n (x1, x2) a b ba bb W hW h1 h2 (by have h1 := Tr.sizeL_cons a (b :: r); have h2 := Tr.sizeL_cons b r; omega))
      have HINS := Lib.hid (show Slag.insert id (a :: b :: r) (x1, x2) = skewT id (x1, x2) a b :: r ∧ insertN (a :: b :: r) = 4 from ⟨by simp [Slag.insert, hab], by simp [insertN, hab]⟩)
      go_wp2_with fail
      go_region_held3 (fun w' => w'.cell? ⟨S, 0, none⟩ = some (.pointer p) ∧ w'.cell? ⟨S + 1, 0, none⟩ = some (.int .i64 x1) ∧ w'.cell? ⟨S + 1, 1, none⟩ = some (.int .i64 x2))
        (first | exact keep3 (HS2.out _ hh6) | exact keep3 (HS2.out _ hh5) | exact keep3 (HS2.out _ hh4) | exact keep3 (HS2.out _ (grown_of_none m (grown_drew HG3.out))) | exact keep3 (HS2.out _ (grown_of_none m HG3.out)) | exact keep3' (HS2.out _ hh6))
        (first
          | (go_at_call 57; refine (ldrop_any (Xb X S (S + 3)) 2 (ba :: bb :: vs'') p _ (HC3.out.ext (Ext.drew _ _)) (fun b hb => HM3.out.lt b hb) (by decide)).mono ?_; rintro e w4 ⟨q4, rfl, hg4, hc4⟩; have hh4 := grown_of_none m (grown_trans (grown_drew HG3.out) hg4); have h34 := grown_trans (grown_drew (grown_refl w3 none)) hg4; have hm4 := HM3.out.to h34.size (HM3.out.at_.grown h34))
          | (go_at_call 59; refine (HSK.out _ hm4 (HTA.out.ext (grown_ext h34)) (HTB.out.ext (grown_ext h34))).mono ?_; rintro e w5 ⟨r5, rfl, hg5, hm5, ht5⟩; have hh5 := grown_trans hh4 hg5)
          | (go_at_call 58; refine (lpush_any (Xb X S (S + 3)) vs'' r5 q4 _ (hc4.ext (hm4.ext hg5)) hm5.lt).mono ?_; rintro e w6 ⟨q6, rfl, hg6, hc6⟩; have hh6 := grown_trans hh5 (grown_of_none m hg6); obtain ⟨p1, p2, p3, p4, p5⟩ := HS2.out _ hh6))
      have HE := Lib.hid (sins_end HS.out HM.out HG0.out hh6 (hm5.at_.grown hg6) hc6 (TreesAt.cons (ht5.ext (grown_ext hg6)) ((HTR.out.ext (grown_ext h34)).ext (hm4.ext (grown_trans hg5 (grown_of_none m hg6))))))
      have hr : (w6.setCell ⟨S + 1 + 1, 0, none⟩ (.pointer q6)).cell? ⟨S + 1 + 1, 0, none⟩ = some (.pointer q6) := World.cell?_setCell_same' _ _ _ (by rw [p4]; rfl)
      go_wp2
      refine bodyPost_ret (v := .agg #[.pointer q6]) (by simp [results, Tryd.results35, go_sem, hr]) rfl ?_
      refine ⟨_, rfl, ?_⟩
      rw [HINS.out.1, HINS.out.2]
      exact HE.out
    · have hd : ((a.rank : Int) == (b.rank : Int)) = false := by simp; omega
      have HINS := Lib.hid (show Slag.insert id (a :: b :: r) (x1, x2) = leaf (x1, x2) :: a :: b :: r ∧ insertN (a :: b :: r) = 1 from ⟨by simp [Slag.insert, hab], by simp [insertN, hab]⟩)
      have HLF := Lib.hid (fun W hW => leaf_any (Xb X S (S + 3)) m n (x1, x2) W hW)
      go_wp2_with fail
      go_region_held3 (fun w' => w'.cell? ⟨S, 0, none⟩ = some (.pointer p) ∧ w'.cell? ⟨S + 1, 0, none⟩ = some (.int .i64 x1) ∧ w'.cell? ⟨S + 1, 1, none⟩ = some (.int .i64 x2))
        (first | exact keep3 (HS2.out _ hh5) | exact keep3 (HS2.out _ hh4) | exact keep3 (HS2.out _ (grown_of_none m (grown_drew HG3.out))) | exact keep3 (HS2.out _ (grown_of_none m HG3.out)) | exact keep3' (HS2.out _ hh5))
        (first
          | (go_at_call 60; refine (HLF.out _ ?_).mono ?_; exact HM3.out.to (Nat.le_refl _) HM3.out.at_; rintro e w4 ⟨r4, rfl, hg4, hm4, ht4⟩; have hh4 := grown_trans (grown_of_none m (grown_drew HG3.out)) hg4)
          | (go_at_call 58; refine (lpush_any (Xb X S (S + 3)) (ba :: bb :: vs'') r4 p _ (HC3.out.ext (HM3.out.ext (grown_trans (grown_drew (grown_refl w3 m)) hg4))) hm4.lt).mono ?_; rintro e w5 ⟨q5, rfl, hg5, hc5⟩; have hh5 := grown_trans hh4 (grown_of_none m hg5); obtain ⟨p1, p2, p3, p4, p5⟩ := HS2.out _ hh5))
      have HE := Lib.hid (sins_end HS.out HM.out HG0.out hh5 (hm4.at_.grown hg5) hc5 (TreesAt.cons (ht4.ext (grown_ext hg5)) (HT3.out.ext (HM3.out.ext (grown_trans (grown_trans (grown_drew (grown_refl w3 m)) hg4) (grown_of_none m hg5))))))
      have hr : (w5.setCell ⟨S + 1 + 1, 0, none⟩ (.pointer q5)).cell? ⟨S + 1 + 1, 0, none⟩ = some (.pointer q5) := World.cell?_setCell_same' _ _ _ (by rw [p4]; rfl)
      go_wp2
      refine bodyPost_ret (v := .agg #[.pointer q5]) (by simp [results, Tryd.results35, go_sem, hr]) rfl ?_
      refine ⟨_, rfl, ?_⟩
      rw [HINS.out.1, HINS.out.2]
      exact HE.out

end Go.Proofs.YtgdnlolicjdfoaaDoor
