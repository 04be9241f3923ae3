import Derived.Test.YtjglbgienopocaaDoorW23
/- drain. -/
namespace Go.Proofs.YtjglbgienopocaaDoor
open Go Go.Proofs Go.RowKit Slag

theorem drain_nil (n : Nat) : Slag.drain (minT id) (pop id) n ([] : List (Tr E)) = [] := by
  cases n with
  | zero => rfl
  | succ n => simp [Slag.drain, minT]
theorem drain_cons (n : Nat) {h : List (Tr E)} (hne : h ≠ []) : Slag.drain (minT id) (pop id) (n + 1) h = minE h :: Slag.drain (minT id) (pop id) n (pop id h) := by
  have hm : minT id h = some (minE h) := by
    unfold minE minT
    rw [List.getElem?_eq_getElem (least_lt hne)]; rfl
  simp [Slag.drain, hm]
theorem pop_size {h : List (Tr E)} (hne : h ≠ []) : Tr.sizeL (pop id h) + 1 = Tr.sizeL h := by
  have := (popAt_all (key := id) (List.getElem?_eq_getElem (least_lt (key := id) hne))).length_eq
  simpa [Tr.sizeL, pop, popP] using this
def Yd (S xb : Nat) (v : Value) : Nat → Prop := fun b => b = S ∨ b = xb ∨ v.ownBlock = some b
structure DrainInv (w : World) (n : Nat) (h : List (Tr E)) (S xb : Nat) (k : Nat) (cur : List (Tr E)) (acc : List E) (v : Value) (wr : World) : Prop where
  gr : w.grownBy wr none
  bS : ∃ q, wr.heap[S]? = some (.cells #[.pointer q] 28 (0, 0)) ∧ HeapAt (Yd S xb v) wr cur (.agg #[.pointer q])
  bX : wr.heap[xb]? = some (.cells #[.int .i64 (minE cur).1, .int .i64 (minE cur).2] 31 (0, 0))
  row : wr.ownsRow w.heap.size 31 2 v acc.length (eCells acc)
  own : v.ownBlock ≠ some S ∧ v.ownBlock ≠ some xb
  ne : S ≠ xb
  lo : w.heap.size ≤ S ∧ w.heap.size ≤ xb
  sz : Tr.sizeL cur ≤ 1099511627776
  eq : Slag.drain (minT id) (pop id) n h = acc ++ Slag.drain (minT id) (pop id) (n - k) cur
  len : acc.length = k
  le : k ≤ n
/-- Behind the append. -/
theorem DrainInv.appended {w : World} {n : Nat} {h : List (Tr E)} {S xb k : Nat} {cur : List (Tr E)} {acc : List E} {v v1 : Value} {wr w1 : World} {o : Obj} (hI : DrainInv w n h S xb k cur acc v wr)
    (hrow : w1.ownsRow w.heap.size 31 2 v1 (acc.length + 1) (eCells acc ++ [.int .i64 (minE cur).1, .int .i64 (minE cur).2])) (hg : (wr.alloc o).grownBy w1 v.ownBlock) (hat : v1.ownBlock = v.ownBlock ∨ v1.ownBlock = some (wr.alloc o).heap.size) :
    w.grownBy w1 none ∧ (∃ q, w1.heap[S]? = some (.cells #[.pointer q] 28 (0, 0)) ∧ HeapAt (Yd S xb v1) w1 cur (.agg #[.pointer q])) ∧
      w1.heap[xb]? = some (.cells #[.int .i64 (minE cur).1, .int .i64 (minE cur).2] 31 (0, 0)) ∧ v1.ownBlock ≠ some S ∧ v1.ownBlock ≠ some xb ∧ (∀ b, Yd S xb v1 b → b < w1.heap.size) := by
  obtain ⟨q, hbS, hh⟩ := hI.bS
  have hS1 := heap_row (heap_alloc_lt hbS o) hg (fun g e h => hI.own.1 (by rw [e, h]))
  have hX1 := heap_row (heap_alloc_lt hI.bX o) hg (fun g e h => hI.own.2 (by rw [e, h]))
  have hsS := lt_of_heap hbS
  have hsX := lt_of_heap hI.bX
  refine ⟨grown_row (grown_alloc hI.gr o) hg (fun g e => (hI.row.lt g e).1), ⟨q, hS1, ?_⟩, hX1, ?_, ?_, ?_⟩
  · have h1 : HeapAt (fun b => Yd S xb v b ∨ wr.heap.size ≤ b) wr cur (.agg #[.pointer q]) := hh.weak (fun b hb hlt => by rcases hb with hb | hb; exact hb; omega)
    have h2 := h1.ext (w' := w1) ⟨Nat.le_trans (World.grownBy_alloc wr o none).size hg.size, fun b c T fz hX hb => by
      rw [hg.block b (Nat.lt_of_lt_of_le (lt_of_heap hb) (World.grownBy_alloc wr o none).size) (fun e => hX (.inl (.inr (.inr e.symm))))]
      exact heap_alloc_lt hb o⟩
    refine h2.weak (fun b hb _ => ?_)
    rcases hb with hb | hb | hb
    · exact .inl (.inl hb)
    · exact .inl (.inr (.inl hb))
    · rcases hat with e | e
      · exact .inl (.inr (.inr (by rw [← e]; exact hb)))
      · rw [e] at hb; simp at hb; exact .inr (by omega)
  · rcases hat with e | e
    · rw [e]; exact hI.own.1
    · rw [e]; simp; omega
  · rcases hat with e | e
    · rw [e]; exact hI.own.2
    · rw [e]; simp; omega
  · intro b hb
    rcases hb with rfl | rfl | hb
    · exact lt_of_heap hS1
    · exact lt_of_heap hX1
    · exact (hrow.lt b hb).2
theorem DrainInv.next {w : World} {n : Nat} {h : List (Tr E)} {S xb k : Nat} {cur : List (Tr E)} {acc : List E} {v v1 : Value} {wr w1 w2 w3 : World} {q1 q2 : Option Addr} (hI : DrainInv w n h S xb k cur acc v wr) (hne : cur ≠ []) (hlt : k < n)
    (hg1 : w.grownBy w1 none) (hown : v1.ownBlock ≠ some S ∧ v1.ownBlock ≠ some xb)
    (hrow : w1.ownsRow w.heap.size 31 2 v1 (acc.length + 1) (eCells acc ++ [.int .i64 (minE cur).1, .int .i64 (minE cur).2]))
    (hg2 : w1.grownBy w2 none) (hS : w1.heap[S]? = some (.cells #[.pointer q1] 28 (0, 0))) (hX : w1.heap[xb]? = some (.cells #[.int .i64 (minE cur).1, .int .i64 (minE cur).2] 31 (0, 0)))
    (hh2 : HeapAt (Yd S xb v1) w2 (pop id cur) (.agg #[.pointer q2])) (hg3 : (w2.setCell ⟨S, 0, none⟩ (.pointer q2)).grownBy w3 none) :
    DrainInv w n h S xb (k + 1) (pop id cur) (acc ++ [minE cur]) v1 ((w3.setCell ⟨xb, 0, none⟩ (.int .i64 (minE (pop id cur)).1)).setCell ⟨xb, 1, none⟩ (.int .i64 (minE (pop id cur)).2)) := by
  have hS2 := heap_set_same (box_none hg2 hS) 0 (.pointer q2)
  have hX2 := heap_set_ne (box_none hg2 hX) ⟨S, 0, none⟩ (.pointer q2) (by simpa using Ne.symm hI.ne)
  have hS3 := box_none hg3 hS2
  have hX3 := box_none hg3 hX2
  have hx1 : Ext (Yd S xb v1) w2 (w2.setCell ⟨S, 0, none⟩ (.pointer q2)) := Ext.set w2 (p := ⟨S, 0, none⟩) (.inl rfl) _
  have hx3 : Ext (Yd S xb v1) w3 (w3.setCell ⟨xb, 0, none⟩ (.int .i64 (minE (pop id cur)).1)) := Ext.set w3 (p := ⟨xb, 0, none⟩) (.inr (.inl rfl)) _
  have hx4 : Ext (Yd S xb v1) (w3.setCell ⟨xb, 0, none⟩ (.int .i64 (minE (pop id cur)).1)) ((w3.setCell ⟨xb, 0, none⟩ (.int .i64 (minE (pop id cur)).1)).setCell ⟨xb, 1, none⟩ (.int .i64 (minE (pop id cur)).2)) := Ext.set _ (p := ⟨xb, 1, none⟩) (.inr (.inl rfl)) _
  have hrowS : ∀ (a : World) (p : Addr) (x : Value), a.ownsRow w.heap.size 31 2 v1 (acc.length + 1) (eCells acc ++ [.int .i64 (minE cur).1, .int .i64 (minE cur).2]) → (p.block = S ∨ p.block = xb) → (a.setCell p x).ownsRow w.heap.size 31 2 v1 (acc.length + 1) (eCells acc ++ [.int .i64 (minE cur).1, .int .i64 (minE cur).2]) := by
    intro a p x ha hp
    have hgs : a.grownBy (a.setCell p x) (some p.block) := ⟨rfl, rfl, rfl, by simp [World.setCell], fun k hk hm => by rw [Below.heap_setCell _ _ _ _ (fun e => hm (by rw [e]))]⟩
    refine ownsRow_keep ha hgs (fun g e => .inr fun h => ?_)
    cases e
    rcases hp with hp | hp
    · exact hown.1 (by rw [h, hp])
    · exact hown.2 (by rw [h, hp])
  refine ⟨?_, ⟨q2, heap_set_ne (heap_set_ne hS3 _ _ (by simpa using hI.ne)) _ _ (by simpa using hI.ne), (((hh2.ext hx1).ext (grown_ext hg3)).ext hx3).ext hx4⟩, ?_, ?_, hown, hI.ne, hI.lo, ?_, ?_, ?_, by omega⟩
  · exact grown_set (grown_set (grown_trans (grown_set (grown_trans hg1 hg2) (p := ⟨S, 0, none⟩) hI.lo.1 _) hg3) (p := ⟨xb, 0, none⟩) hI.lo.2 _) (p := ⟨xb, 1, none⟩) hI.lo.2 _
  · have := heap_set_same (heap_set_same hX3 0 (.int .i64 (minE (pop id cur)).1)) 1 (.int .i64 (minE (pop id cur)).2)
    simpa using this
  · have r2 := ownsRow_keep hrow hg2 (fun g e => by cases e)
    have r3 := hrowS w2 ⟨S, 0, none⟩ (.pointer q2) r2 (.inl rfl)
    have r4 := ownsRow_keep r3 hg3 (fun g e => by cases e)
    have r5 := hrowS w3 ⟨xb, 0, none⟩ (.int .i64 (minE (pop id cur)).1) r4 (.inr rfl)
    have r6 := hrowS _ ⟨xb, 1, none⟩ (.int .i64 (minE (pop id cur)).2) r5 (.inr rfl)
    rw [eCells_append, List.length_append]
    exact r6
  · have := pop_size hne; have := hI.sz; omega
  · rw [hI.eq, show n - k = (n - (k + 1)) + 1 from by omega, drain_cons _ hne]; simp
  · rw [List.length_append, hI.len]; rfl
set_option maxRecDepth 100000 in
set_option maxHeartbeats 2000000 in
theorem drain_any (h : List (Tr E)) (v : Value) (n : Nat) (w : World) (hh : HeapAt (fun _ => False) w h v) (hn : Tr.sizeL h ≤ 1099511627776) (hn2 : n ≤ 1099511627000) :
    Calls Tryd.prog 13 #[v, .int .i64 n] w fun e w' => ∃ v', e = .returned v' ∧ w.grownBy w' none ∧ NewRow w.heap.size w' (Slag.drain (minT id) (pop id) n h) v' := by
  obtain ⟨p, vs, rfl, hc, ht⟩ := hh
  obtain ⟨S, hS⟩ : ∃ S, w.heap.size = S := ⟨_, rfl⟩
  obtain ⟨i0, hi, hz0, hz1, hz2⟩ := info_parts info_elem
  have HS := Lib.hid hS
  have hg0 := World.grownBy_alloc w (.cells #[.pointer p] 28) none
  have hH0 : HeapAt (Xf (fun _ => False) w) (w.alloc (.cells #[.pointer p] 28)) h (.agg #[.pointer p]) := HeapAt.ext (HeapAt.weak ⟨p, vs, rfl, hc, ht⟩ (fun b hb hlt => by rcases hb with hb | hb; exact hb; omega)) (grown_ext hg0)
  have HH0 := Lib.hid hH0
  have HG0 := Lib.hid hg0
  have HB0 := Lib.hid (heap_alloc_new w (.cells #[.pointer p] 28))
  have HMN := Lib.hid (smin_any (fun b => b < w.heap.size) none 0 h (.agg #[.pointer p]) (w.alloc (.cells #[.pointer p] 28)) (Mt.nil (fun b hb => by simp; omega) 0))
  clear hc ht hg0 hH0
  go_enter Tryd.func13, Tryd.ntmps13
  go_wp2_with fail
  refine (smin_any (fun _ => False) none 0 h (.agg #[.pointer p]) _ (Mt.nil (fun b hb => hb.elim) 0) (HeapAt.weak HH0.out (fun _ h _ => h.elim)) hn).mono ?_
  rintro e w1 ⟨rfl, hg1, -⟩
  have HB1 := Lib.hid (box_none hg1 HB0.out)
  have HH1 := Lib.hid (HH0.out.ext (grown_ext hg1))
  have HG1 := Lib.hid (grown_trans HG0.out hg1)
  have hlt1 : S < w1.heap.size := lt_of_heap (by have := HB1.out; rw [HS.out] at this; exact this)
  have HI0 : Hid (DrainInv w n h S w1.heap.size 0 h [] (.slice none 0 0) (w1.alloc (.cells #[.int .i64 (minE h).1, .int .i64 (minE h).2] 31))) := Lib.hid
    ⟨grown_alloc HG1.out _, ⟨p, heap_alloc_lt (by have := HB1.out; rw [HS.out] at this; exact this) _, (HeapAt.weak HH1.out (fun b hb _ => by
        rcases hb with hb | hb | hb
        · exact .inr (by have := HS.out; omega)
        · exact .inr (by have := HS.out; omega)
        · cases hb)).ext (grown_ext (World.grownBy_alloc w1 _ none))⟩, heap_alloc_new w1 _, World.ownsRow_nil _ _ _ _, ⟨by simp [Value.ownBlock], by simp [Value.ownBlock]⟩, by omega, ⟨by have := HS.out; omega, by have := HS.out; omega⟩, hn, by simp, rfl, Nat.zero_le _⟩
  clear hg1
  unfold elV
  go_wp2_with fail
  clear hS hlt1
  generalize w1.heap.size = xb at *
  go_loopw [5, 7, 8] (fun v is i wr => ∃ (k : Nat) (cur : List (Tr E)) (acc : List E), i = .int .i64 k ∧ is = .bool (!cur.isEmpty) ∧ DrainInv w n h S xb k cur acc v wr) (fun _ _ i _ => n - (intOf i).toNat)
  case atStart => exact ⟨0, h, [], rfl, rfl, HI0.out⟩
  case round =>
    obtain ⟨k, cur, acc, rfl, rfl, hI⟩ := hrel
    have HI := Lib.hid hI
    have hkn := hI.le
    by_cases hlt : k < n
    · by_cases hne : cur = []
      · have HNE := Lib.hid hne
        have hb : (!cur.isEmpty) = false := by rw [hne]; rfl
        rw [hb]
        clear hI hne
        go_wp2_with fail
        go_ret
        refine ⟨_, rfl, HI.out.gr, ?_⟩
        rw [HI.out.eq, HNE.out, drain_nil, List.append_nil]
        exact NewRow.of_owns HI.out.row (Nat.le_refl _)
      · have HNE := Lib.hid hne
        have hb : (!cur.isEmpty) = true := by cases cur with | nil => exact absurd rfl hne | cons _ _ => rfl
        rw [hb]
        have c1 := cell_of hI.bX 0 (v := .int .i64 (minE cur).1) rfl
        have c2 := cell_of hI.bX 1 (v := .int .i64 (minE cur).2) rfl
        clear hI hne
        go_wp2_with (at_builtin; refine wpList_append_own_at _ rfl _ _ 22 rfl w.heap.size 31 i0 (.agg #[.int .i64 0, .int .i64 0]) 2 16 Tryd.underlying22 hi hz0 hz1 hz2 rfl (by decide) _ acc.length (eCells acc) rfl (HI.out.row.alloc _) ⟨wr.heap.size, 0, none⟩ 1 1 [.int .i64 (minE cur).1, .int .i64 (minE cur).2] rfl rfl (cell_two_new _ _ _ _) (by simp [Value.oneCell']) ?c0 ?c1 ?c2 ?_)
        case c0 => have := HI.out.len; unfold maxLen; omega
        case c1 => have := HI.out.len; omega
        case c2 => have := HI.out.gr.size; simp; omega
        intro v1 w1' hown1 hgu1 hnil hat
        obtain ⟨a1, ⟨q1, a2, a3⟩, a4, a5, a6, a7⟩ := HI.out.appended (o := .cells #[.int .i64 (minE cur).1, .int .i64 (minE cur).2] 31) hown1 hgu1 (by simpa using hat)
        have HA1 := Lib.hid a1
        have HA2 := Lib.hid a2
        have HA4 := Lib.hid a4
        have HA56 := Lib.hid (And.intro a5 a6)
        have HROW := Lib.hid hown1
        have hsz := HI.out.sz
        have b1 := cell_of a2 0 (v := .pointer q1) rfl
        have HPC := Lib.hid (spop_any (Yd S xb v1) none 0 cur (.agg #[.pointer q1]) w1' (Mt.nil a7 0) a3 hsz)
        have HA7 := Lib.hid a7
        clear hown1 hgu1 hnil hat a1 a2 a3 a4 a5 a6 a7 c1 c2
        go_wp2_with fail
        refine HPC.out.mono ?_
        rintro e w2' ⟨v2, rfl, hg2, -, hh2⟩
        obtain ⟨q2, vs2, rfl, -, -⟩ := id hh2
        have hS2 := box_none hg2 HA2.out
        have d1 := cell_of hS2 0 (v := .pointer q1) rfl
        have d2 := frozen_of hS2 0
        have hS3 := heap_set_same hS2 0 (.pointer q2)
        have d3 := cell_of hS3 0 (v := .pointer q2) rfl
        have hx1 : Ext (Yd S xb v1) w2' (w2'.setCell ⟨S, 0, none⟩ (.pointer q2)) := Ext.set w2' (p := ⟨S, 0, none⟩) (.inl rfl) _
        have HMC := Lib.hid (smin_any (Yd S xb v1) none 0 (pop id cur) (.agg #[.pointer q2]) (w2'.setCell ⟨S, 0, none⟩ (.pointer q2)) (Mt.nil (fun b hb => by have := HA7.out b hb; have := hg2.size; simp [World.setCell]; omega) 0) (hh2.ext hx1) (by have := pop_size HNE.out; omega))
        have HG2 := Lib.hid hg2
        have HH2 := Lib.hid hh2
        have HX3 := Lib.hid (heap_set_ne (box_none hg2 HA4.out) ⟨S, 0, none⟩ (.pointer q2) (by simpa using Ne.symm HI.out.ne))
        clear hg2 hh2 hS2 hS3 hx1 b1
        unfold mval at HPC HMC
        go_wp2_with fail
        refine HMC.out.mono ?_
        rintro e w3' ⟨rfl, hg3, -⟩
        have hX4 := box_none hg3 HX3.out
        have g1 := cell_of hX4 0 (v := .int .i64 (minE cur).1) rfl
        have g2 := cell_of hX4 1 (v := .int .i64 (minE cur).2) rfl
        have g3 := frozen_of hX4 0
        have g4 := frozen_of hX4 1
        have HNEXT := Lib.hid (HI.out.next HNE.out hlt HA1.out HA56.out HROW.out HG2.out HA2.out HA4.out HH2.out hg3)
        clear hX4 hg3
        unfold elV
        go_wp2
        go_roundw
        case rel => exact ⟨k + 1, pop id cur, acc ++ [minE cur], by go_num, rfl, HNEXT.out⟩
        case measure => simp [intOf]; omega
    · obtain rfl : k = n := by omega
      go_wp2_with fail
      go_ret
      refine ⟨_, rfl, HI.out.gr, ?_⟩
      rw [HI.out.eq, Nat.sub_self]
      rw [show Slag.drain (minT id) (pop id) 0 cur = [] from rfl, List.append_nil]
      exact NewRow.of_owns HI.out.row (Nat.le_refl _)
end Go.Proofs.YtjglbgienopocaaDoor
