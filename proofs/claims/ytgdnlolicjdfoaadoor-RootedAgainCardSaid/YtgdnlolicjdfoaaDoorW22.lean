import Derived.Test.YtgdnlolicjdfoaaDoorW21
/- The reference's order: Less, Put, Sort, Same. -/
namespace Go.Proofs.YtgdnlolicjdfoaaDoor
open Go Go.Proofs Go.RowKit Slag

theorem rless_any (a b : E) (w : World) : Calls Tryd.prog 18 #[elV a, elV b] w fun e w' => e = .returned (.bool (less a b)) ∧ w.grownBy w' none := by
  obtain ⟨a1, a2⟩ := a
  obtain ⟨b1, b2⟩ := b
  unfold elV
  go_enter Tryd.func18, Tryd.ntmps18
  go_wp2
  all_goals go_ret
  all_goals (refine ⟨ret_bool ?_, grown_two _ _ _⟩; unfold less; first | (simp; done) | (rw [Bool.eq_iff_iff]; simp; omega))

theorem ins_step (l : List E) (x : E) (k : Nat) (y : E) (hy : l[k]? = some y) (h : ins l x = l.take k ++ ins (l.drop k) x) (hl : less y x = true) : ins l x = l.take (k + 1) ++ ins (l.drop (k + 1)) x := by
  obtain ⟨hk, rfl⟩ := List.getElem?_eq_some_iff.1 hy
  rw [h, List.drop_eq_getElem_cons hk, List.take_succ_eq_append_getElem hk]
  rw [show ins (l[k] :: l.drop (k + 1)) x = l[k] :: ins (l.drop (k + 1)) x from by simp [ins, hl], List.append_assoc]; rfl
theorem ins_at (l : List E) (x : E) (k : Nat) (_hk : k ≤ l.length) (h : ins l x = l.take k ++ ins (l.drop k) x) (hn : ∀ y, l[k]? = some y → less y x = false) : ins l x = l.take k ++ x :: l.drop k := by
  rw [h]
  rcases Nat.lt_or_ge k l.length with hk' | hk'
  · have hf := hn l[k] (by simp [hk'])
    rw [List.drop_eq_getElem_cons hk']
    simp [ins, hf]
  · rw [List.drop_eq_nil_of_le hk']; simp [ins]
def offp (p : Option Addr) (k cap : Nat) : Option Addr := p.map fun a => if cap = k then a else ⟨a.block, a.off + k * 2, none⟩
theorem run_take {P : Program} (T E : TypeId) (i : TypeInfo) (hT : P.underlying T = some (.slice E)) (hi : P.info? E = some i) (_hs : i.size = 2) (p : Option Addr) (n cap k : Nat) (hk : k ≤ n) (hc : n ≤ cap) (w : World) :
    (Instr.slice T (.slice p n cap) none (some (.int .i64 k)) none).run P w = .ok (.slice p k cap) w := by
  have h1 : (k : Int) ≤ cap := by omega
  have h2 : (0 : Int) ≤ k := by omega
  cases p with
  | none => simp [Instr.slice, Instr.sliceBounds, run_underlying hT, sizeOf, typeInfo, hi, go_sem, h1, h2]
  | some a =>
    obtain ⟨b, off, spot⟩ := a
    simp [Instr.slice, Instr.sliceBounds, run_underlying hT, sizeOf, typeInfo, hi, go_sem, h1, h2, Addr.add]
theorem run_drop {P : Program} (T E : TypeId) (i : TypeInfo) (hT : P.underlying T = some (.slice E)) (hi : P.info? E = some i) (hs : i.size = 2) (p : Option Addr) (n cap k : Nat) (hp : ∀ a, p = some a → 0 < cap → a.spot = none) (hk : k ≤ n) (_hc : n ≤ cap) (w : World) :
    (Instr.slice T (.slice p n cap) (some (.int .i64 k)) none none).run P w = .ok (.slice (offp p k cap) (n - k) (cap - k)) w := by
  have h1 : (k : Int) ≤ n := by omega
  have h2 : (0 : Int) ≤ k := by omega
  cases p with
  | none => simp [Instr.slice, Instr.sliceBounds, run_underlying hT, sizeOf, typeInfo, hi, go_sem, h1, h2, offp]
  | some a =>
    obtain ⟨b, off, spot⟩ := a
    by_cases h4 : cap = k
    · simp [Instr.slice, Instr.sliceBounds, run_underlying hT, sizeOf, typeInfo, hi, hs, go_sem, h1, h2, offp, h4]
    · obtain rfl : spot = none := hp _ rfl (by omega)
      simp [Instr.slice, Instr.sliceBounds, run_underlying hT, sizeOf, typeInfo, hi, hs, go_sem, h1, h2, offp, h4, Addr.add]
theorem eCells_take (l : List E) (k : Nat) : eCells (l.take k) = (eCells l).take (k * 2) := by
  induction l generalizing k with
  | nil => simp [eCells]
  | cons x l ih =>
    cases k with
    | zero => simp [eCells]
    | succ k => rw [List.take_succ_cons, eCells_cons, eCells_cons, ih, show (k + 1) * 2 = k * 2 + 1 + 1 from by omega]; simp
theorem eCells_drop (l : List E) (k : Nat) : eCells (l.drop k) = (eCells l).drop (k * 2) := by
  induction l generalizing k with
  | nil => simp [eCells]
  | cons x l ih =>
    cases k with
    | zero => simp
    | succ k => rw [List.drop_succ_cons, eCells_cons, ih, show (k + 1) * 2 = k * 2 + 1 + 1 from by omega]; simp
theorem RowAt.take2 {X : Nat → Prop} {T : TypeId} {w : World} {l : List E} {p : Option Addr} {cap k : Nat} (h : RowAt X T 2 w l.length (eCells l) (.slice p l.length cap)) (hk : k ≤ l.length) : RowAt X T 2 w k (eCells (l.take k)) (.slice p k cap) := by
  obtain ⟨h1, p', cap', e, h3, h4, h5, h6⟩ := h
  cases e
  refine ⟨by rw [eCells_length, List.length_take]; omega, p, cap, rfl, by omega, h4, fun h => ⟨by have := (h5 h).1; omega, (h5 h).2⟩, fun a ha => ⟨(h6 a ha).1, fun hn => ?_⟩⟩
  obtain ⟨hX, cur, fz, hb, hc⟩ := (h6 a ha).2 (by omega)
  refine ⟨hX, cur, fz, hb, fun j u hu => hc j u ?_⟩
  rw [eCells_take, List.getElem?_take] at hu
  split at hu
  · exact hu
  · cases hu
theorem RowAt.drop2 {X : Nat → Prop} {T : TypeId} {w : World} {l : List E} {p : Option Addr} {cap k : Nat} (h : RowAt X T 2 w l.length (eCells l) (.slice p l.length cap)) (hk : k ≤ l.length) : RowAt X T 2 w (l.length - k) (eCells (l.drop k)) (.slice (offp p k cap) (l.length - k) (cap - k)) := by
  obtain ⟨h1, p', cap', e, h3, h4, h5, h6⟩ := h
  cases e
  refine ⟨by rw [eCells_length, List.length_drop], offp p k cap, cap - k, rfl, by omega, by omega, fun h => ?_, fun a ha => ?_⟩
  · cases p with
    | none => have := h5 rfl; omega
    | some a => simp [offp] at h
  · cases p with
    | none => simp [offp] at ha
    | some a0 =>
      obtain ⟨hs, hr⟩ := h6 a0 rfl
      simp only [offp, Option.map_some, Option.some.injEq] at ha
      by_cases hc : cap = k
      · rw [if_pos hc] at ha
        subst ha
        exact ⟨fun h => hs (by omega), fun h => by omega⟩
      · rw [if_neg hc] at ha
        subst ha
        refine ⟨fun _ => rfl, fun hn => ?_⟩
        obtain ⟨hX, cur, fz, hb, hcu⟩ := hr (by omega)
        refine ⟨hX, cur, fz, hb, fun j u hu => ?_⟩
        rw [eCells_drop, List.getElem?_drop] at hu
        have := hcu _ u hu
        simp only
        rw [show a0.off + k * 2 + j = a0.off + (k * 2 + j) from by omega]; exact this
theorem cell_keep {w w' : World} {a : Addr} {v : Value} (h : w.cell? a = some v) (hg : w.grownBy w' none) : w'.cell? a = some v := by
  rw [World.cell?_of_block (hg.block a.block (World.block_lt_of_cell? _ _ h) (by simp))]; exact h
set_option maxRecDepth 100000 in
set_option maxHeartbeats 2000000 in
theorem rput_any (X : Nat → Prop) (l : List E) (x : E) (v : Value) (w : World) (hv : RowAt X 24 2 w l.length (eCells l) v) (hn : l.length + 1 ≤ 1099511627776) :
    Calls Tryd.prog 21 #[v, elV x] w fun e w' => ∃ v', e = .returned v' ∧ w.grownBy w' none ∧ w'.ownsRow w.heap.size 24 2 v' (ins l x).length (eCells (ins l x)) := by
  have HPOS0 : Hid (ins l x = l.take 0 ++ ins (l.drop 0) x) := Lib.hid (by simp)
  have HINS : Hid (∀ k, k ≤ l.length → ins l x = l.take k ++ ins (l.drop k) x → (∀ y, l[k]? = some y → less y x = false) → ins l x = l.take k ++ x :: l.drop k) := Lib.hid (ins_at l x)
  have HSTEP : Hid (∀ k y, l[k]? = some y → ins l x = l.take k ++ ins (l.drop k) x → less y x = true → ins l x = l.take (k + 1) ++ ins (l.drop (k + 1)) x) := Lib.hid (ins_step l x)
  have hlx : (ins l x).length = l.length + 1 := by simpa using (ins_perm l x).length_eq
  have HLX := Lib.hid hlx
  obtain ⟨i0, hi, hz0, hz1, hz2⟩ := info_parts info_elem
  obtain ⟨x1, x2⟩ := x
  have HV := Lib.hid hv
  have HB := Lib.hid (heap_alloc_new w (.cells #[.int .i64 x1, .int .i64 x2] 24))
  have HG0 := Lib.hid (World.grownBy_alloc w (.cells #[.int .i64 x1, .int .i64 x2] 24) none)
  obtain ⟨-, p, cap, rfl, hcap, hmax, -⟩ := id hv
  have HTK := Lib.hid (fun k (hk : k ≤ l.length) w => run_take (P := Tryd.prog) 22 24 i0 Tryd.underlying22 hi hz1 p l.length cap k hk hcap w)
  have HDR := Lib.hid (fun k (hk : k ≤ l.length) w => run_drop (P := Tryd.prog) 22 24 i0 Tryd.underlying22 hi hz1 p l.length cap k (fun a ha => by obtain ⟨_, _, _, e, _, _, _, h6⟩ := HV.out; cases e; exact (h6 a ha).1) hk hcap w)
  clear hv hlx
  unfold elV
  go_enter Tryd.func21, Tryd.ntmps21
  go_wp2_with fail
  generalize (w.alloc (.cells #[.int .i64 x1, .int .i64 x2] 24)) = W0 at *
  go_loopw [5] (fun j wr => ∃ k : Nat, k ≤ l.length ∧ j = .int .i64 k ∧ W0.grownBy wr none ∧ Hid (ins l (x1, x2) = l.take k ++ ins (l.drop k) (x1, x2))) (fun j _ => l.length - (intOf j).toNat)
  case atStart => exact ⟨0, Nat.zero_le _, rfl, grown_refl _ _, HPOS0⟩
  case round =>
    obtain ⟨k, hk, rfl, hg, hpos⟩ := hrel
    have HG := Lib.hid hg
    have hbx := box_none hg HB.out
    have q1 := cell_of hbx 0 (v := .int .i64 x1) rfl
    have q2 := cell_of hbx 1 (v := .int .i64 x2) rfl
    clear hg hbx
    by_cases hlt : k < l.length
    · obtain ⟨y, hy⟩ : ∃ y, l[k]? = some y := ⟨l[k], by simp [hlt]⟩
      obtain ⟨e1, e2⟩ := eCells_get hy
      have hrow := HV.out.ext (grown_ext (grown_trans HG0.out HG.out))
      obtain ⟨b, off, rfl, d1⟩ := hrow.cell e1
      obtain ⟨b', off', e, d2⟩ := hrow.cell e2
      cases e
      rw [show off + 2 * k = off + k * 2 from by omega] at d1
      rw [show off + (2 * k + 1) = off + k * 2 + 1 from by omega] at d2
      have HY := Lib.hid hy
      have HRL := Lib.hid (fun w => rless_any y (x1, x2) w)
      obtain ⟨y1, y2⟩ := y
      unfold elV at HRL
      have HS := Lib.hid (fun (w' : World) (hg : wr.grownBy w' none) => (⟨cell_keep d1 hg, cell_keep d2 hg, cell_keep q1 hg, cell_keep q2 hg⟩ :
        w'.cell? ⟨b, off + k * 2, none⟩ = some (.int .i64 y1) ∧ w'.cell? ⟨b, off + k * 2 + 1, none⟩ = some (.int .i64 y2) ∧ w'.cell? ⟨w.heap.size, 0, none⟩ = some (.int .i64 x1) ∧ w'.cell? ⟨w.heap.size, 1, none⟩ = some (.int .i64 x2)))
      generalize hls : less (y1, y2) (x1, x2) = ls at HRL
      have HLS := Lib.hid hls
      clear e1 e2 hrow hy hls
      go_wp2_with fail
      go_region_held3 (fun w' => w'.cell? ⟨b, off + k * 2, none⟩ = some (.int .i64 y1) ∧ w'.cell? ⟨b, off + k * 2 + 1, none⟩ = some (.int .i64 y2) ∧ w'.cell? ⟨w.heap.size, 0, none⟩ = some (.int .i64 x1) ∧ w'.cell? ⟨w.heap.size, 1, none⟩ = some (.int .i64 x2))
        (first | exact HS.out _ hh1 | exact HS.out _ (grown_drew (grown_refl _ _)) | exact HS.out _ (grown_refl _ _))
        (first
          | (go_at_call 18; refine (HRL.out _).mono ?_; rintro e w1 ⟨rfl, hg1⟩; have hh1 := grown_trans (grown_drew (grown_refl wr none)) hg1))
      cases ls with
      | true =>
        have HP := Lib.hid (HSTEP.out k (y1, y2) HY.out hpos.out HLS.out)
        go_wp2_with fail
        go_roundw
        case rel => exact ⟨k + 1, by omega, by go_num, grown_trans HG.out hh1, HP⟩
        case measure => simp [intOf]; omega
      | false =>
        have hz := hh1
        generalize w1 = wz at *
        have HX : Hid (ins l (x1, x2) = l.take k ++ (x1, x2) :: l.drop k) := Lib.hid (HINS.out k hk hpos.out (fun y hy => by rw [HY.out] at hy; cases hy; exact HLS.out))
        have htk := HTK.out k hk
        have hdr := HDR.out k hk
        have HGZ : Hid (w.grownBy wz none) := Lib.hid (grown_trans HG0.out (grown_trans HG.out hz))
        have hbz := box_none hz (box_none HG.out HB.out)
        have p1 := cell_of hbz 0 (v := .int .i64 x1) rfl
        have p2 := cell_of hbz 1 (v := .int .i64 x2) rfl
        have HBZ := Lib.hid hbz
        have HK := Lib.hid hk
        clear hbz
        go_wp2_with (at_builtin; refine wpList_append_row rfl _ _ 22 rfl w.heap.size 24 i0 (.agg #[.int .i64 0, .int .i64 0]) 2 16 Tryd.underlying22 hi hz0 hz1 hz2 rfl (by decide) (.slice none 0 0) 0 [] rfl ?c0 _ k (eCells (l.take k)) (fun _ => False) rfl ?c1 (eCells_one _) ?c2 ?c3 ?c4 ?_)
        case c0 => exact World.ownsRow_nil _ _ _ _
        case c1 => exact ((HV.out.weak (Y := fun _ => False) (fun _ h => h.elim)).ext (grown_ext HGZ.out)).take2 hk
        case c2 => unfold maxLen; omega
        case c3 => omega
        case c4 => have := HGZ.out.size; omega
        intro v1 u1 hown1 hgu1
        have hgu1' : wz.grownBy u1 none := hgu1
        have HO1 := Lib.hid hown1
        have HU1 := Lib.hid hgu1'
        have p1' := cell_keep p1 hgu1'
        have p2' := cell_keep p2 hgu1'
        clear hown1 hgu1 hgu1' p1 p2
        go_wp2_with (at_builtin; refine wpList_append_row rfl _ _ 22 rfl w.heap.size 24 i0 (.agg #[.int .i64 0, .int .i64 0]) 2 16 Tryd.underlying22 hi hz0 hz1 hz2 rfl (by decide) v1 k (eCells (l.take k)) rfl ?c0 _ 1 [.int .i64 x1, .int .i64 x2] (fun _ => False) rfl ?c1 (by simp [Value.oneCell']) ?c2 ?c3 ?c4 ?_)
        case c0 => exact HO1.out.alloc _
        case c1 => exact ⟨rfl, some ⟨u1.heap.size, 0, none⟩, 1, rfl, Nat.le_refl _, by decide, (fun h => by cases h), fun a ha => by cases ha; exact ⟨fun _ => rfl, fun _ => ⟨id, _, (_, (0, 0)), heap_alloc_new u1 _, fun j u hu => by simpa using hu⟩⟩⟩
        case c2 => unfold maxLen; omega
        case c3 => omega
        case c4 => have := HGZ.out.size; have := HU1.out.size; simp; omega
        intro v2 u2 hown2 hgu2
        have HO2 := Lib.hid hown2
        have HU2 : Hid (w.grownBy u2 none) := Lib.hid (grown_own (grown_alloc (grown_trans HGZ.out HU1.out) _) hgu2 (HO1.out.alloc _) (Nat.le_refl _))
        clear hown2 hgu2 p1' p2'
        go_wp2_with (at_builtin; refine wpList_append_row rfl _ _ 22 rfl w.heap.size 24 i0 (.agg #[.int .i64 0, .int .i64 0]) 2 16 Tryd.underlying22 hi hz0 hz1 hz2 rfl (by decide) v2 (k + 1) (eCells (l.take k) ++ [.int .i64 x1, .int .i64 x2]) rfl ?c0 _ (l.length - k) (eCells (l.drop k)) (fun _ => False) rfl ?c1 (eCells_one _) ?c2 ?c3 ?c4 ?_)
        case c0 => exact HO2.out
        case c1 => exact ((HV.out.weak (Y := fun _ => False) (fun _ h => h.elim)).ext (grown_ext HU2.out)).drop2 hk
        case c2 => unfold maxLen; omega
        case c3 => omega
        case c4 => have := HU2.out.size; omega
        intro v3 u3 hown3 hgu3
        have HO3 := Lib.hid hown3
        have HU3 : Hid (w.grownBy u3 none) := Lib.hid (grown_own HU2.out hgu3 HO2.out (Nat.le_refl _))
        clear hown3 hgu3
        go_wp2
        go_ret
        refine ⟨v3, rfl, HU3.out, ?_⟩
        have := HO3.out
        rw [HLX.out, HX.out, eCells_append, eCells_cons]
        rw [show k + 1 + (l.length - k) = l.length + 1 from by omega] at this
        simpa using this
    · go_wp2_with fail
      go_quiet (fail)
      have hz : wr.grownBy (wr.drewN nq) none := grown_drewN (grown_refl wr none) _
      generalize wr.drewN nq = wz at *
      have HX : Hid (ins l (x1, x2) = l.take k ++ (x1, x2) :: l.drop k) := Lib.hid (HINS.out k hk hpos.out (fun y hy => by rw [List.getElem?_eq_none (by omega)] at hy; cases hy))
      have htk := HTK.out k hk
      have hdr := HDR.out k hk
      have HGZ : Hid (w.grownBy wz none) := Lib.hid (grown_trans HG0.out (grown_trans HG.out hz))
      have hbz := box_none hz (box_none HG.out HB.out)
      have p1 := cell_of hbz 0 (v := .int .i64 x1) rfl
      have p2 := cell_of hbz 1 (v := .int .i64 x2) rfl
      have HBZ := Lib.hid hbz
      have HK := Lib.hid hk
      clear hbz
      go_wp2_with (at_builtin; refine wpList_append_row rfl _ _ 22 rfl w.heap.size 24 i0 (.agg #[.int .i64 0, .int .i64 0]) 2 16 Tryd.underlying22 hi hz0 hz1 hz2 rfl (by decide) (.slice none 0 0) 0 [] rfl ?c0 _ k (eCells (l.take k)) (fun _ => False) rfl ?c1 (eCells_one _) ?c2 ?c3 ?c4 ?_)
      case c0 => exact World.ownsRow_nil _ _ _ _
      case c1 => exact ((HV.out.weak (Y := fun _ => False) (fun _ h => h.elim)).ext (grown_ext HGZ.out)).take2 hk
      case c2 => unfold maxLen; omega
      case c3 => omega
      case c4 => have := HGZ.out.size; omega
      intro v1 u1 hown1 hgu1
      have hgu1' : wz.grownBy u1 none := hgu1
      have HO1 := Lib.hid hown1
      have HU1 := Lib.hid hgu1'
      have p1' := cell_keep p1 hgu1'
      have p2' := cell_keep p2 hgu1'
      clear hown1 hgu1 hgu1' p1 p2
      go_wp2_with (at_builtin; refine wpList_append_row rfl _ _ 22 rfl w.heap.size 24 i0 (.agg #[.int .i64 0, .int .i64 0]) 2 16 Tryd.underlying22 hi hz0 hz1 hz2 rfl (by decide) v1 k (eCells (l.take k)) rfl ?c0 _ 1 [.int .i64 x1, .int .i64 x2] (fun _ => False) rfl ?c1 (by simp [Value.oneCell']) ?c2 ?c3 ?c4 ?_)
      case c0 => exact HO1.out.alloc _
      case c1 => exact ⟨rfl, some ⟨u1.heap.size, 0, none⟩, 1, rfl, Nat.le_refl _, by decide, (fun h => by cases h), fun a ha => by cases ha; exact ⟨fun _ => rfl, fun _ => ⟨id, _, (_, (0, 0)), heap_alloc_new u1 _, fun j u hu => by simpa using hu⟩⟩⟩
      case c2 => unfold maxLen; omega
      case c3 => omega
      case c4 => have := HGZ.out.size; have := HU1.out.size; simp; omega
      intro v2 u2 hown2 hgu2
      have HO2 := Lib.hid hown2
      have HU2 : Hid (w.grownBy u2 none) := Lib.hid (grown_own (grown_alloc (grown_trans HGZ.out HU1.out) _) hgu2 (HO1.out.alloc _) (Nat.le_refl _))
      clear hown2 hgu2 p1' p2'
      go_wp2_with (at_builtin; refine wpList_append_row rfl _ _ 22 rfl w.heap.size 24 i0 (.agg #[.int .i64 0, .int .i64 0]) 2 16 Tryd.underlying22 hi hz0 hz1 hz2 rfl (by decide) v2 (k + 1) (eCells (l.take k) ++ [.int .i64 x1, .int .i64 x2]) rfl ?c0 _ (l.length - k) (eCells (l.drop k)) (fun _ => False) rfl ?c1 (eCells_one _) ?c2 ?c3 ?c4 ?_)
      case c0 => exact HO2.out
      case c1 => exact ((HV.out.weak (Y := fun _ => False) (fun _ h => h.elim)).ext (grown_ext HU2.out)).drop2 hk
      case c2 => unfold maxLen; omega
      case c3 => omega
      case c4 => have := HU2.out.size; omega
      intro v3 u3 hown3 hgu3
      have HO3 := Lib.hid hown3
      have HU3 : Hid (w.grownBy u3 none) := Lib.hid (grown_own HU2.out hgu3 HO2.out (Nat.le_refl _))
      clear hown3 hgu3
      go_wp2
      go_ret
      refine ⟨v3, rfl, HU3.out, ?_⟩
      have := HO3.out
      rw [HLX.out, HX.out, eCells_append, eCells_cons]
      rw [show k + 1 + (l.length - k) = l.length + 1 from by omega] at this
      simpa using this
end Go.Proofs.YtgdnlolicjdfoaaDoor
