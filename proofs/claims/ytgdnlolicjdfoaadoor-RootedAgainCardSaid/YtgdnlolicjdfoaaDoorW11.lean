import Derived.Test.YtgdnlolicjdfoaaDoorW10
import Derived.Deep.QuietTactic
import Derived.BigQuiet
/- put, level. -/
namespace Go.Proofs.YtgdnlolicjdfoaaDoor
open Go Go.Proofs Go.RowKit Slag

theorem grown_drewN {a b : World} {m : Option Nat} (h : a.grownBy b m) (k : Nat) : a.grownBy (b.drewN k) m := ⟨h.os, h.tape, h.output, h.size, h.block⟩
def lenOf : Value → Nat | .slice _ n _ => n | _ => 0
/-- A row's tail, as Go cuts it. -/
theorem RowAt.tail {X : Nat → Prop} {T : TypeId} {w : World} {n : Nat} {c : Value} {cs : List Value} {b off cap : Nat} (h : RowAt X T 1 w (n + 1) (c :: cs) (.slice (some ⟨b, off, none⟩) (n + 1) cap)) :
    RowAt X T 1 w n cs (.slice (some ⟨b, off + 1, none⟩) n (cap - 1)) := by
  obtain ⟨h1, p, cap', h2, h3, h4, h5, h6⟩ := h
  simp only [Value.slice.injEq, true_and] at h2
  obtain ⟨rfl, rfl⟩ := h2
  refine ⟨by simp at h1; omega, some ⟨b, off + 1, none⟩, cap - 1, rfl, by omega, by omega, (fun h => by cases h), fun a ha => ?_⟩
  cases ha
  refine ⟨fun _ => rfl, fun _ => ?_⟩
  obtain ⟨hX, cur, fz, hb, hc⟩ := (h6 _ rfl).2 (by omega)
  refine ⟨hX, cur, fz, hb, fun j u hu => ?_⟩
  have := hc (j + 1) u (by simpa using hu)
  simp only at this ⊢
  rw [show off + 1 + j = off + (j + 1) from by omega]; exact this
theorem RowAt.tail0 {X : Nat → Prop} {T : TypeId} {w : World} {c : Value} {cs : List Value} {b off cap : Nat} (h : RowAt X T 1 w 1 (c :: cs) (.slice (some ⟨b, off, none⟩) 1 cap)) :
    RowAt X T 1 w 0 cs (.slice (some ⟨b, off, none⟩) 0 (cap - 1)) := by
  obtain ⟨h1, p, cap', h2, h3, h4, h5, h6⟩ := h
  simp only [Value.slice.injEq, true_and] at h2
  obtain ⟨rfl, rfl⟩ := h2
  refine ⟨by simp at h1; simp [h1], some ⟨b, off, none⟩, cap - 1, rfl, by omega, by omega, (fun h => by cases h), fun a ha => ?_⟩
  cases ha
  exact ⟨fun _ => rfl, fun h => by omega⟩
theorem trank_q (X : Nat → Prop) (t : Tr E) (b : Nat) (w : World) (h : TreeAt X w t b) :
    Calls Tryd.prog 56 #[.pointer (some ⟨b, 0, none⟩)] w fun e w' => e = .returned (.int .i64 t.rank) ∧ w' = w := (trank_any X t b w h).mono fun _ _ ⟨h1, h2⟩ => ⟨h1, h2.symm⟩
def tailOff (off cap : Nat) : Nat := if cap = 1 then off else off + 1
theorem run_tail {P : Program} (T E : TypeId) (i : TypeInfo) (hT : P.underlying T = some (.slice E)) (hi : P.info? E = some i) (hs : i.size = 1) (b off len cap : Nat) (hc : len + 1 ≤ cap) (w : World) :
    (Instr.slice T (.slice (some ⟨b, off, none⟩) (len + 1) cap) (some (.int .i64 1)) none none).run P w = .ok (.slice (some ⟨b, tailOff off cap, none⟩) len (cap - 1)) w := by
  have hadd : (⟨b, off, none⟩ : Addr).add 1 = ⟨b, off + 1, none⟩ := by unfold Addr.add; split <;> simp_all
  have h1 : (1 : Int) ≤ (len : Int) + 1 := by omega
  by_cases hcap : cap = 1
  · subst hcap
    obtain rfl : len = 0 := by omega
    simp [Instr.slice, Instr.sliceBounds, run_underlying hT, sizeOf, typeInfo, hi, hs, tailOff, go_sem]
  · simp [Instr.slice, Instr.sliceBounds, run_underlying hT, sizeOf, typeInfo, hi, hs, tailOff, hcap, go_sem, h1]
theorem RowAt.cut {X : Nat → Prop} {T : TypeId} {w : World} {n : Nat} {c : Value} {cs : List Value} {b off cap : Nat} (h : RowAt X T 1 w (n + 1) (c :: cs) (.slice (some ⟨b, off, none⟩) (n + 1) cap)) :
    RowAt X T 1 w n cs (.slice (some ⟨b, tailOff off cap, none⟩) n (cap - 1)) := by
  unfold tailOff
  split
  · rename_i hc
    subst hc
    obtain rfl : n = 0 := by
      obtain ⟨_, _, cap', h2, h3, -⟩ := h
      simp only [Value.slice.injEq, true_and] at h2
      omega
    exact h.tail0
  · exact h.tail
set_option maxRecDepth 100000 in
set_option maxHeartbeats 2000000 in
theorem put_any (X : Nat → Prop) (m : Option Nat) (n : Int) (t : Tr E) (l : List (Tr E)) (r : Nat) (vs : List Nat) (v : Value) (w : World) (hm : Mt X w m n) (ht : TreeAt X w t r) (hl : TreesAt X w l vs)
    (hv : RowAt X 84 1 w l.length (vs.map pv) v) (hn : t.size + Tr.sizeL l ≤ 1099511627776) :
    Calls Tryd.prog 69 #[mval m, .pointer (some ⟨r, 0, none⟩), v] w fun e w' => ∃ v' us, e = .returned v' ∧ w.grownBy w' m ∧ Mt X w' m (n + (putN id t l : Nat)) ∧ TreesAt X w' (putT id t l) us ∧ RowAt X 84 1 w' (putT id t l).length (us.map pv) v' := by
  obtain ⟨i0, hi, hz0, hz1, hz2⟩ := info_parts info_ptree
  have HM := Lib.hid hm
  have HT := Lib.hid ht
  have HL := Lib.hid hl
  have HV := Lib.hid hv
  obtain ⟨-, p, cap, rfl, -⟩ := id hv
  clear hm ht hl hv
  go_enter Tryd.func69, Tryd.ntmps69
  go_wp2
  go_loopw [1, 2] (fun x y wr => ∃ (t' : Tr E) (l' : List (Tr E)) (r' : Nat) (vs' : List Nat) (n' : Int), x = .pointer (some ⟨r', 0, none⟩) ∧ Mt X wr m n' ∧ TreeAt X wr t' r' ∧ TreesAt X wr l' vs' ∧ RowAt X 84 1 wr l'.length (vs'.map pv) y ∧
      w.grownBy wr m ∧ t'.size + Tr.sizeL l' ≤ 1099511627776 ∧ Hid (putT id t l = putT id t' l') ∧ Hid (n + (putN id t l : Nat) = n' + (putN id t' l' : Nat))) (fun _ y _ => lenOf y)
  case atStart => exact ⟨t, l, r, vs, n, rfl, HM.out, HT.out, HL.out, HV.out, grown_refl _ _, hn, Lib.hid rfl, Lib.hid rfl⟩
  case round =>
    obtain ⟨t', l', r', vs', n', rfl, hm', ht', hl', hv', hg', hn', hp1, hp2⟩ := hrel
    have HM' := Lib.hid hm'
    have HT' := Lib.hid ht'
    have HL' := Lib.hid hl'
    have HV' := Lib.hid hv'
    have HG' := Lib.hid hg'
    cases l' with
    | nil =>
      obtain ⟨-, p', cap', rfl, -⟩ := id hv'
      clear hm' ht' hl' hv' hg'
      go_wp2
      go_quiet (fail)
      have hput : putT id t l = t' :: [] := by rw [hp1.out]; rfl
      have hputn : n + (putN id t l : Nat) = n' := by rw [hp2.out]; simp [putN]
      have HP1 := Lib.hid hput
      have HP2 := Lib.hid hputn
      clear hput hputn
      go_wp2_with (at_builtin; refine wpList_append_row rfl _ _ 82 rfl w.heap.size 84 i0 (.pointer none) 1 8 Tryd.underlying82 hi hz0 hz1 hz2 rfl (by decide) _ 1 [.pointer (some ⟨r', 0, none⟩)] rfl ?c0 _ 0 (vs'.map pv) X rfl ?c1 (pv_one _) ?c2 ?c3 ?c4 ?_)
      case c0 => exact ⟨rfl, .inr ⟨_, 1, _, rfl, by have := HG'.out.size; simp; omega, heap_alloc_new _ _, Nat.le_refl _, by decide, rfl, rfl⟩⟩
      case c1 => exact HV'.out.ext (grown_ext (grown_alloc (grown_drewN (grown_refl wr none) _) _))
      case c2 => have h1 := Tr.length_le_sizeL ([] : List (Tr E)); unfold maxLen; simp at h1 ⊢ <;> omega
      case c3 => have h1 := Tr.length_le_sizeL ([] : List (Tr E)); simp at h1 ⊢ <;> omega
      case c4 => have := HG'.out.size; simp; omega
      intro v' w1 hown hg
      have hgr : wr.grownBy w1 none := (grown_row (grown_alloc (grown_drewN (grown_refl wr none) _) _) hg (fun i hi => by simp [Value.ownBlock] at hi; omega))
      have HGR := Lib.hid hgr
      have HOWN := Lib.hid hown
      clear hgr hown hg
      go_wp2
      go_ret
      refine ⟨v', r' :: vs', rfl, grown_trans HG'.out (grown_of_none m HGR.out), ?_, ?_, ?_⟩
      · rw [HP2.out]; exact HM'.out.to HGR.out.size (HM'.out.at_.grown HGR.out)
      · rw [HP1.out]; exact TreesAt.cons (HT'.out.ext (grown_ext HGR.out)) (HL'.out.ext (grown_ext HGR.out))
      · rw [HP1.out]; have := RowAt.of_owns HOWN.out (X := X) (fun b hb => HM.out.lt b hb); first | exact this | (rw [Nat.add_comm] at this; exact this)
    | cons u l'' =>
      obtain ⟨ub, vs'', rfl, hut, hlt''⟩ := hl'.of_cons
      replace hv' : RowAt X 84 1 wr (l''.length + 1) (pv ub :: vs''.map pv) _ := hv'
      have HV' := Lib.hid hv'
      obtain ⟨-, p', cap', rfl, hcap', hmax', -⟩ := id hv'
      obtain ⟨b, off, rfl, hcell⟩ := hv'.cell (j := 0) (u := .pointer (some ⟨ub, 0, none⟩)) rfl
      rw [Nat.add_zero] at hcell
      have HUT := Lib.hid hut
      have HLT := Lib.hid hlt''
      have hsz1 := Tr.size_pos t'
      have hsz2 := Tr.sizeL_cons u l''
      have hll := Tr.length_le_sizeL l''
      have HSZ2 := Lib.hid hsz2
      have HLL := Lib.hid hll
      have hlenb : l''.length ≤ 1099511627776 := by omega
      unfold maxLen at hmax'
      have hd0 : decide ((0 : Int) < (l''.length : Int) + 1) = true := by simp <;> omega
      clear hm' ht' hl' hv' hg' hut hlt'' hsz1 hsz2 hll
      by_cases hle : u.rank ≤ t'.rank
      · have hd1 : decide ((u.rank : Int) ≤ (t'.rank : Int)) = true := by simp; omega
        go_wp2
        go_quiet (first
          | (go_at_call_of 56 (Value.pointer (some ⟨r', 0, none⟩)); exact Calls.quiet_of_same (trank_q X t' r' _ (HT'.out.ext (grown_ext (grown_drewN (grown_refl wr none) _)))))
          | (go_at_call_of 56 (Value.pointer (some ⟨ub, 0, none⟩)); exact Calls.quiet_of_same (trank_q X u ub _ (HUT.out.ext (grown_ext (grown_drewN (grown_refl wr none) _))))))
        have HLK : Hid (∀ w', wr.grownBy w' none → Calls Tryd.prog 70 #[mval m, .pointer (some ⟨r', 0, none⟩), .pointer (some ⟨ub, 0, none⟩)] w' fun e w'' => ∃ r, e = .returned (.pointer (some ⟨r, 0, none⟩)) ∧ w'.grownBy w'' m ∧ Mt X w'' m (n' + 2) ∧ TreeAt X w'' (link id t' u) r) :=
          Lib.hid fun w' hg => link_any X m n' t' u r' ub w' (HM'.out.to hg.size (HM'.out.at_.grown hg)) (HT'.out.ext (grown_ext hg)) (HUT.out.ext (grown_ext hg)) (by have := HSZ2.out; omega)
        have HS : Hid (∀ w', wr.grownBy w' m → w'.cell? ⟨b, off, none⟩ = some (.pointer (some ⟨ub, 0, none⟩))) := Lib.hid fun w' hg => by
          obtain ⟨b', off', h1, h2⟩ := (HV'.out.ext (HM'.out.ext hg)).cell (j := 0) (u := .pointer (some ⟨ub, 0, none⟩)) rfl
          cases h1; exact h2
        have hrt := fun w => run_tail (P := Tryd.prog) 82 84 i0 Tryd.underlying82 hi hz1 b off l''.length cap' hcap' w
        go_wp2_with fail
        go_region_held3 (fun w' => w'.cell? ⟨b, off, none⟩ = some (.pointer (some ⟨ub, 0, none⟩)))
          (first | exact HS.out _ hh3 | exact HS.out _ (grown_drew (grown_drewN (grown_refl _ _) _)) | exact HS.out _ (grown_drewN (grown_refl _ _) _))
          (first | (go_at_call 70; refine (HLK.out _ (grown_drew (grown_drewN (grown_refl _ _) _))).mono ?_; rintro e w3 ⟨r3, rfl, hg3, hm3, ht3⟩; have hh3 := grown_trans (grown_drew (grown_drewN (grown_refl wr m) nq)) hg3))
        have HH3 := Lib.hid hh3
        have HM3 := Lib.hid hm3
        have HT3 := Lib.hid ht3
        rename_i hHeld
        clear hHeld hh3 hm3 ht3 hg3
        go_wp2
        go_roundw
        case rel =>
          refine ⟨link id t' u, l'', r3, vs'', n' + 2, rfl, HM3.out, HT3.out, HLT.out.ext (HM'.out.ext HH3.out), (HV'.out.ext (HM'.out.ext HH3.out)).cut, grown_trans HG'.out HH3.out, ?_, ?_, ?_⟩
          · rw [link_size]; have := HSZ2.out; omega
          · exact Lib.hid (by rw [hp1.out, putT, if_pos hle])
          · exact Lib.hid (by rw [hp2.out, putN, if_pos hle]; omega)
        case measure => simp [lenOf]
      · have hd1 : decide ((u.rank : Int) ≤ (t'.rank : Int)) = false := by simp; omega
        go_wp2
        go_quiet (first
          | (go_at_call_of 56 (Value.pointer (some ⟨r', 0, none⟩)); exact Calls.quiet_of_same (trank_q X t' r' _ (HT'.out.ext (grown_ext (grown_drewN (grown_refl wr none) _)))))
          | (go_at_call_of 56 (Value.pointer (some ⟨ub, 0, none⟩)); exact Calls.quiet_of_same (trank_q X u ub _ (HUT.out.ext (grown_ext (grown_drewN (grown_refl wr none) _))))))
        have hput : putT id t l = t' :: u :: l'' := by rw [hp1.out, putT, if_neg hle]
        have hputn : n + (putN id t l : Nat) = n' := by rw [hp2.out, putN, if_neg hle]; simp
        have HP1 := Lib.hid hput
        have HP2 := Lib.hid hputn
        clear hput hputn
        go_wp2_with (at_builtin; refine wpList_append_row rfl _ _ 82 rfl w.heap.size 84 i0 (.pointer none) 1 8 Tryd.underlying82 hi hz0 hz1 hz2 rfl (by decide) _ 1 [.pointer (some ⟨r', 0, none⟩)] rfl ?c0 _ (l''.length + 1) ((ub :: vs'').map pv) X rfl ?c1 (pv_one _) ?c2 ?c3 ?c4 ?_)
        case c0 => exact ⟨rfl, .inr ⟨_, 1, _, rfl, by have := HG'.out.size; simp; omega, heap_alloc_new _ _, Nat.le_refl _, by decide, rfl, rfl⟩⟩
        case c1 => exact HV'.out.ext (grown_ext (grown_alloc (grown_drewN (grown_refl wr none) _) _))
        case c2 => have h1 := Tr.length_le_sizeL (u :: l''); unfold maxLen; simp at h1 ⊢ <;> omega
        case c3 => have h1 := Tr.length_le_sizeL (u :: l''); simp at h1 ⊢ <;> omega
        case c4 => have := HG'.out.size; simp; omega
        intro v' w1 hown hg
        have hgr : wr.grownBy w1 none := (grown_row (grown_alloc (grown_drewN (grown_refl wr none) _) _) hg (fun i hi => by simp [Value.ownBlock] at hi; omega))
        have HGR := Lib.hid hgr
        have HOWN := Lib.hid hown
        clear hgr hown hg
        go_wp2
        go_ret
        refine ⟨v', r' :: ub :: vs'', rfl, grown_trans HG'.out (grown_of_none m HGR.out), ?_, ?_, ?_⟩
        · rw [HP2.out]; exact HM'.out.to HGR.out.size (HM'.out.at_.grown HGR.out)
        · rw [HP1.out]; exact TreesAt.cons (HT'.out.ext (grown_ext HGR.out)) (HL'.out.ext (grown_ext HGR.out))
        · rw [HP1.out]; have := RowAt.of_owns HOWN.out (X := X) (fun b hb => HM.out.lt b hb); first | exact this | (rw [Nat.add_comm] at this; exact this)
end Go.Proofs.YtgdnlolicjdfoaaDoor
