import Derived.Test.YtgdnlolicjdfoaaDoorW27
/- Show of a heap. -/
namespace Go.Proofs.YtgdnlolicjdfoaaDoor
open Go Go.Proofs Go.RowKit Slag

def hText (h : List (Tr E)) : List UInt8 := if h = [] then [46] else Lib.join (h.map tText) [32]
def strV (l : List UInt8) : Value := .string ⟨l.toArray⟩
theorem info_string : (Tryd.prog.info? 9).map (fun i => (i.zero, i.size, i.bytes)) = some (some (.string ⟨#[]⟩), 1, 16) := by kernel_rfl
def sT (h : List (Tr E)) : List Value := h.map (fun t => strV (tText t))
theorem sT_take {h : List (Tr E)} {k : Nat} {t : Tr E} (ht : h[k]? = some t) : (sT h).take (k + 1) = (sT h).take k ++ [strV (tText t)] := by
  obtain ⟨h1, h2⟩ := List.getElem?_eq_some_iff.1 ht
  have h3 : k < (sT h).length := by simpa [sT] using h1
  rw [List.take_succ_eq_append_getElem h3]
  congr 2
  simp [sT, h2]
theorem sT_full (h : List (Tr E)) : (sT h).take h.length = sT h := by rw [show h.length = (sT h).length from by simp [sT], List.take_length]
def sB (h : List (Tr E)) : List ByteArray := h.map (fun t => ⟨(tText t).toArray⟩)
theorem sB_text (h : List (Tr E)) : (sB h).map (·.data.toList) = h.map tText := by simp [sB]
theorem joinTail_le (l : List (Tr E)) (hs : ∀ x ∈ Tr.allL l, ShortE x) : (Lib.joinTail [32] (l.map tText)).length ≤ 60 * Tr.sizeL l := by
  induction l with
  | nil => simp [Lib.joinTail]
  | cons t l ih =>
    have h1 := tText_le t (fun x hx => hs x (by rw [Tr.allL_cons]; simp [hx]))
    have h2 := ih (fun x hx => hs x (by rw [Tr.allL_cons]; simp [hx]))
    rw [Tr.sizeL_cons]
    simp only [Lib.joinTail, List.map_cons, List.flatten_cons, List.length_append, List.length_cons, List.length_nil] at *; omega
theorem join_le (l : List (Tr E)) (hs : ∀ x ∈ Tr.allL l, ShortE x) : (Lib.join (l.map tText) [32]).length ≤ 60 * Tr.sizeL l := by
  cases l with
  | nil => simp [Lib.join_nil]
  | cons t l =>
    have h1 := tText_le t (fun x hx => hs x (by rw [Tr.allL_cons]; simp [hx]))
    have h2 := joinTail_le l (fun x hx => hs x (by rw [Tr.allL_cons]; simp [hx]))
    rw [List.map_cons, Lib.join_cons, List.length_append, Tr.sizeL_cons]; omega
set_option maxRecDepth 100000 in
set_option maxHeartbeats 4000000 in
theorem sshow_any (h : List (Tr E)) (v : Value) (w : World) (hh : HeapAt (fun _ => False) w h v) (hn : Tr.sizeL h ≤ 1099511627776) (hok : ∀ x ∈ Tr.allL h, ElOk w x) :
    Calls Tryd.prog 40 #[v] w fun e w' => e = .returned (strV (hText h)) ∧ w.grownBy w' none := by
  obtain ⟨p, vs, rfl, hc, ht⟩ := hh
  have hl := ht.length
  have hb := Tr.length_le_sizeL h
  obtain ⟨i0, hi, hz0, hz1, hz2⟩ := info_parts info_string
  have HOK := Lib.hid hok
  have HG0 := Lib.hid (World.grownBy_alloc w (.cells #[.pointer p] 64) none)
  have HC := Lib.hid (hc.ext (grown_ext HG0.out))
  have HT := Lib.hid (ht.ext (grown_ext HG0.out))
  have HL := Lib.hid hl
  clear hc ht hl hok
  go_enter Tryd.func40, Tryd.ntmps40
  go_wp2_with fail
  generalize (w.alloc (.cells #[.pointer p] 64)) = W0 at *
  refine (lall_any _ p vs W0 HC.out (by have := HL.out; omega)).mono ?_
  rintro e w1 ⟨u1, rfl, ho1, hg1⟩
  have HO1 : Hid (RowAt (fun _ => False) 84 1 w1 h.length (vs.map pv) u1) := Lib.hid (by have := RowAt.of_owns (X := fun _ => False) ho1 (fun b hb => hb.elim); rw [HL.out] at this; exact this)
  have HG1 := Lib.hid (grown_trans HG0.out hg1)
  have HOK1 := Lib.hid (fun x hx => (HOK.out x hx).later HG1.out)
  have HT1 := Lib.hid (HT.out.ext (grown_ext hg1))
  obtain ⟨-, p1, c1, rfl, -⟩ := id HO1.out
  clear ho1 hg1
  go_wp2_with fail
  go_loopw [3, 10] (fun s i wr => ∃ k : Nat, k ≤ h.length ∧ i = .int .i64 k ∧ w1.grownBy wr none ∧ Hid (wr.ownsRow w1.heap.size 9 1 s k ((sT h).take k))) (fun _ i _ => h.length - (intOf i).toNat)
  case atStart => exact ⟨0, Nat.zero_le _, rfl, grown_refl _ _, Lib.hid (World.ownsRow_nil _ _ _ _)⟩
  case round =>
    obtain ⟨k, hk, rfl, hg, HROW⟩ := hrel
    have HG := Lib.hid hg
    clear hg
    by_cases hlt : k < h.length
    · obtain ⟨t, ht⟩ : ∃ t, h[k]? = some t := ⟨h[k], by simp [hlt]⟩
      obtain ⟨b, off, tb, rfl, -, hcell, htb⟩ := row_get HO1.out HT1.out ht
      have d1 := hcell wr (grown_ext HG.out)
      have hsz := size_le_of_get ht
      have HSHOW := Lib.hid (tshow_any t.size t tb wr (htb.ext (grown_ext HG.out)) (Nat.le_refl _) (by omega) (fun x hx => (HOK1.out x (Tr.mem_allL.2 ⟨t, List.mem_of_getElem? ht, hx⟩)).later HG.out))
      have HTK : Hid ((sT h).take (k + 1) = (sT h).take k ++ [strV (tText t)]) := Lib.hid (by
        exact sT_take ht)
      clear hcell htb hsz ht
      go_wp2_with fail
      refine HSHOW.out.mono ?_
      rintro e w2 ⟨rfl, hg2⟩
      have HG2 := Lib.hid (grown_trans HG.out hg2)
      have HR2 := Lib.hid (ownsRow_keep HROW.out hg2 (fun g e => by cases e))
      clear hg2
      go_wp2_with (at_builtin; refine wpList_append_own_at _ rfl _ _ 104 rfl w1.heap.size 9 i0 (.string ⟨#[]⟩) 1 16 Tryd.underlying104 hi hz0 hz1 hz2 rfl (by decide) _ k ((sT h).take k) rfl (HR2.out.alloc _) ⟨w2.heap.size, 0, none⟩ 1 1 [strV (tText t)] rfl rfl (cell_one_new _ _ _) (by simp [Value.oneCell', strV]) ?c0 ?c1 ?c2 ?_)
      case c0 => unfold maxLen; omega
      case c1 => omega
      case c2 => have := HG2.out.size; simp; omega
      intro v3 w3 hown3 hg3 _ _
      have HR3 : Hid (w3.ownsRow w1.heap.size 9 1 v3 (k + 1) ((sT h).take (k + 1))) := Lib.hid (by rw [HTK.out]; exact hown3)
      have HG3 := Lib.hid (grown_own (grown_alloc HG2.out _) hg3 (HR2.out.alloc _) (Nat.le_refl _))
      clear hown3 hg3
      go_wp2_with fail
      go_roundw
      case rel => exact ⟨k + 1, by omega, by go_num, HG3.out, HR3⟩
      case measure => simp [intOf]; omega
    · obtain rfl : k = h.length := by omega
      have hrow := HROW.out
      rw [sT_full] at hrow
      by_cases hnil : h = []
      · have HNIL := Lib.hid hnil
        have hlen0 : h.length = 0 := by rw [hnil]; rfl
        rcases hrow.2 with ⟨rfl, _⟩ | ⟨g, cap, _, rfl, _⟩
        · clear hrow hnil
          go_wp2_with fail
          go_ret
          exact ⟨by rw [hText, if_pos HNIL.out]; rfl, grown_trans HG1.out HG.out⟩
        · clear hrow hnil
          go_wp2_with fail
          go_ret
          exact ⟨by rw [hText, if_pos HNIL.out]; rfl, grown_trans HG1.out HG.out⟩
      · have HNIL := Lib.hid hnil
        have hlen0 : 0 < h.length := List.length_pos_iff.2 hnil
        obtain ⟨g, cap, rfl⟩ := owns_head hrow hlen0
        have hcap : h.length ≤ cap := by
          rcases hrow.2 with ⟨h1, _⟩ | ⟨g', cap', _, h1, _, _, h2, _⟩
          · cases h1
          · cases h1; exact h2
        have hne0 : ¬ (h.length : Int) = 0 := by omega
        have hlenB : (sB h).length = h.length := by simp [sB]
        have hj := Tryd.strings_Join g 0 cap (sB h) ⟨#[32]⟩ wr (fun j x hx => by
          have hj : j < h.length := by have := (List.getElem?_eq_some_iff.1 hx).1; rwa [hlenB] at this
          rw [Nat.zero_add, hrow.cellAt j (by omega)]
          simp only [sB, List.getElem?_map] at hx
          simp only [sT, List.getElem?_map]
          cases hh : h[j]? with
          | none => rw [hh] at hx; simp at hx
          | some t => rw [hh] at hx; simp at hx; rw [← hx]; rfl) (hrow.lt g rfl).2 (by rw [hlenB]; omega) (by rw [hlenB]; exact hcap) (by
            rw [sB_text]
            have := join_le h (fun x hx => ⟨(HOK.out x hx).1.1, (HOK.out x hx).2.1⟩)
            show (Lib.join (h.map tText) [32]).length ≤ _
            omega)
        rw [sB_text, hlenB] at hj
        have HJ := Lib.hid hj
        clear hrow hj hnil
        go_wp2_with fail
        refine HJ.out.mono ?_
        rintro e w5 ⟨rfl, hb5⟩
        have HB5 := Lib.hid hb5
        clear hb5
        go_wp2_with fail
        go_ret
        exact ⟨by rw [hText, if_neg HNIL.out]; rfl, grown_trans (grown_trans HG1.out HG.out) (below_grown HB5.out none)⟩
end Go.Proofs.YtgdnlolicjdfoaaDoor
