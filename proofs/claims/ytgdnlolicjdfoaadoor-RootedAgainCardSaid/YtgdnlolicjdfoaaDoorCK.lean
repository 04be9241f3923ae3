import Derived.Test.YtgdnlolicjdfoaaDoorW2
import Derived.Test.YtgdnlolicjdfoaaDoorRows
import Derived.Test.YtgdnlolicjdfoaaDoorTie
import Derived.ProofKit
import Derived.LaidMore
import Derived.OpenShut
import Derived.Stop.Joined
import Derived.Below
import Derived.Carry
import Derived.ChangeSame
import Derived.Deep.SlicePairs
import Derived.SevenTiedAt
/- What the cards share: the listed tables, an argument that is a row of elements, the last step. -/
namespace Go.Proofs.YtgdnlolicjdfoaaDoor
open Go Go.ChangeShapes Go.WideShapes Go.ChangeAt Go.WideMaps Go.WideElems Go.RowKit Go.Deep Slag

theorem cOwn : ownKnob Tryd.prog.godebug = none := by kernel_rfl
theorem cLaid : laidOutB Tryd.prog = true := by kernel_rfl
def laidL : List (String × DataW Unit) := [("math/bits.deBruijn32tab", Rows.laid_math_bits_deBruijn32tab), ("math/bits.deBruijn64tab", Rows.laid_math_bits_deBruijn64tab), ("internal/strconv.uint64pow10", Rows.laid_internal_strconv_uint64pow10)]
theorem door_met (os : Os) (args : Array Value) : laidMetH Tryd.prog laidL ((World.doorLaid Tryd.prog 400 os).forCall (fun _ _ => 0) ⟨#[], args, []⟩).memory :=
  laidMetH_of_parts3 (fuel := 8) (laidMet_of_run' 8 (by kernel_rfl) (by kernel_rfl)) (by kernel_rfl) (by kernel_rfl)
section
variable {H : Type} {enc : TypeId × Value → H} {P : Program}
theorem post_of_below {f : Func} {s : ChangeSpec} {apart fresh handsOn again : Bool} {W W' : World} {args : Array Value} {v : Value} {ds gs : List (DataW H)} {before pa pv : List MemPlace}
    (hW : DataW.Whole enc P f.params.toList s.vars apart W args.toList ds gs before)
    (hres : ∀ (b : Nat) (sp : Nat → Bool) (hd : Bool), DataW.TrodAll enc P W' b sp hd f.resultTypes.toList (v.resultList f.resultTypes.size) (s.fn H (ds ++ gs)).results [])
    (hargs : ∀ sp : Nat → Bool, (∀ p ∈ before, sp p.block = true) → DataW.TrodAll enc P W' 0 sp true f.params.toList args.toList (s.fn H (ds ++ gs)).args pa)
    (hvars : ∀ sp : Nat → Bool, (∀ p ∈ before, sp p.block = true) → DataW.TrodVars enc P W' sp s.vars (s.fn H (ds ++ gs)).vars pv)
    (hps : before = pa ++ pv) (hb : Below W.heap.size W W')
    (hok : ∀ (j : Nat) (t : TypeId) (r : Value), f.resultTypes[j]? = some t → (v.resultList f.resultTypes.size)[j]? = some r → Value.okWide P W' .any 0 t r) :
    s.post enc P f apart fresh handsOn again W args v W' := by
  have hlt : ∀ p ∈ before, p.block < W.heap.size := fun p hp => hW.lt p hp
  have hold : ∀ p ∈ before, (fun b => decide (b < W.heap.size)) p.block = true := fun p hp => by simpa using hlt p hp
  refine ⟨ds, gs, before, [], pa, pv, hW, hres _ _ _, hargs _ hold, hvars _ hold, World.keptBut_mono (fun p hp => ⟨hp, ?_⟩) (hb.frame (· ∈ before)), fun _ => ?_⟩
  · rw [hps, List.mem_append] at hp
    exact Or.inr hp
  · obtain ⟨_, _, _, _, _, hz, hn⟩ := hW
    refine ⟨hok, _, _, ([] ++ pa) ++ pv, ⟨[] ++ pa, pv, trodAll_append (hargs _ (fun _ _ => rfl)) (hres _ _ _), hvars _ (fun _ _ => rfl), rfl, ?_, ?_⟩, ?_⟩
    · intro b off hp
      have hin : MemPlace.cell b off ∈ before := by rw [hps]; simpa using hp
      rw [hb.frozen (hlt _ hin)]
      exact hz b off hin
    · intro ha
      have := hn ha
      rw [hps] at this
      simpa using this
    · intro p hp _
      rw [hps]
      simpa using hp
end
theorem cell_block {W : World} {b o : Nat} {v : Value} (h : W.cell? ⟨b, o, none⟩ = some v) : ∃ (cur : Array Value) (fz : TypeId × (Nat × Nat)), W.heap[b]? = some (.cells cur fz.1 fz.2) ∧ cur[o]? = some v := by
  unfold World.cell? at h
  split at h
  · rename_i c T fz hb
    exact ⟨c, (T, fz), hb, by simpa using h⟩
  · cases h
theorem eCells_len (l : List E) : (eCells l).length = l.length * 2 := by
  induction l with
  | nil => rfl
  | cons x l ih => simp [eCells] at ih ⊢; omega
theorem eCells_at {l : List E} {k : Nat} {x : E} (h : l[k]? = some x) : (eCells l)[2 * k]? = some (.int .i64 x.1) ∧ (eCells l)[2 * k + 1]? = some (.int .i64 x.2) := by
  induction l generalizing k with
  | nil => simp at h
  | cons y l ih =>
    cases k with
    | zero => simp at h; subst h; simp [eCells]
    | succ k =>
      have := ih (k := k) (by simpa using h)
      simpa [eCells, show 2 * (k + 1) = 2 * k + 1 + 1 from by omega] using this
set_option maxRecDepth 100000 in
/-- An argument that is a row of elements. -/
theorem open_elems {H : Type} {enc : TypeId × Value → H} {W : World} {base : Nat} {v : Value} {d : DataW H} {ps : List MemPlace} (hv : Value.okWide Tryd.prog W .any base 22 v)
    (h : DataW.Trod enc Tryd.prog W 0 (fun _ => true) true 22 v d ps) : ∃ l : List E, RowAt (fun _ => False) 24 2 W l.length (eCells l) v ∧ ∀ x ∈ l, (Lit.int .i64 x.1).wf = true ∧ (Lit.int .i64 x.2).wf = true := by
  obtain ⟨a0, len, cap, rfl⟩ := okWide_slice Tryd.underlying22 hv
  obtain ⟨fuel, hf⟩ := h
  rcases open_slice_pairs Tryd.underlying22 Tryd.underlying24 (by kernel_rfl) rfl rfl (by kernel_rfl) (by kernel_rfl) hf with ⟨hcs, _⟩ | ⟨a, len', cap', m, n, V0, V1, D0, D1, P0, P1, hcs, _, hl, hm, hmm, _, hx⟩
  · simp [Value.cells] at hcs
    obtain ⟨rfl, rfl, rfl⟩ := hcs
    exact ⟨[], RowAt.nil _ _ _ _, by simp⟩
  · simp [Value.cells] at hcs
    obtain ⟨rfl, rfl, rfl⟩ := hcs
    simp only [if_true] at hmm
    subst hmm
    have each : ∀ i, i < m → ∃ x : E, W.cell? (a.add (i * 2)) = some (.int .i64 x.1) ∧ W.cell? (a.add (i * 2 + 1)) = some (.int .i64 x.2) ∧ (Lit.int .i64 x.1).wf = true ∧ (Lit.int .i64 x.2).wf = true := by
      intro i hi
      obtain ⟨h0, h1, t0, t1⟩ := hx i hi
      obtain ⟨k0, e0, _, w0⟩ := DataW.trod_int Tryd.underlying2 t0
      obtain ⟨k1, e1, _, w1⟩ := DataW.trod_int Tryd.underlying2 t1
      simp at e0 e1
      rw [e0] at h0; rw [e1] at h1
      exact ⟨(k0, k1), h0, h1, w0, w1⟩
    obtain ⟨f, hf⟩ := choose_lt each
    have hs : 0 < m → a.spot = none := fun h => by
      have := World.cell?_spot (hf 0 h).1
      simpa [Addr.add] using this
    refine ⟨(List.range len).map f, ⟨by rw [eCells_len], some a, m, by simp, by simpa using hl, hm, (fun h => by cases h), fun a' ha => ?_⟩, fun x hx => ?_⟩
    · cases ha
      refine ⟨hs, fun hn => ⟨id, ?_⟩⟩
      have hn' : 0 < len := by simpa using hn
      obtain ⟨b, off, spot⟩ := a
      obtain rfl : spot = none := hs (by omega)
      obtain ⟨cur, fz, hb, _⟩ := cell_block (show W.cell? ⟨b, off + 0 * 2, none⟩ = _ from by rw [← add_plain]; exact (hf 0 (by omega)).1)
      refine ⟨cur, fz, hb, fun j u hu => ?_⟩
      have key : ∀ i, i < len → cur[off + i * 2]? = some (.int .i64 (f i).1) ∧ cur[off + (i * 2 + 1)]? = some (.int .i64 (f i).2) := fun i hi => by
        obtain ⟨h0, h1, _⟩ := hf i (by omega)
        rw [add_plain] at h0 h1
        obtain ⟨c0, f0, hb0, e0⟩ := cell_block h0
        obtain ⟨c1, f1, hb1, e1⟩ := cell_block h1
        have k0 := hb.symm.trans hb0
        have k1 := hb.symm.trans hb1
        simp only [Option.some.injEq, Obj.cells.injEq] at k0 k1
        exact ⟨by rw [k0.1]; exact e0, by rw [k1.1]; exact e1⟩
      have hjl : j < ((List.range len).map f).length * 2 := by
        have := (List.getElem?_eq_some_iff.1 hu).1
        rw [eCells_len] at this; exact this
      simp only [List.length_map, List.length_range] at hjl
      have hx : ((List.range len).map f)[j / 2]? = some (f (j / 2)) := by
        have : j / 2 < len := by omega
        simp [this]
      obtain ⟨e0, e1⟩ := eCells_at hx
      rcases Nat.mod_two_eq_zero_or_one j with hj | hj
      · have : 2 * (j / 2) = j := by omega
        rw [this, hu] at e0
        rw [e0, show off + j = off + j / 2 * 2 from by omega]
        exact (key (j / 2) (by omega)).1
      · have : 2 * (j / 2) + 1 = j := by omega
        rw [this, hu] at e1
        rw [e1, show off + j = off + (j / 2 * 2 + 1) from by omega]
        exact (key (j / 2) (by omega)).2
    · obtain ⟨i, hi, rfl⟩ := List.mem_map.1 hx
      have := List.mem_range.1 hi
      exact (hf i (by omega)).2.2
end Go.Proofs.YtgdnlolicjdfoaaDoor
