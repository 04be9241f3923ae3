import Derived.Test.YtgdnlolicjdfoaaDoorW23
import Derived.Test.YtgdnlolicjdfoaaDoorSh
import Derived.Lib.ItoaLen
/- Texts: of an element. -/
namespace Go.Proofs.YtgdnlolicjdfoaaDoor
open Go Go.Proofs Go.RowKit Slag

theorem Trydlays166 : Go.Proofs.Lays.n166 Tryd.prog Tryd.lays156_ren := { Tryd.lays156 with }
theorem write_any (B b : Nat) (bs : List Value) (s : ByteArray) (w : World) (h : Lib.IsBuilder 128 5 B b bs w) (hlen : bs.length + s.size ≤ 140737488355328) (hBw : B ≤ w.heap.size) :
    Calls Tryd.prog 79 #[.pointer (some ⟨b, 0, none⟩), .string s] w fun e w' => e = .returned (.tuple #[.int .i64 s.size, .nilIface]) ∧ (Lib.BuilderAt 128 5 B b (.pointer (some ⟨b, 0, none⟩)) (bs ++ Lib.strCells s) w' ∧ Below B w w') :=
  Any.Builder_WriteString Trydlays166 Tryd.Builder_Extra_156 B b bs s w h hlen hBw
/-- Here, and in all later worlds, the number's text is told. -/
def FmtOk (w : World) (n : Int) : Prop := (Lib.itoa n).length ≤ 21 ∧ ∀ w', w.grownBy w' none → Calls Tryd.prog 63 #[.int .i64 n, .int .i64 10] w' fun e w'' => e = .returned (.string ⟨(Lib.itoa n).toArray⟩) ∧ w'.grownBy w'' none
theorem FmtOk.later {w w' : World} {n : Int} (h : FmtOk w n) (hg : w.grownBy w' none) : FmtOk w' n := ⟨h.1, fun W hW => h.2 W (grown_trans hg hW)⟩
theorem fmt_small (w : World) (k : Nat) (hk : k < 100) : FmtOk w k := ⟨Go.Lib.itoa_length_le _ (by omega) (by omega), fun w' _ => (Tryd.strconv_FormatInt_10_small k hk w').mono fun e w'' ⟨h1, h2⟩ => by
  subst h2
  refine ⟨?_, grown_refl _ _⟩
  rw [h1]
  simp [Lib.itoa]⟩
def ElOk (w : World) (x : E) : Prop := FmtOk w x.1 ∧ FmtOk w x.2
theorem ElOk.later {w w' : World} {x : E} (h : ElOk w x) (hg : w.grownBy w' none) : ElOk w' x := ⟨h.1.later hg, h.2.later hg⟩
def eText (x : E) : List UInt8 := Lib.itoa x.1 ++ 58 :: Lib.itoa x.2
theorem etext_any (x : E) (w : World) (h : ElOk w x) : Calls Tryd.prog 39 #[elV x] w fun e w' => e = .returned (.string ⟨(eText x).toArray⟩) ∧ w.grownBy w' none := by
  obtain ⟨x1, x2⟩ := x
  obtain ⟨s1, hs1⟩ : ∃ s1 : ByteArray, s1 = ⟨(Lib.itoa x1).toArray⟩ := ⟨_, rfl⟩
  obtain ⟨s2, hs2⟩ : ∃ s2 : ByteArray, s2 = ⟨(Lib.itoa x2).toArray⟩ := ⟨_, rfl⟩
  have hl1 : s1.size ≤ 21 := by rw [hs1]; have := h.1.1; simpa [ByteArray.size] using this
  have hl2 : s2.size ≤ 21 := by rw [hs2]; have := h.2.1; simpa [ByteArray.size] using this
  have HF1 : Hid (∀ w', w.grownBy w' none → Calls Tryd.prog 63 #[.int .i64 x1, .int .i64 10] w' fun e w'' => e = .returned (.string s1) ∧ w'.grownBy w'' none) := Lib.hid (by rw [hs1]; exact h.1.2)
  have HF2 : Hid (∀ w', w.grownBy w' none → Calls Tryd.prog 63 #[.int .i64 x2, .int .i64 10] w' fun e w'' => e = .returned (.string s2) ∧ w'.grownBy w'' none) := Lib.hid (by rw [hs2]; exact h.2.2)
  have HTX : Hid (s1 ++ (⟨#[58]⟩ : ByteArray) ++ s2 = ⟨(eText (x1, x2)).toArray⟩) := Lib.hid (by rw [hs1, hs2]; simp [eText, ByteArray.ext_iff])
  have hb1 : ¬ (9223372036854775807 < s1.size + 1) := by omega
  have hb2 : ¬ (9223372036854775807 < s1.size + 1 + s2.size) := by omega
  have hb3 : s1.size + 1 ≤ 9223372036854775807 := by omega
  have hb4 : s1.size + 1 + s2.size ≤ 9223372036854775807 := by omega
  clear hs1 hs2
  have HB := Lib.hid (heap_alloc_new w (.cells #[.int .i64 x1, .int .i64 x2] 24))
  have HG0 := Lib.hid (World.grownBy_alloc w (.cells #[.int .i64 x1, .int .i64 x2] 24) none)
  clear h
  unfold elV
  go_enter Tryd.func39, Tryd.ntmps39
  go_wp2_with fail
  generalize (w.alloc (.cells #[.int .i64 x1, .int .i64 x2] 24)) = W0 at *
  have HS := Lib.hid (fun (w' : World) (hg : W0.grownBy w' none) => (⟨cell_of (box_none hg HB.out) 0 rfl, cell_of (box_none hg HB.out) 1 rfl⟩ : w'.cell? ⟨w.heap.size, 0, none⟩ = some (.int .i64 x1) ∧ w'.cell? ⟨w.heap.size, 1, none⟩ = some (.int .i64 x2)))
  go_region_held3 (fun w' => w'.cell? ⟨w.heap.size, 0, none⟩ = some (.int .i64 x1) ∧ w'.cell? ⟨w.heap.size, 1, none⟩ = some (.int .i64 x2))
    (first | exact HS.out _ hh2 | exact HS.out _ hh1 | exact HS.out _ (grown_drew (grown_refl _ _)) | exact HS.out _ (grown_refl _ _))
    (first
      | (go_at_call_of 63 (Value.int IntKind.i64 x1); refine (HF1.out _ (grown_drew HG0.out)).mono ?_; rintro e w1 ⟨rfl, hg1⟩; have hh1 := grown_trans (grown_drew (grown_refl W0 none)) hg1)
      | (go_at_call_of 63 (Value.int IntKind.i64 x2); refine (HF2.out _ (grown_trans HG0.out hh1)).mono ?_; rintro e w2 ⟨rfl, hg2⟩; have hh2 := grown_trans hh1 hg2))
  go_wp2
  go_ret
  exact ⟨by rw [← HTX.out]; simp, grown_trans HG0.out hh2⟩
end Go.Proofs.YtgdnlolicjdfoaaDoor
