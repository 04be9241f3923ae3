import Derived.Test.YtgdnlolicjdfoaaDoorW11
/- level, meld. -/
namespace Go.Proofs.YtgdnlolicjdfoaaDoor
open Go Go.Proofs Go.RowKit Slag

set_option maxRecDepth 100000 in
set_option maxHeartbeats 2000000 in
theorem level_any (X : Nat → Prop) (m : Option Nat) (n : Int) (l : List (Tr E)) (vs : List Nat) (v : Value) (w : World) (hm : Mt X w m n) (hl : TreesAt X w l vs)
    (hv : RowAt X 84 1 w l.length (vs.map pv) v) (hn : Tr.sizeL l ≤ 1099511627776) :
    Calls Tryd.prog 46 #[mval m, v] w fun e w' => ∃ v' us, e = .returned v' ∧ w.grownBy w' m ∧ Mt X w' m (n + (levelN id l : Nat)) ∧ TreesAt X w' (level id l) us ∧ RowAt X 84 1 w' (level id l).length (us.map pv) v' := by
  obtain ⟨i0, hi, hz0, hz1, hz2⟩ := info_parts info_ptree
  have HM := Lib.hid hm
  cases l with
  | nil =>
    obtain ⟨-, p, cap, rfl, -⟩ := id hv
    clear hm hl hv
    go_enter Tryd.func46, Tryd.ntmps46
    go_wp2
    go_ret
    exact ⟨_, [], rfl, grown_refl _ _, by simpa [levelN] using HM.out, TreesAt.nil, RowAt.nil _ _ _ _⟩
  | cons t l =>
    obtain ⟨ub, vs', rfl, hut, hl'⟩ := hl.of_cons
    replace hv : RowAt X 84 1 w (l.length + 1) (pv ub :: vs'.map pv) _ := hv
    have HV := Lib.hid hv
    obtain ⟨-, p, cap, rfl, hcap, hmax, -⟩ := id hv
    obtain ⟨b, off, rfl, hcell⟩ := hv.cell (j := 0) (u := .pointer (some ⟨ub, 0, none⟩)) rfl
    rw [Nat.add_zero] at hcell
    have HUT := Lib.hid hut
    have HL := Lib.hid hl'
    have HN := Lib.hid hn
    have HS : Hid (∀ w', w.grownBy w' m → w'.cell? ⟨b, off, none⟩ = some (.pointer (some ⟨ub, 0, none⟩))) := Lib.hid fun w' hg => by
      obtain ⟨b', off', h1, h2⟩ := (HV.out.ext (HM.out.ext hg)).cell (j := 0) (u := .pointer (some ⟨ub, 0, none⟩)) rfl
      cases h1; exact h2
    have HPUT := Lib.hid (put_any X m n t l ub vs' _ w.drew (HM.out.to (Nat.le_refl _) HM.out.at_.drew) (hut.ext (Ext.drew _ _)) (hl'.ext (Ext.drew _ _)) (HV.out.ext (Ext.drew _ _)).cut (by rw [Tr.sizeL_cons] at hn; exact hn))
    have hrt := fun w => run_tail (P := Tryd.prog) 82 84 i0 Tryd.underlying82 hi hz1 b off l.length cap hcap w
    have hlb : l.length ≤ 1099511627776 := by have := Tr.length_le_sizeL (t :: l); simp at this; omega
    have hne : ((l.length : Int) + 1 == 0) = false := by simp; omega
    clear hm hl hv hut hl' hn hmax
    unfold level levelN
    go_enter Tryd.func46, Tryd.ntmps46
    go_wp2_with fail
    go_region_held3 (fun w' => w'.cell? ⟨b, off, none⟩ = some (.pointer (some ⟨ub, 0, none⟩)))
      (first | exact HS.out _ hh3 | exact HS.out _ (grown_drew (grown_refl _ _)) | exact HS.out _ (grown_refl _ _))
      (first | (go_at_call 69; refine HPUT.out.mono ?_; rintro e w3 ⟨v3, us, rfl, hg3, hm3, ht3, hr3⟩; have hh3 := grown_trans (grown_drew (grown_refl w m)) hg3))
    have HH3 := Lib.hid hh3
    have HM3 := Lib.hid hm3
    have HT3 := Lib.hid ht3
    have HR3 := Lib.hid hr3
    rename_i hHeld
    clear hHeld hh3 hm3 ht3 hg3 hr3
    go_wp2
    go_ret
    exact ⟨v3, us, rfl, HH3.out, HM3.out, HT3.out, HR3.out⟩
end Go.Proofs.YtgdnlolicjdfoaaDoor
