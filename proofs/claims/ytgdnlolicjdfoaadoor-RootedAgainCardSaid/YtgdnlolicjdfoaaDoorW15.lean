import Derived.Test.YtgdnlolicjdfoaaDoorW14
/- Reverse. -/
namespace Go.Proofs.YtgdnlolicjdfoaaDoor
open Go Go.Proofs Go.RowKit Slag

/-- k rounds of a reversal are over. -/
def RevInv (vs L : List Nat) (k : Nat) : Prop := L.length = vs.length ∧ ∀ p, p < vs.length → L[p]? = if p < k ∨ vs.length ≤ p + k then vs[vs.length - 1 - p]? else vs[p]?
theorem RevInv.zero (vs : List Nat) : RevInv vs vs 0 := ⟨rfl, fun p hp => by rw [if_neg (by omega)]⟩
theorem RevInv.done {vs L : List Nat} {k : Nat} (h : RevInv vs L k) (hk : vs.length ≤ 2 * k + 1) : L = vs.reverse := by
  apply List.ext_getElem?
  intro p
  by_cases hp : p < vs.length
  · rw [h.2 p hp, List.getElem?_reverse hp]
    by_cases hc : p < k ∨ vs.length ≤ p + k
    · rw [if_pos hc]
    · rw [if_neg hc]; congr 1; omega
  · rw [List.getElem?_eq_none (by rw [h.1]; omega), List.getElem?_eq_none (by simp; omega)]
theorem RevInv.step {vs L : List Nat} {k : Nat} (h : RevInv vs L k) (hk : 2 * k + 1 < vs.length) : RevInv vs ((L.set k (vs.getD (vs.length - 1 - k) 0)).set (vs.length - 1 - k) (vs.getD k 0)) (k + 1) := by
  refine ⟨by simp [h.1], fun p hp => ?_⟩
  have hl := h.1
  rw [List.getElem?_set, List.getElem?_set]
  by_cases h1 : vs.length - 1 - k = p
  · subst h1
    rw [if_pos rfl, if_pos (by simp; omega), if_pos (by omega), show vs.length - 1 - (vs.length - 1 - k) = k from by omega]
    simp [List.getD, List.getElem?_eq_getElem (show k < vs.length by omega)]
  · rw [if_neg h1]
    by_cases h2 : k = p
    · subst h2
      rw [if_pos rfl, if_pos (by omega), if_pos (by omega)]
      simp [List.getD, List.getElem?_eq_getElem (show vs.length - 1 - k < vs.length by omega)]
    · rw [if_neg h2, h.2 p hp]
      by_cases h3 : p < k ∨ vs.length ≤ p + k
      · rw [if_pos h3, if_pos (by omega)]
      · rw [if_neg h3, if_neg (by omega)]
theorem RevInv.at {vs L : List Nat} {k : Nat} (h : RevInv vs L k) (hk : 2 * k + 1 < vs.length) : L[k]? = some (vs.getD k 0) ∧ L[vs.length - 1 - k]? = some (vs.getD (vs.length - 1 - k) 0) := by
  constructor
  · rw [h.2 k (by omega), if_neg (by omega)]; simp [List.getD, List.getElem?_eq_getElem (show k < vs.length by omega)]
  · rw [h.2 _ (by omega), if_neg (by omega)]; simp [List.getD, List.getElem?_eq_getElem (show vs.length - 1 - k < vs.length by omega)]
theorem map_set_pv (L : List Nat) (j x : Nat) : (L.map pv).set j (.pointer (some ⟨x, 0, none⟩)) = (L.set j x).map pv := by
  rw [List.map_set]; rfl
set_option maxRecDepth 100000 in
set_option maxHeartbeats 2000000 in
theorem reverse_any (base : Nat) (vs : List Nat) (v : Value) (w : World) (h : w.ownsRow base 84 1 v vs.length (vs.map pv)) (hn : vs.length ≤ 1099511627776) :
    Calls Tryd.prog 45 #[v] w fun e w' => e = .returned (.tuple #[]) ∧ w'.ownsRow base 84 1 v vs.length (vs.reverse.map pv) ∧ w.grownBy w' v.ownBlock := by
  have HO := Lib.hid h
  by_cases h0 : vs.length = 0
  · obtain rfl : vs = [] := List.eq_nil_of_length_eq_zero h0
    obtain ⟨p, cap, rfl⟩ : ∃ p cap, v = .slice p 0 cap := by
      rcases h.2 with ⟨rfl, _⟩ | ⟨g, cap, _, rfl, _⟩
      · exact ⟨_, _, rfl⟩
      · exact ⟨_, _, rfl⟩
    clear h h0 hn
    go_enter Tryd.func45, Tryd.ntmps45
    go_wp2
    go_loop [2, 3] (fun i j => i = .int .i64 0 ∧ j = .int .i64 (-1)) (fun _ _ => 0)
    case atStart => exact ⟨rfl, rfl⟩
    case round =>
      obtain ⟨rfl, rfl⟩ := hrel
      go_wp2
      go_end0
      exact ⟨rfl, HO.out, grown_refl _ _⟩
  · obtain ⟨g, cap, rfl⟩ := owns_head h (by omega)
    generalize hlen : vs.length = n at *
    have HLEN := Lib.hid hlen
    clear hlen h
    have hcap : n ≤ cap := by
      rcases HO.out.2 with ⟨h1, _⟩ | ⟨g', cap', _, h1, _, _, h2, _⟩
      · cases h1
      · cases h1; exact h2
    go_enter Tryd.func45, Tryd.ntmps45
    go_wp2
    go_loopw [2, 3] (fun i j wr => ∃ (k : Nat) (L : List Nat), 2 * k ≤ n ∧ i = .int .i64 k ∧ j = .int .i64 ((n : Int) - 1 - k) ∧ RevInv vs L k ∧ wr.ownsRow base 84 1 (.slice (some ⟨g, 0, none⟩) n cap) n (L.map pv) ∧ w.grownBy wr (some g)) (fun i _ _ => n - (intOf i).toNat)
    case atStart => exact ⟨0, vs, by omega, rfl, by go_num, RevInv.zero vs, HO.out, grown_refl _ _⟩
    case round =>
      obtain ⟨k, L, hk, rfl, rfl, hinv, hown, hg⟩ := hrel
      have HI := Lib.hid hinv
      have HW := Lib.hid hown
      have HG := Lib.hid hg
      clear hinv hg
      by_cases hlt : 2 * k + 1 < n
      · obtain ⟨h1, h2⟩ := HI.out.at (by rw [HLEN.out]; exact hlt)
        rw [HLEN.out] at h2
        have e1 : ((n : Int) - 1 - k) = ((n - 1 - k : Nat) : Int) := by omega
        have hc1 : wr.cell? ⟨g, k, none⟩ = some (.pointer (some ⟨vs.getD k 0, 0, none⟩)) := by
          rw [hown.cellAt k (by omega), List.getElem?_map, h1]; rfl
        have hc2 : wr.cell? ⟨g, n - 1 - k, none⟩ = some (.pointer (some ⟨vs.getD (n - 1 - k) 0, 0, none⟩)) := by
          rw [hown.cellAt (n - 1 - k) (by omega), List.getElem?_map, h2]; rfl
        have z1 := hown.frozenAt k
        have z2 := hown.frozenAt (n - 1 - k)
        have hst := HI.out.step (by rw [HLEN.out]; exact hlt)
        rw [HLEN.out] at hst
        have HST := Lib.hid hst
        have hj1 : n - 1 - k < n := by omega
        have hj2 : k < n := by omega
        have hlt2 : (k : Int) < ((n - 1 - k : Nat) : Int) := by omega
        have hne : ¬ n - 1 - k = k := by omega
        have E1 := Lib.hid e1
        generalize hx : vs.getD k 0 = x at *
        generalize hy : vs.getD (n - 1 - k) 0 = y at *
        generalize hjj : n - 1 - k = jj at *
        have HJJ := Lib.hid hjj
        rw [E1.out]
        clear hown h1 h2 hst e1 hx hy hjj
        go_wp2
        go_region
        all_goals go_wp2
        have s1 := HW.out.stored k (.pointer (some ⟨y, 0, none⟩))
        have s2 := s1.1.stored jj (.pointer (some ⟨x, 0, none⟩))
        rw [map_set_pv, map_set_pv] at s2
        refine ⟨⟨k + 1, _, by omega, by go_num, ?_, HST.out, s2.1.drew, grown_drew (grown_trans (grown_trans HG.out s1.2) s2.2)⟩, ?_⟩
        · have := HJJ.out; go_num
        · simp [intOf]; omega
      · go_wp2
        go_end0
        refine ⟨rfl, ?_, HG.out⟩
        rw [← HI.out.done (by rw [HLEN.out]; omega)]
        exact HW.out
end Go.Proofs.YtgdnlolicjdfoaaDoor
