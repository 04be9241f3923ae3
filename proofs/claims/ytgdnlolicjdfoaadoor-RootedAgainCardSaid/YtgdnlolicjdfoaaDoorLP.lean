import Derived.Test.YtgdnlolicjdfoaaDoorK10
/- Plain laws of a heap, out of what it holds. -/
namespace Go.Proofs.YtgdnlolicjdfoaaDoor
open Go Go.Proofs Go.RowKit Slag

/-- A heap. -/
def dH (H : HP) (q : Option Addr) : Dat where
  P X w := HAt X w H q
  ext h hx := HAt.ext h hx
  weak h hX := HAt.weak h hX
theorem St.hnil {w0 w : World} {L : List Slot} {D : List Dat} (S : St w0 L D w) : St w0 L (dH hnil none :: D) w := S.add _ (HAt.nil (Own L) w)
def hdrain (n : Nat) (H : HP) : List E := Slag.drain (fun H => if hemp H then none else some (hmin H)) hpop n H
theorem hdrain_zero (H : HP) : hdrain 0 H = [] := rfl
theorem hdrain_emp (n : Nat) {H : HP} (h : hemp H = true) : hdrain n H = [] := by
  cases n with
  | zero => rfl
  | succ n => simp [hdrain, Slag.drain, h]
theorem hdrain_some (n : Nat) {H : HP} (h : hemp H = false) : hdrain (n + 1) H = hmin H :: hdrain n (hpop H) := by
  simp [hdrain, Slag.drain, h]
theorem hdrain_law {H : HP} (ho : hok H) (n : Nat) (hn : hcnt H ≤ n) : hdrain n H = srt (hels H) := hlaws.drain n H ho hn
theorem hpop_perm {H : HP} (ho : hok H) (h : hemp H = false) : (hmin H :: hels (hpop H)).Perm (hels H) ∧ ∀ y ∈ hels H, le (hmin H) y := hlaws.some H (hmin H) ho (by simp [h])
theorem hok_pop {H : HP} (ho : hok H) : hok (hpop H) := hlaws.ok H ho
theorem hcnt_pop {H : HP} (ho : hok H) (h : hemp H = false) : hcnt (hpop H) + 1 = hcnt H := by
  have := (hpop_perm ho h).1.length_eq
  simpa [hcnt] using this
theorem hcnt_pop_le {H : HP} (ho : hok H) : hcnt (hpop H) ≤ hcnt H := by
  cases h : hemp H with
  | true => rw [hpop_emp h]; exact Nat.le_refl _
  | false => have := hcnt_pop ho h; omega
theorem hcnt_of (l : List E) : hcnt (hof l) = l.length := (hels_of l).length_eq
theorem hcnt_ins (H : HP) (x : E) : hcnt (hins H x) = hcnt H + 1 := by simpa [hcnt] using (hels_ins H x).length_eq
theorem hcnt_meld (H K : HP) : hcnt (hmeld H K) = hcnt H + hcnt K := by simpa [hcnt] using (hels_meld H K).length_eq
theorem hcnt_nil : hcnt hnil = 0 := by simp [hcnt, hels_nil]
theorem hemp_cnt (H : HP) : hemp H = decide (hcnt H = 0) := by
  rw [Bool.eq_iff_iff, hemp_iff]; simp [hcnt]
theorem hemp_pos (H : HP) : (!hemp H) = decide (0 < hcnt H) := by
  rw [hemp_cnt]; by_cases h : hcnt H = 0
  · simp [h]
  · simp [h]; omega
theorem srt_pop {H : HP} (ho : hok H) (h : hemp H = false) : srt (hels H) = hmin H :: srt (hels (hpop H)) := by
  obtain ⟨hp, hle⟩ := hpop_perm ho h
  rw [← srt_congr hp]
  exact srt_cons_least fun y hy => hle y (hp.mem_iff.1 (List.mem_cons_of_mem _ hy))
theorem hins_all (l : List E) : ∀ {H : HP}, hok H → hok (l.foldl hins H) ∧ (hels (l.foldl hins H)).Perm (hels H ++ l) := by
  induction l with
  | nil => intro H ho; simp [ho]
  | cons x l ih =>
    intro H ho
    obtain ⟨h1, h2⟩ := ih (hok_ins (x := x) ho)
    refine ⟨h1, h2.trans ?_⟩
    exact ((hels_ins H x).append_right l).trans List.perm_middle.symm
/-- Taken out, some of them. -/
def pullStep (p : List E × HP) : List E × HP := if hemp p.2 then p else (p.1 ++ [hmin p.2], hpop p.2)
def pull (h : HP) : Nat → List E × HP
  | 0 => ([], h)
  | k + 1 => pullStep (pull h k)
theorem pull_law {h : HP} (ho : hok h) : ∀ k, hok (pull h k).2 ∧ (pull h k).1 ++ srt (hels (pull h k).2) = srt (hels h) ∧ hcnt (pull h k).2 + (pull h k).1.length = hcnt h ∧ (pull h k).1.length ≤ k := by
  intro k
  induction k with
  | zero => exact ⟨ho, by simp [pull], by simp [pull], by simp [pull]⟩
  | succ k ih =>
    obtain ⟨h1, h2, h3, h4⟩ := ih
    unfold pull pullStep
    cases hne : hemp (pull h k).2 with
    | true => rw [if_pos rfl]; exact ⟨h1, h2, h3, by omega⟩
    | false =>
      rw [if_neg (by simp)]
      refine ⟨hok_pop h1, ?_, ?_, by simp; omega⟩
      · rw [← h2, srt_pop h1 hne]; simp
      · have := hcnt_pop h1 hne; simp; omega
/-- A rotation. -/
theorem rot_perm (l : List E) (r : Nat) (m : List E) (hm : m.length = l.length) (h : ∀ i, i < l.length → m[i]? = l[(i + r) % l.length]?) : m.Perm l := by
  rcases Nat.eq_zero_or_pos l.length with h0 | h0
  · have h1 : l = [] := List.eq_nil_of_length_eq_zero h0
    have h2 : m = [] := List.eq_nil_of_length_eq_zero (by omega)
    rw [h1, h2]
  · have : m = l.drop (r % l.length) ++ l.take (r % l.length) := by
      apply List.ext_getElem?
      intro i
      have hr : r % l.length < l.length := Nat.mod_lt _ h0
      by_cases hi : i < l.length
      · rw [h i hi, ← Nat.add_mod_mod]
        by_cases hc : i + r % l.length < l.length
        · rw [Nat.mod_eq_of_lt hc, List.getElem?_append_left (by simp; omega), List.getElem?_drop, Nat.add_comm]
        · rw [Nat.mod_eq_sub_mod (by omega), Nat.mod_eq_of_lt (by omega), List.getElem?_append_right (by simp; omega), List.length_drop, List.getElem?_take]
          rw [if_pos (by omega)]
          congr 1; omega
      · rw [List.getElem?_eq_none (by omega), List.getElem?_eq_none (by simp; omega)]
    rw [this]
    exact List.perm_append_comm.trans (by rw [List.take_append_drop])
/-- What is put in, in whatever order. -/
def rotN (l : List E) (r k : Nat) : List E := (List.range k).map fun i => l.getD ((i + r) % l.length) (0, 0)
def backN (l : List E) (k : Nat) : List E := (List.range k).map fun i => l.getD (l.length - 1 - i) (0, 0)
theorem rotN_succ (l : List E) (r k : Nat) : rotN l r (k + 1) = rotN l r k ++ [l.getD ((k + r) % l.length) (0, 0)] := by simp [rotN, List.range_succ]
theorem backN_succ (l : List E) (k : Nat) : backN l (k + 1) = backN l k ++ [l.getD (l.length - 1 - k) (0, 0)] := by simp [backN, List.range_succ]
theorem rotN_perm (l : List E) (r : Nat) : (rotN l r l.length).Perm l := by
  refine rot_perm l r _ (by simp [rotN]) fun i hi => ?_
  have h := Nat.mod_lt (i + r) (show l.length > 0 by omega)
  simp [rotN, hi, h]
theorem backN_perm (l : List E) : (backN l l.length).Perm l := by
  have : backN l l.length = l.reverse := by
    apply List.ext_getElem?
    intro i
    by_cases hi : i < l.length
    · rw [List.getElem?_reverse hi]
      have h : l.length - 1 - i < l.length := by omega
      simp [backN, hi, h]
    · rw [List.getElem?_eq_none (by simp [backN]; omega), List.getElem?_eq_none (by simp; omega)]
  rw [this]; exact List.reverse_perm l
end Go.Proofs.YtgdnlolicjdfoaaDoor
