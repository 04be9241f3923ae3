import Derived.Test.YtgdnlolicjdfoaaDoorW15
import Derived.Shelf.RegionOpenPlain
import Derived.Deep.RegionLaw
import Derived.Lib.SliceRun
/- slices.Delete of one. -/
namespace Go.Proofs.YtgdnlolicjdfoaaDoor
open Go Go.Proofs Go.RowKit Slag

def setAll (xs : List Value) : Nat → List Value → List Value
  | _, [] => xs
  | o, v :: r => setAll (xs.set o v) (o + 1) r
theorem owns_setCells {base e g n cap : Nat} : ∀ (news : List Value) (o : Nat) (w : World) (xs : List Value), w.ownsRow base e 1 (.slice (some ⟨g, 0, none⟩) n cap) n xs →
    (w.setCells g o news).ownsRow base e 1 (.slice (some ⟨g, 0, none⟩) n cap) n (setAll xs o news) ∧ w.grownBy (w.setCells g o news) (some g)
  | [], _, _, _, h => ⟨h, grown_refl _ _⟩
  | v :: r, o, w, xs, h => by
    have h1 := h.stored o v
    have h2 := owns_setCells r (o + 1) _ _ h1.1
    exact ⟨h2.1, grown_trans h1.2 h2.2⟩
theorem setAll_eq : ∀ (news : List Value) (o : Nat) (xs : List Value), o + news.length ≤ xs.length → setAll xs o news = xs.take o ++ news ++ xs.drop (o + news.length)
  | [], o, xs, _ => by simp [setAll]
  | v :: r, o, xs, h => by
    simp only [List.length_cons] at h
    rw [setAll, setAll_eq r (o + 1) _ (by simp; omega)]
    rw [List.take_set, List.drop_set, if_pos (by omega)]
    rw [show o + (v :: r).length = o + 1 + r.length from by simp; omega]
    have hx : (List.take (o + 1) xs).set o v = List.take o xs ++ [v] := by
      rw [List.take_succ_eq_append_getElem (by omega), List.set_append_right _ _ (by simp; omega)]
      rw [show o - (List.take o xs).length = 0 from by simp; omega]; rfl
    rw [hx]; simp
theorem owns_cut {w : World} {base e g n cap k : Nat} {xs : List Value} (h : w.ownsRow base e 1 (.slice (some ⟨g, 0, none⟩) n cap) n xs) (hk : k ≤ n) : w.ownsRow base e 1 (.slice (some ⟨g, 0, none⟩) k cap) k (xs.take k) := by
  rcases h.2 with ⟨h', _⟩ | ⟨g', cap', cur, h', hb, hg, hnc, hcm, hcs, htake⟩
  · simp at h'
  · simp only [Value.slice.injEq, Option.some.injEq, Addr.mk.injEq, and_true, true_and] at h'
    obtain ⟨rfl, rfl⟩ := h'
    have hl := h.1
    refine ⟨by simp; omega, .inr ⟨g, cap, cur, rfl, hb, hg, by omega, hcm, hcs, ?_⟩⟩
    rw [← htake, List.take_take]; congr 1; omega
theorem map_pv_del (vs : List Nat) (i : Nat) (hi : i < vs.length) (z : Value) :
    ((setAll (setAll (vs.map pv) i ((vs.map pv).drop (i + 1))) (vs.length - 1) [z]).take (vs.length - 1)) = (vs.eraseIdx i).map pv := by
  rw [setAll_eq _ i _ (by simp; omega)]
  simp only [setAll]
  rw [List.take_set_of_le (by omega)]
  rw [List.eraseIdx_eq_take_drop_succ, List.map_append, List.map_take, List.map_drop]
  rw [List.append_assoc]
  have hl : (List.take i (vs.map pv) ++ List.drop (i + 1) (vs.map pv)).length = vs.length - 1 := by simp; omega
  rw [← List.append_assoc, List.take_append_of_le_length (by omega), ← hl, List.take_length]

set_option maxRecDepth 1000000 in
set_option maxHeartbeats 4000000 in
theorem delete_one (base i : Nat) (vs : List Nat) (v : Value) (w : World) (h : w.ownsRow base 84 1 v vs.length (vs.map pv)) (hi : i < vs.length) (hn : vs.length ≤ 1099511627776) :
    Calls Tryd.prog 47 #[v, .int .i64 i, .int .i64 (i + 1 : Nat)] w fun e w' => ∃ v', e = .returned v' ∧ w'.ownsRow base 84 1 v' (vs.length - 1) ((vs.eraseIdx i).map pv) ∧ w.grownBy w' v.ownBlock ∧ v'.ownBlock = v.ownBlock := by
  obtain ⟨g, cap, rfl⟩ := owns_head h (by omega)
  have hcap : vs.length ≤ cap ∧ cap ≤ maxLen := by
    rcases h.2 with ⟨h1, _⟩ | ⟨g', cap', _, h1, _, _, h2, h3, _⟩
    · cases h1
    · cases h1; exact ⟨h2, h3⟩
  obtain ⟨n, hlen⟩ : ∃ n, n = vs.length := ⟨_, rfl⟩
  rw [← hlen] at hcap hi hn h ⊢
  obtain ⟨j, hj⟩ : ∃ j, j = i + 1 := ⟨_, rfl⟩
  rw [← hj]
  obtain ⟨news, hnews⟩ : ∃ news, news = (vs.map pv).drop j := ⟨_, rfl⟩
  have hlenN : news.length = n - j := by rw [hnews]; simp [hlen]
  have hdr : w.drew.ownsRow base 84 1 (.slice (some ⟨g, 0, none⟩) n cap) n (vs.map pv) := h.kept (grown_drew (grown_refl w none)) (.inr (by simp [Value.ownBlock]))
  obtain ⟨A, hA, hsrc⟩ : ∃ A : Addr, (if cap = j then some (⟨g, 0, none⟩ : Addr) else some ⟨g, j, none⟩) = some A ∧ RowKit.Hid (∀ t u, news[t]? = some u → w.drew.cell? (A.add t) = some u) := by
    by_cases hc : cap = j
    · refine ⟨⟨g, 0, none⟩, by simp [hc], fun t u hu => ?_⟩
      have h0 : news.length = 0 := by omega
      rw [List.length_eq_zero_iff.1 h0] at hu
      simp at hu
    · refine ⟨⟨g, j, none⟩, by simp [hc], fun t u hu => ?_⟩
      have ht : t < n - j := by
        have := (List.getElem?_eq_some_iff.1 hu).1
        rwa [hlenN] at this
      have : (⟨g, j, none⟩ : Addr).add t = ⟨g, j + t, none⟩ := by unfold Addr.add; split <;> simp_all
      rw [this, hdr.cellAt (j + t) (by omega), ← hu, hnews, List.getElem?_drop]
  have s1 : RowKit.Hid (news.length = (n - j) * 1) := by rw [Nat.mul_one]; exact hlenN
  have s2 : RowKit.Hid (∀ u ∈ news, u.oneCell' = true) := by
    intro u hu
    rw [hnews] at hu
    obtain ⟨x, _, rfl⟩ := List.mem_map.1 (List.mem_of_mem_drop hu)
    rfl
  have s3 : RowKit.Hid (∀ t, t < news.length → (w.drew.cell? ⟨g, 0 + i * 1 + t, none⟩).isSome = true ∧ w.drew.frozen? ⟨g, 0 + i * 1 + t, none⟩ = false) := by
    intro t ht
    rw [hlenN] at ht
    refine ⟨?_, hdr.frozenAt _⟩
    rw [hdr.cellAt _ (by omega), List.getElem?_eq_getElem (by simp; omega)]; rfl
  obtain ⟨W1, hW1⟩ : ∃ W1, W1 = w.drew.setCells g (0 + i * 1) news := ⟨_, rfl⟩
  have hH1 := owns_setCells news (0 + i * 1) w.drew _ hdr
  rw [← hW1] at hH1
  have hcl : ∀ ty, (Builtin.clear_ #[82] ty #[.slice (some ⟨g, i + (n - j), none⟩) (n - (i + (n - j))) (cap - (i + (n - j)))]).run Tryd.prog W1 = .ok (.tuple #[]) (W1.setCells g (i + (n - j)) (List.replicate (n - (i + (n - j))) (.pointer none))) :=
    fun ty => Lib.run_clear_slice W1 _ _ ty _ (by kernel_rfl) Tryd.zeroValue84 rfl rfl g (i + (n - j)) _ _ (by omega)
      (fun t ht => by rw [hH1.1.cellAt _ (by omega), List.getElem?_eq_getElem (by rw [hH1.1.1]; omega)]; rfl)
      (fun t ht => hH1.1.frozenAt _)
  have hfin := owns_setCells [.pointer none] (n - 1) W1 _ hH1.1
  have HF : RowKit.Hid ((W1.setCells g (n - 1) [.pointer none]).ownsRow base 84 1 (.slice (some ⟨g, 0, none⟩) (n - 1) cap) (n - 1) ((vs.eraseIdx i).map pv)) := by
    have := owns_cut hfin.1 (k := n - 1) (by omega)
    rw [hnews, show 0 + i * 1 = i from by omega, hlen, hj, map_pv_del vs i (by omega)] at this
    rw [hlen]; exact this
  have HG : RowKit.Hid (w.grownBy (W1.setCells g (n - 1) [.pointer none]) (some g)) := grown_trans (grown_trans (grown_drew (grown_refl w _)) hH1.2) hfin.2
  have hW : RowKit.Hid (W1 = w.drew.setCells g (0 + i * 1) news) := hW1
  have HJ : RowKit.Hid (j = i + 1) := hj
  have hij : i < j := by omega
  have hjn : j ≤ n := by omega
  have hic : i ≤ cap := by omega
  have hjc : j ≤ cap := by omega
  obtain ⟨hc1, hc2⟩ := hcap
  clear hW1 hfin hH1 hdr h hnews hlenN hlen hj
  obtain ⟨i0, hi0, hz0, hz1, hz2⟩ := info_parts info_ptree
  have mixed : Tryd.prog.follows .mixedOrders = true := by kernel_rfl
  go_enter Tryd.func47, Tryd.ntmps47
  go_wp2_with fail
  go_region_law_o (refine step_append_room rfl (.tmp 22) (.tmp 25) 82 rfl 84 i0 1 Tryd.underlying82 hi0 hz1 g 0 i cap (by simp [Act.eval, Act.put]) A (n - j) (cap - j) news (by simp [Act.eval, Act.put]) s1.out hsrc.out s2.out (by omega) s3.out ?_; rw [← hW.out])
  go_wp2
  have e1 : i + (n - j) = n - 1 := by have := HJ.out; omega
  have e2 : n - (n - 1) = 1 := by omega
  rw [e1, e2]
  go_ret
  exact ⟨_, rfl, HF.out, HG.out, rfl⟩
end Go.Proofs.YtgdnlolicjdfoaaDoor
