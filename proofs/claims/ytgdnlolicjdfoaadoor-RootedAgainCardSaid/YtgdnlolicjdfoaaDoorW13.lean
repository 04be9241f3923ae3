import Derived.Test.YtgdnlolicjdfoaaDoorW12
/- meld: the append in a region. -/
namespace Go.Proofs.YtgdnlolicjdfoaaDoor
open Go Go.Proofs Go.RowKit Slag

theorem owns_head {w : World} {base e size : Nat} {v : Value} {n : Nat} {xs : List Value} (h : w.ownsRow base e size v n xs) (hn : 0 < n) : ∃ g cap, v = .slice (some ⟨g, 0, none⟩) n cap := by
  rcases h.2 with ⟨_, rfl⟩ | ⟨g, cap, _, rfl, _⟩
  · omega
  · exact ⟨g, cap, rfl⟩
theorem step_append_row {P : Program} {w : World} {ops : Array Oper} {o : Oper} {a : Act} {K : Act → World → Prop} {Q : Exit → Act → World → Prop} {EE : Prop} (hgd : o.guard = none) (s x : Operand) (t : TypeId)
    (ho : o.op = .call { callee := .builtin .append, args := #[s, x], argTypes := #[t, t] })
    (base : Nat) (e : TypeId) (i : TypeInfo) (z : Value) (size bytes : Nat) (ht : P.underlying t = some (.slice e)) (hi : P.info? e = some i) (hz : i.zero = some z)
    (hsize : i.size = size) (hby : i.bytes = bytes) (hzs : z.cells.size = size) (hsz : 0 < size)
    (g0 n c0 : Nat) (xs : List Value) (hs : a.eval s = .slice (some ⟨g0, 0, none⟩) n c0) (hown : w.ownsRow base e size (.slice (some ⟨g0, 0, none⟩) n c0) n xs)
    (vx : Value) (m : Nat) (news : List Value) (X : Nat → Prop) (hx : a.eval x = vx) (hrow : RowAt X e size w m news vx) (h1 : ∀ u ∈ news, u.oneCell' = true)
    (hn : 0 < n) (h63 : n + m ≤ maxLen) (hbytes : (n + m) * bytes ≤ 140737488355328) (hbase : base ≤ w.heap.size)
    (h : ∀ g cap w', w'.ownsRow base e size (.slice (some ⟨g, 0, none⟩) (n + m) cap) (n + m) (xs ++ news) → w.grownBy w' (some g0) → K (a.put o.dst (.slice (some ⟨g, 0, none⟩) (n + m) cap)) w') :
    if Region.wanted o (yielded ops a.tmps) = true then Oper.wp P o a w K Q else EE := by
  have hw : Region.wanted o (yielded ops a.tmps) = true := by simp [Region.wanted, hgd]
  rw [if_pos hw]
  have h' : ∀ v' w', w'.ownsRow base e size v' (n + m) (xs ++ news) → w.grownBy w' (some g0) → K (a.put o.dst v') w' := fun v' w' h2 h3 => by
    obtain ⟨g, cap, rfl⟩ := owns_head h2 (by omega)
    exact h g cap w' h2 h3
  obtain ⟨hl, p, cap, rfl, hcap, hmax, hp, hr⟩ := hrow
  cases p with
  | none =>
    obtain ⟨rfl, rfl⟩ := hp rfl
    have hnn : news = [] := List.eq_nil_of_length_eq_zero (by simpa using hl)
    subst hnn
    have hrun := run_append_owned_none (P := P) (w := w) base t o.type e i size ht hi _ n xs hown
    unfold Oper.wp
    simp [execOp, ho, resolve, invoke, builtin, hs, hx, hrun, Result.andThen]
    exact h' _ w (by simpa using hown) (grown_refl _ _)
  | some ad =>
    obtain ⟨hsp, hc⟩ := hr ad rfl
    refine wp_append_own w s x t ho base e i z size bytes ht hi hz hsize hby hzs hsz _ n xs hs hown ad m cap news hx hl ?_ h1 h63 hbytes hbase (fun v' w' h2 h3 _ => h' v' w' h2 h3)
    intro j u hu
    have hm : 0 < m := by
      rcases Nat.eq_zero_or_pos m with hm | hm
      · subst hm; simp at hl; subst hl; simp at hu
      · exact hm
    obtain ⟨_, cur, fz, hb, hcu⟩ := hc hm
    have hsp := hsp (by omega)
    obtain ⟨b, off, spot⟩ := ad
    simp only at hsp; subst hsp
    have : (⟨b, off, none⟩ : Addr).add j = ⟨b, off + j, none⟩ := by unfold Addr.add; split <;> simp_all
    rw [this]
    exact cell_of hb _ (hcu j u hu)
theorem row_ext {X : Nat → Prop} {lo hi g : Nat} {w w' : World} (hg : w.grownBy w' (some g)) (h1 : lo ≤ g) (h2 : g < hi) : Ext (Xb X lo hi) w w' :=
  ⟨hg.size, fun b c T fz hX hb => by rw [hg.block b (lt_of_heap hb) (fun e => hX (by cases e; exact Xb.own h1 h2))]; exact hb⟩
end Go.Proofs.YtgdnlolicjdfoaaDoor
