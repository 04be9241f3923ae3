import Derived.Test.YtgdnlolicjdfoaaDoorW4
import Derived.Test.YtgdnlolicjdfoaaDoorW5
import Derived.Laws.AppendOwnNone
/- Appends; ahead; Clone. -/
namespace Go.Proofs.YtgdnlolicjdfoaaDoor
open Go Go.Proofs Go.RowKit Slag

theorem wpList_append_row {P : Program} {w : World} {ops : Array Oper} {rest : List Oper} {o : Oper} {a : Act} {Q : Exit → Act → World → Prop} (hgd : o.guard = none) (s x : Operand) (t : TypeId)
    (ho : o.op = .call { callee := .builtin .append, args := #[s, x], argTypes := #[t, t] })
    (base : Nat) (e : TypeId) (i : TypeInfo) (z : Value) (size bytes : Nat) (ht : P.underlying t = some (.slice e)) (hi : P.info? e = some i) (hz : i.zero = some z)
    (hsize : i.size = size) (hby : i.bytes = bytes) (hzs : z.cells.size = size) (hsz : 0 < size)
    (v : Value) (n : Nat) (xs : List Value) (hs : a.eval s = v) (hown : w.ownsRow base e size v n xs)
    (vx : Value) (m : Nat) (news : List Value) (X : Nat → Prop) (hx : a.eval x = vx) (hrow : RowAt X e size w m news vx) (h1 : ∀ u ∈ news, u.oneCell' = true)
    (h63 : n + m ≤ maxLen) (hbytes : (n + m) * bytes ≤ 140737488355328) (hbase : base ≤ w.heap.size)
    (h : ∀ v' w', w'.ownsRow base e size v' (n + m) (xs ++ news) → w.grownBy w' v.ownBlock → wpList P ops Q rest (a.put o.dst v') w') : wpList P ops Q (o :: rest) a w := by
  obtain ⟨hl, p, cap, rfl, hcap, hmax, hp, hr⟩ := hrow
  cases p with
  | none =>
    obtain ⟨rfl, rfl⟩ := hp rfl
    have hn : news = [] := List.eq_nil_of_length_eq_zero (by simpa using hl)
    subst hn
    refine wpList_append_own_none hgd s x t ho base e i size ht hi v n xs hs hown hx (h v w (by simpa using hown) (grown_refl _ _))
  | some ad =>
    obtain ⟨hsp, hc⟩ := hr ad rfl
    refine wpList_append_own w hgd s x t ho base e i z size bytes ht hi hz hsize hby hzs hsz v n xs hs hown ad m cap news hx hl ?_ h1 h63 hbytes hbase (fun v' w' h2 h3 _ => h v' w' h2 h3)
    intro j u hu
    have hm : 0 < m := by
      rcases Nat.eq_zero_or_pos m with hm | hm
      · subst hm; simp at hl; subst hl; simp at hu
      · exact hm
    obtain ⟨_, cur, fz, hb, hcu⟩ := hc hm
    have hsp := hsp (by omega)
    obtain ⟨b, off, spot⟩ := ad
    simp only at hsp; subst hsp
    have : (⟨b, off, none⟩ : Addr).add j = ⟨b, off + j, none⟩ := by unfold Addr.add; split <;> simp_all
    rw [this]
    exact cell_of hb _ (hcu j u hu)

theorem info_elem : (Tryd.prog.info? 24).map (fun i => (i.zero, i.size, i.bytes)) = some (some (.agg #[.int .i64 0, .int .i64 0]), 2, 16) := by kernel_rfl
theorem pv_one (vs : List Nat) : ∀ u ∈ vs.map pv, u.oneCell' = true := by
  intro u hu; obtain ⟨b, _, rfl⟩ := List.mem_map.1 hu; rfl
theorem eCells_one (l : List E) : ∀ u ∈ eCells l, u.oneCell' = true := by
  intro u hu; obtain ⟨x, _, hx⟩ := List.mem_flatMap.1 hu
  rcases List.mem_cons.1 hx with rfl | hx
  · rfl
  · rcases List.mem_cons.1 hx with rfl | hx
    · rfl
    · cases hx
theorem eCells_length (l : List E) : (eCells l).length = l.length * 2 := by
  induction l with
  | nil => rfl
  | cons x l ih => simp only [eCells, List.flatMap_cons] at ih ⊢; simp [ih]; omega
theorem eCells_append (a b : List E) : eCells (a ++ b) = eCells a ++ eCells b := by simp [eCells]
theorem eCells_cons (x : E) (l : List E) : eCells (x :: l) = [.int .i64 x.1, .int .i64 x.2] ++ eCells l := by simp [eCells]

theorem aheadP_any (X : Nat → Prop) (x n : Nat) (vs : List Nat) (v : Value) (w : World) (h : RowAt X 84 1 w n (vs.map pv) v) (hn : n ≤ 1099511627776) :
    Calls Tryd.prog 83 #[.pointer (some ⟨x, 0, none⟩), v] w fun e w' => ∃ v', e = .returned v' ∧ w.grownBy w' none ∧ w'.ownsRow w.heap.size 84 1 v' (n + 1) ((x :: vs).map pv) := by
  obtain ⟨i0, hi, hz0, hz1, hz2⟩ := info_parts info_ptree
  have HH := Lib.hid h
  obtain ⟨_, p, cap, rfl, -, -, -, -⟩ := h
  go_enter Tryd.func83, Tryd.ntmps83
  go_wp2_with (at_builtin; refine wpList_append_row rfl _ _ 82 rfl w.heap.size 84 i0 (.pointer none) 1 8 Tryd.underlying82 hi hz0 hz1 hz2 rfl (by decide) _ 1 [.pointer (some ⟨x, 0, none⟩)] rfl ?c0 _ n (vs.map pv) X rfl ?c1 (pv_one _) ?c2 ?c3 ?c4 ?_)
  case c0 => exact ⟨rfl, .inr ⟨w.heap.size, 1, _, rfl, Nat.le_refl _, heap_alloc_new w _, Nat.le_refl _, by decide, rfl, rfl⟩⟩
  case c1 => exact HH.out.ext (Ext.alloc _ _ _)
  case c2 => unfold maxLen; omega
  case c3 => omega
  case c4 => simp
  intro v' w1 hown hg
  go_wp2
  go_ret
  exact ⟨v', rfl, grown_row (grown_alloc (grown_refl w none) _) hg (fun i hi => by simp [Value.ownBlock] at hi; omega), by rw [Nat.add_comm]; exact hown⟩
theorem grown_own {w W W' : World} {v : Value} (h : w.grownBy W none) (hg : W.grownBy W' v.ownBlock) {b T sz n : Nat} {xs : List Value} (hown : W.ownsRow b T sz v n xs) (hb : w.heap.size ≤ b) : w.grownBy W' none :=
  grown_row h hg (fun i hi => Nat.le_trans hb (hown.lt i hi).1)
theorem aheadE_any (X : Nat → Prop) (x : E) (l : List E) (v : Value) (w : World) (h : RowAt X 24 2 w l.length (eCells l) v) (hn : l.length ≤ 1099511627776) :
    Calls Tryd.prog 76 #[elV x, v] w fun e w' => ∃ v', e = .returned v' ∧ w.grownBy w' none ∧ w'.ownsRow w.heap.size 24 2 v' (l.length + 1) (eCells (x :: l)) := by
  obtain ⟨i0, hi, hz0, hz1, hz2⟩ := info_parts info_elem
  have HH := Lib.hid h
  obtain ⟨_, p, cap, rfl, -, -, -, -⟩ := h
  obtain ⟨x1, x2⟩ := x
  have HN := Lib.hid hn
  generalize hln : l.length = n at *
  have HLN := Lib.hid hln
  clear hln
  unfold elV
  go_enter Tryd.func76, Tryd.ntmps76
  go_wp2_with (at_builtin; refine wpList_append_row rfl _ _ 22 rfl w.heap.size 24 i0 (.agg #[.int .i64 0, .int .i64 0]) 2 16 Tryd.underlying22 hi hz0 hz1 hz2 rfl (by decide) _ 1 [.int .i64 x1, .int .i64 x2] rfl ?c0 _ n (eCells l) X rfl ?c1 (eCells_one _) ?c2 ?c3 ?c4 ?_)
  case c0 => exact ⟨rfl, .inr ⟨w.heap.size + 1, 1, _, rfl, by omega, two_second w _ _, Nat.le_refl _, by decide, rfl, rfl⟩⟩
  case c1 => exact HH.out.ext (grown_ext (grown_two w _ _))
  case c2 => have := HN.out; unfold maxLen; omega
  case c3 => have := HN.out; omega
  case c4 => simp; omega
  intro v' w1 hown hg
  go_wp2
  go_ret
  exact ⟨v', rfl, grown_row (grown_two w _ _) hg (fun i hi => by simp [Value.ownBlock] at hi; omega), by rw [Nat.add_comm, eCells_cons]; exact hown⟩
theorem cloneP_any (X : Nat → Prop) (n : Nat) (vs : List Nat) (v : Value) (w : World) (h : RowAt X 84 1 w n (vs.map pv) v) (hn : n ≤ 1099511627776) :
    Calls Tryd.prog 68 #[v] w fun e w' => ∃ v', e = .returned v' ∧ w.grownBy w' none ∧ w'.ownsRow w.heap.size 84 1 v' n (vs.map pv) := by
  obtain ⟨i0, hi, hz0, hz1, hz2⟩ := info_parts info_ptree
  have HH := Lib.hid h
  obtain ⟨hl, p, cap, rfl, -, -, hp, -⟩ := h
  have heq := fun w a n c => Lib.run_eql_slice_nil (P := Tryd.prog) w 82 84 a n c 0 0 Tryd.underlying82
  cases p with
  | none =>
    obtain ⟨rfl, rfl⟩ := hp rfl
    have hvs : vs.map pv = [] := List.eq_nil_of_length_eq_zero (by simpa using hl)
    have HV := Lib.hid hvs
    clear hvs hl hp
    go_enter Tryd.func68, Tryd.ntmps68
    go_wp2
    go_ret
    exact ⟨_, rfl, grown_refl _ _, by rw [HV.out]; exact World.ownsRow_nil _ _ _ _⟩
  | some a =>
    clear hp hl
    go_enter Tryd.func68, Tryd.ntmps68
    go_wp2_with (at_builtin; refine wpList_append_row rfl _ _ 82 rfl w.heap.size 84 i0 (.pointer none) 1 8 Tryd.underlying82 hi hz0 hz1 hz2 rfl (by decide) _ 0 [] rfl ?c0 _ n (vs.map pv) X rfl ?c1 (pv_one _) ?c2 ?c3 ?c4 ?_)
    case c0 => exact ⟨rfl, .inr ⟨w.heap.size, 0, _, rfl, Nat.le_refl _, heap_alloc_new w _, Nat.le_refl _, by decide, rfl, rfl⟩⟩
    case c1 => exact HH.out.ext (Ext.alloc _ _ _)
    case c2 => unfold maxLen; omega
    case c3 => omega
    case c4 => simp
    intro v' w1 hown hg
    go_wp2
    go_ret
    exact ⟨v', rfl, grown_row (grown_alloc (grown_refl w none) _) hg (fun i hi => by simp [Value.ownBlock] at hi; omega), by simpa using hown⟩
theorem cloneE_any (X : Nat → Prop) (n : Nat) (l : List E) (v : Value) (w : World) (h : RowAt X 24 2 w n (eCells l) v) (hn : n ≤ 1099511627776) :
    Calls Tryd.prog 71 #[v] w fun e w' => ∃ v', e = .returned v' ∧ w.grownBy w' none ∧ w'.ownsRow w.heap.size 24 2 v' n (eCells l) := by
  obtain ⟨i0, hi, hz0, hz1, hz2⟩ := info_parts info_elem
  have HH := Lib.hid h
  obtain ⟨hl, p, cap, rfl, -, -, hp, -⟩ := h
  have heq := fun w a n c => Lib.run_eql_slice_nil (P := Tryd.prog) w 22 24 a n c 0 0 Tryd.underlying22
  cases p with
  | none =>
    obtain ⟨rfl, rfl⟩ := hp rfl
    have hvs : eCells l = [] := List.eq_nil_of_length_eq_zero (by simpa using hl)
    have HV := Lib.hid hvs
    clear hvs hl hp
    go_enter Tryd.func71, Tryd.ntmps71
    go_wp2
    go_ret
    exact ⟨_, rfl, grown_refl _ _, by rw [HV.out]; exact World.ownsRow_nil _ _ _ _⟩
  | some a =>
    clear hp hl
    go_enter Tryd.func71, Tryd.ntmps71
    go_wp2_with (at_builtin; refine wpList_append_row rfl _ _ 22 rfl w.heap.size 24 i0 (.agg #[.int .i64 0, .int .i64 0]) 2 16 Tryd.underlying22 hi hz0 hz1 hz2 rfl (by decide) _ 0 [] rfl ?c0 _ n (eCells l) X rfl ?c1 (eCells_one _) ?c2 ?c3 ?c4 ?_)
    case c0 => exact ⟨rfl, .inr ⟨w.heap.size, 0, _, rfl, Nat.le_refl _, heap_alloc_new w _, Nat.le_refl _, by decide, rfl, rfl⟩⟩
    case c1 => exact HH.out.ext (Ext.alloc _ _ _)
    case c2 => unfold maxLen; omega
    case c3 => omega
    case c4 => simp
    intro v' w1 hown hg
    go_wp2
    go_ret
    exact ⟨v', rfl, grown_row (grown_alloc (grown_refl w none) _) hg (fun i hi => by simp [Value.ownBlock] at hi; omega), by simpa using hown⟩
end Go.Proofs.YtgdnlolicjdfoaaDoor
