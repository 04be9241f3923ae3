import Derived.Test.YtgdnlolicjdfoaaDoorW1
import Derived.Laws.AppendOwnNone
/- Rows, lists and trees in memory; the functions of lists. -/
namespace Go.Proofs.YtgdnlolicjdfoaaDoor
open Go Go.Proofs Go.RowKit Slag

/-- The slice v has n elements of type T, sz cells each: cs. -/
def RowAt (X : Nat → Prop) (_T : TypeId) (sz : Nat) (w : World) (n : Nat) (cs : List Value) (v : Value) : Prop :=
  cs.length = n * sz ∧ ∃ p cap, v = .slice p n cap ∧ n ≤ cap ∧ cap ≤ maxLen ∧ (p = none → n = 0 ∧ cap = 0) ∧
    ∀ a, p = some a → (0 < cap → a.spot = none) ∧ (0 < n → ¬ X a.block ∧ ∃ (cur : Array Value) (fz : TypeId × (Nat × Nat)), w.heap[a.block]? = some (.cells cur fz.1 fz.2) ∧ ∀ (j : Nat) (u : Value), cs[j]? = some u → cur[a.off + j]? = some u)
theorem RowAt.ext {X : Nat → Prop} {T : TypeId} {sz : Nat} {w w' : World} {n : Nat} {cs : List Value} {v : Value} (h : RowAt X T sz w n cs v) (hx : Ext X w w') : RowAt X T sz w' n cs v := by
  obtain ⟨h1, p, cap, h2, h3, h4, h5, h6⟩ := h
  refine ⟨h1, p, cap, h2, h3, h4, h5, fun a ha => ⟨(h6 a ha).1, fun hn => ?_⟩⟩
  obtain ⟨hX, cur, fz, hb, hc⟩ := (h6 a ha).2 hn
  exact ⟨hX, cur, fz, hx.block _ _ _ _ hX hb, hc⟩
theorem RowAt.weak {X Y : Nat → Prop} {T : TypeId} {sz : Nat} {w : World} {n : Nat} {cs : List Value} {v : Value} (h : RowAt X T sz w n cs v) (hXY : ∀ b, Y b → b < w.heap.size → X b) : RowAt Y T sz w n cs v := by
  obtain ⟨h1, p, cap, h2, h3, h4, h5, h6⟩ := h
  refine ⟨h1, p, cap, h2, h3, h4, h5, fun a ha => ⟨(h6 a ha).1, fun hn => ?_⟩⟩
  obtain ⟨hX, cur, fz, hb, hc⟩ := (h6 a ha).2 hn
  exact ⟨fun hy => hX (hXY _ hy (lt_of_heap hb)), cur, fz, hb, hc⟩
theorem RowAt.nil (X : Nat → Prop) (T : TypeId) (sz : Nat) (w : World) : RowAt X T sz w 0 [] (.slice none 0 0) :=
  ⟨by simp, none, 0, rfl, Nat.le_refl _, Nat.zero_le _, (fun _ => ⟨rfl, rfl⟩), (fun _ h => by cases h)⟩
theorem RowAt.of_owns {X : Nat → Prop} {T : TypeId} {sz : Nat} {w : World} {base n : Nat} {cs : List Value} {v : Value} (h : w.ownsRow base T sz v n cs) (hX : ∀ b, X b → b < base) : RowAt X T sz w n cs v := by
  obtain ⟨h1, ⟨rfl, rfl⟩ | ⟨g, cap, cur, rfl, hbg, hg, hn, hm, hs, ht⟩⟩ := h
  · exact ⟨h1, none, 0, rfl, Nat.le_refl _, Nat.zero_le _, (fun _ => ⟨rfl, rfl⟩), (fun _ h => by cases h)⟩
  · refine ⟨h1, some ⟨g, 0, none⟩, cap, rfl, hn, hm, (fun h => by cases h), fun a ha => ?_⟩
    cases ha
    refine ⟨fun _ => rfl, fun _ => ⟨fun hx => by have := hX _ hx; simp at this; omega, cur, (_, (0, 0)), hg, fun j u hu => ?_⟩⟩
    rw [← ht, List.getElem?_take] at hu
    split at hu
    · simpa using hu
    · cases hu
/-- The row's first element, at its address. -/
theorem RowAt.cell {X : Nat → Prop} {T : TypeId} {sz : Nat} {w : World} {n : Nat} {cs : List Value} {p : Option Addr} {cap : Nat} (h : RowAt X T sz w n cs (.slice p n cap)) {j : Nat} {u : Value} (hu : cs[j]? = some u) :
    ∃ b off, p = some ⟨b, off, none⟩ ∧ w.cell? ⟨b, off + j, none⟩ = some u := by
  obtain ⟨h1, p', cap', h2, h3, h4, h5, h6⟩ := h
  cases h2
  have hn : 0 < n := by
    rcases Nat.eq_zero_or_pos n with h | h
    · subst h; simp at h1; subst h1; simp at hu
    · exact h
  cases p with
  | none => have := (h5 rfl).1; omega
  | some a =>
    obtain ⟨hs, hr⟩ := h6 a rfl
    have hs := hs (by omega)
    obtain ⟨_, cur, fz, hb, hc⟩ := hr hn
    obtain ⟨b, off, spot⟩ := a
    simp only at hs; subst hs
    exact ⟨b, off, rfl, cell_of hb _ (hc j u hu)⟩

/-- A pointer to the head of block b. -/
def pv (b : Nat) : Value := .pointer (some ⟨b, 0, none⟩)
/-- Pointers, one behind the other. -/
def ConsAt (X : Nat → Prop) (w : World) : List Nat → Option Addr → Prop
  | [], p => p = none
  | x :: xs, p => ∃ b q, p = some ⟨b, 0, none⟩ ∧ ¬ X b ∧ w.heap[b]? = some (.cells #[.pointer (some ⟨x, 0, none⟩), .pointer q, .int .i64 (wrap64 ((xs.length : Int) + 1))] 121 (0, 0)) ∧ ConsAt X w xs q
theorem ConsAt.ext {X : Nat → Prop} {w w' : World} (hx : Ext X w w') : ∀ {vs : List Nat} {p : Option Addr}, ConsAt X w vs p → ConsAt X w' vs p
  | [], _, h => h
  | _ :: _, _, ⟨b, q, h1, hX, h2, h3⟩ => ⟨b, q, h1, hX, hx.block _ _ _ _ hX h2, h3.ext hx⟩
theorem ConsAt.weak {X Y : Nat → Prop} {w : World} (hXY : ∀ b, Y b → b < w.heap.size → X b) : ∀ {vs : List Nat} {p : Option Addr}, ConsAt X w vs p → ConsAt Y w vs p
  | [], _, h => h
  | _ :: _, _, ⟨b, q, h1, hX, h2, h3⟩ => ⟨b, q, h1, fun hy => hX (hXY _ hy (lt_of_heap h2)), h2, h3.weak hXY⟩

def eCells (l : List E) : List Value := l.flatMap fun x => [.int .i64 x.1, .int .i64 x.2]
mutual
def TreeAt (X : Nat → Prop) (w : World) : Tr E → Nat → Prop
  | .mk r x bs ks, b => ∃ bv kv, ¬ X b ∧
      w.heap[b]? = some (.cells #[.int .i64 r, .int .i64 x.1, .int .i64 x.2, bv, kv, .int .i64 ((Tr.mk r x bs ks).size : Nat)] 112 (0, 0)) ∧
      RowAt X 24 2 w bs.length (eCells bs) bv ∧ r < (Tr.mk r x bs ks).size ∧ ∃ vs, RowAt X 84 1 w ks.length (vs.map pv) kv ∧ TreesAt X w ks vs
def TreesAt (X : Nat → Prop) (w : World) : List (Tr E) → List Nat → Prop
  | [], vs => vs = []
  | t :: ts, vs => ∃ v vs', vs = v :: vs' ∧ TreeAt X w t v ∧ TreesAt X w ts vs'
end
mutual
theorem TreeAt.ext {X : Nat → Prop} {w w' : World} (hx : Ext X w w') : ∀ {t : Tr E} {v : Nat}, TreeAt X w t v → TreeAt X w' t v
  | .mk r x bs ks, v, h => by
    unfold TreeAt at h ⊢
    obtain ⟨bv, kv, hX, h2, h3, h4, vs, h5, h6⟩ := h
    exact ⟨bv, kv, hX, hx.block _ _ _ _ hX h2, h3.ext hx, h4, vs, h5.ext hx, TreesAt.ext hx h6⟩
theorem TreesAt.ext {X : Nat → Prop} {w w' : World} (hx : Ext X w w') : ∀ {l : List (Tr E)} {vs : List Nat}, TreesAt X w l vs → TreesAt X w' l vs
  | [], _, h => by unfold TreesAt at h ⊢; exact h
  | t :: ts, vs, h => by
    unfold TreesAt at h ⊢
    obtain ⟨v, vs', h1, h2, h3⟩ := h
    exact ⟨v, vs', h1, TreeAt.ext hx h2, TreesAt.ext hx h3⟩
end
mutual
theorem TreeAt.weak {X Y : Nat → Prop} {w : World} (hXY : ∀ b, Y b → b < w.heap.size → X b) : ∀ {t : Tr E} {v : Nat}, TreeAt X w t v → TreeAt Y w t v
  | .mk r x bs ks, v, h => by
    unfold TreeAt at h ⊢
    obtain ⟨bv, kv, hX, h2, h3, h4, vs, h5, h6⟩ := h
    exact ⟨bv, kv, fun hy => hX (hXY _ hy (lt_of_heap h2)), h2, h3.weak hXY, h4, vs, h5.weak hXY, TreesAt.weak hXY h6⟩
theorem TreesAt.weak {X Y : Nat → Prop} {w : World} (hXY : ∀ b, Y b → b < w.heap.size → X b) : ∀ {l : List (Tr E)} {vs : List Nat}, TreesAt X w l vs → TreesAt Y w l vs
  | [], _, h => by unfold TreesAt at h ⊢; exact h
  | t :: ts, vs, h => by
    unfold TreesAt at h ⊢
    obtain ⟨v, vs', h1, h2, h3⟩ := h
    exact ⟨v, vs', h1, TreeAt.weak hXY h2, TreesAt.weak hXY h3⟩
end
theorem TreesAt.nil {X : Nat → Prop} {w : World} : TreesAt X w [] [] := by unfold TreesAt; rfl
theorem TreesAt.cons {X : Nat → Prop} {w : World} {t : Tr E} {ts : List (Tr E)} {v : Nat} {vs : List Nat} (h : TreeAt X w t v) (k : TreesAt X w ts vs) : TreesAt X w (t :: ts) (v :: vs) := by
  unfold TreesAt; exact ⟨v, vs, rfl, h, k⟩
theorem TreesAt.of_nil {X : Nat → Prop} {w : World} {vs : List Nat} (h : TreesAt X w [] vs) : vs = [] := by unfold TreesAt at h; exact h
theorem TreesAt.of_cons {X : Nat → Prop} {w : World} {t : Tr E} {ts : List (Tr E)} {vs : List Nat} (h : TreesAt X w (t :: ts) vs) : ∃ v vs', vs = v :: vs' ∧ TreeAt X w t v ∧ TreesAt X w ts vs' := by
  unfold TreesAt at h; exact h
theorem TreesAt.length {X : Nat → Prop} {w : World} : ∀ {l : List (Tr E)} {vs : List Nat}, TreesAt X w l vs → vs.length = l.length
  | [], _, h => by rw [h.of_nil]; rfl
  | _ :: _, _, h => by obtain ⟨v, vs', rfl, _, h3⟩ := h.of_cons; simp [h3.length]
theorem TreesAt.get {X : Nat → Prop} {w : World} : ∀ {l : List (Tr E)} {vs : List Nat} {i : Nat} {t : Tr E}, TreesAt X w l vs → l[i]? = some t → ∃ v, vs[i]? = some v ∧ TreeAt X w t v
  | [], _, _, _, _, hi => by simp at hi
  | t :: ts, _, 0, u, h, hi => by
    obtain ⟨v, vs', rfl, h2, _⟩ := h.of_cons
    simp at hi; subst hi; exact ⟨v, by simp, h2⟩
  | t :: ts, _, i + 1, u, h, hi => by
    obtain ⟨v, vs', rfl, _, h3⟩ := h.of_cons
    obtain ⟨v', h4, h5⟩ := h3.get (i := i) (t := u) (by simpa using hi)
    exact ⟨v', by simpa using h4, h5⟩
theorem TreesAt.append {X : Nat → Prop} {w : World} : ∀ {a b : List (Tr E)} {va vb : List Nat}, TreesAt X w a va → TreesAt X w b vb → TreesAt X w (a ++ b) (va ++ vb)
  | [], _, _, _, h, k => by rw [h.of_nil]; exact k
  | _ :: _, _, _, _, h, k => by obtain ⟨v, vs', rfl, h2, h3⟩ := h.of_cons; exact TreesAt.cons h2 (h3.append k)
theorem TreesAt.reverse {X : Nat → Prop} {w : World} : ∀ {a : List (Tr E)} {va : List Nat}, TreesAt X w a va → TreesAt X w a.reverse va.reverse
  | [], _, h => by rw [h.of_nil]; exact TreesAt.nil
  | _ :: _, _, h => by
    obtain ⟨v, vs', rfl, h2, h3⟩ := h.of_cons
    rw [List.reverse_cons, List.reverse_cons]
    exact h3.reverse.append (TreesAt.cons h2 TreesAt.nil)
theorem TreesAt.eraseIdx {X : Nat → Prop} {w : World} : ∀ {a : List (Tr E)} {va : List Nat} (i : Nat), TreesAt X w a va → TreesAt X w (a.eraseIdx i) (va.eraseIdx i)
  | [], _, _, h => by rw [h.of_nil]; exact TreesAt.nil
  | _ :: _, _, 0, h => by obtain ⟨v, vs', rfl, _, h3⟩ := h.of_cons; exact h3
  | _ :: _, _, i + 1, h => by obtain ⟨v, vs', rfl, h2, h3⟩ := h.of_cons; exact TreesAt.cons h2 (h3.eraseIdx i)
/-- A tree's block. -/
theorem TreeAt.open {X : Nat → Prop} {w : World} {t : Tr E} {b : Nat} (h : TreeAt X w t b) : ∃ bv kv, ¬ X b ∧
      w.heap[b]? = some (.cells #[.int .i64 t.rank, .int .i64 t.root.1, .int .i64 t.root.2, bv, kv, .int .i64 (t.size : Nat)] 112 (0, 0)) ∧
      RowAt X 24 2 w t.bes.length (eCells t.bes) bv ∧ t.rank < t.size ∧ ∃ vs, RowAt X 84 1 w t.kids.length (vs.map pv) kv ∧ TreesAt X w t.kids vs := by
  cases t; unfold TreeAt at h; exact h
theorem TreeAt.shut {X : Nat → Prop} {w : World} {t : Tr E} {b : Nat} {bv kv : Value} {vs : List Nat}
      (hX : ¬ X b) (h1 : w.heap[b]? = some (.cells #[.int .i64 t.rank, .int .i64 t.root.1, .int .i64 t.root.2, bv, kv, .int .i64 (t.size : Nat)] 112 (0, 0)))
      (h2 : RowAt X 24 2 w t.bes.length (eCells t.bes) bv) (h3 : t.rank < t.size) (h4 : RowAt X 84 1 w t.kids.length (vs.map pv) kv) (h5 : TreesAt X w t.kids vs) : TreeAt X w t b := by
  cases t; unfold TreeAt; exact ⟨bv, kv, hX, h1, h2, h3, vs, h4, h5⟩

end Go.Proofs.YtgdnlolicjdfoaaDoor
