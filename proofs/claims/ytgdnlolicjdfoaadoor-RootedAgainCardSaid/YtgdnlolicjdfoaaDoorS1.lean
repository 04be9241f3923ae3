import Derived.Test.YtgdnlolicjdfoaaDoorW23
/- What a function owns while it runs: boxes, rows that it appends to, meters; and what lies apart from these. -/
namespace Go.Proofs.YtgdnlolicjdfoaaDoor
open Go Go.Proofs Go.RowKit Slag

inductive Slot where
  | box (b : Nat) (c : Array Value) (T : TypeId)
  | row (v : Value) (T : TypeId) (sz n : Nat) (xs : List Value)
  | met (b : Nat) (n : Int)
def Slot.blk : Slot → Option Nat
  | .box b _ _ => some b
  | .row v _ _ _ _ => v.ownBlock
  | .met b _ => some b
def Slot.Holds (base : Nat) (w : World) : Slot → Prop
  | .box b c T => base ≤ b ∧ w.heap[b]? = some (.cells c T (0, 0))
  | .row v T sz n xs => w.ownsRow base T sz v n xs
  | .met b n => base ≤ b ∧ MeterAt w (some b) n
theorem Slot.Holds.lt {base : Nat} {w : World} {s : Slot} (h : s.Holds base w) {b : Nat} (hb : s.blk = some b) : base ≤ b ∧ b < w.heap.size := by
  cases s with
  | box b' c T => cases hb; exact ⟨h.1, lt_of_heap h.2⟩
  | row v T sz n xs => exact World.ownsRow.lt h b hb
  | met b' n => cases hb; exact ⟨h.1, h.2.lt rfl⟩
theorem Slot.Holds.keep {base : Nat} {w w' : World} {s : Slot} (h : s.Holds base w) (hb : ∀ b, s.blk = some b → w'.heap[b]? = w.heap[b]?) : s.Holds base w' := by
  cases s with
  | box b' c T => exact ⟨h.1, by rw [hb b' rfl]; exact h.2⟩
  | row v T sz n xs =>
    obtain ⟨h1, h2⟩ := h
    refine ⟨h1, ?_⟩
    rcases h2 with h2 | ⟨g, cap, cur, rfl, h3, h4, h5⟩
    · exact .inl h2
    · exact .inr ⟨g, cap, cur, rfl, h3, by rw [hb g rfl]; exact h4, h5⟩
  | met b' n => exact ⟨h.1, h.2.keep fun b e _ => by cases e; exact hb b' rfl⟩
/-- All that is owned. -/
def Own (L : List Slot) : Nat → Prop := fun b => ∃ s ∈ L, s.blk = some b
theorem Own.sub {L L' : List Slot} (h : L'.Sublist L) {b : Nat} (k : Own L' b) : Own L b := by
  obtain ⟨s, h1, h2⟩ := k
  exact ⟨s, h.mem h1, h2⟩
/-- What lies apart: it stays when only other blocks turn. -/
structure Dat where
  P : (Nat → Prop) → World → Prop
  ext : ∀ {X : Nat → Prop} {w w' : World}, P X w → Ext X w w' → P X w'
  weak : ∀ {X Y : Nat → Prop} {w : World}, P X w → (∀ b, Y b → b < w.heap.size → X b) → P Y w
structure St (w0 : World) (L : List Slot) (D : List Dat) (w : World) : Prop where
  gr : w0.grownBy w none
  own : ∀ s ∈ L, s.Holds w0.heap.size w
  dis : L.Pairwise fun s t => ∀ b, s.blk = some b → t.blk ≠ some b
  dat : ∀ d ∈ D, d.P (Own L) w
section
variable {w0 w w' : World} {L L' A B : List Slot} {D D' : List Dat} {s s' : Slot}
theorem St.nil (w : World) : St w [] [] w := ⟨grown_refl _ _, by simp, List.Pairwise.nil, by simp⟩
theorem St.lt (S : St w0 L D w) : ∀ b, Own L b → b < w.heap.size := fun _ ⟨s, h1, h2⟩ => ((S.own s h1).lt h2).2
theorem St.lo (S : St w0 L D w) : ∀ b, Own L b → w0.heap.size ≤ b := fun _ ⟨s, h1, h2⟩ => ((S.own s h1).lt h2).1
theorem St.mtn (S : St w0 L D w) (n : Int) : Mt (Own L) w none n := Mt.nil S.lt n
theorem St.call (S : St w0 L D w) (hg : w.grownBy w' none) : St w0 L D w' :=
  ⟨grown_trans S.gr hg, fun s hs => (S.own s hs).keep fun b hb => hg.block b ((S.own s hs).lt hb).2 (by simp), S.dis, fun d hd => d.ext (S.dat d hd) (grown_ext hg)⟩
theorem St.sub (S : St w0 L D w) (h : L'.Sublist L) : St w0 L' D w :=
  ⟨S.gr, fun s hs => S.own s (h.mem hs), S.dis.sublist h, fun d hd => d.weak (S.dat d hd) fun _ hb _ => hb.sub h⟩
theorem St.tl (S : St w0 (s :: L) D w) : St w0 L D w := S.sub (List.sublist_cons_self ..)
theorem St.dsub (S : St w0 L D w) (h : ∀ d ∈ D', d ∈ D) : St w0 L D' w := ⟨S.gr, S.own, S.dis, fun d hd => S.dat d (h d hd)⟩
theorem St.add (S : St w0 L D w) (d : Dat) (h : d.P (Own L) w) : St w0 L (d :: D) w :=
  ⟨S.gr, S.own, S.dis, fun e he => by rcases List.mem_cons.1 he with rfl | he; exact h; exact S.dat e he⟩
theorem St.dmap (S : St w0 L D w) (h : ∀ d ∈ D', d.P (Own L) w) : St w0 L D' w := ⟨S.gr, S.own, S.dis, h⟩
/-- One thing that is owned turns; what takes its place may lie anew. -/
theorem St.upd (S : St w0 (A ++ s :: B) D w) (hg : w.grownBy w' s.blk) (hs : s'.Holds w0.heap.size w') (hb : ∀ b, s'.blk = some b → s.blk = some b ∨ w.heap.size ≤ b) : St w0 (A ++ s' :: B) D w' := by
  have hne : ∀ t, t ∈ A ++ B → ∀ b, t.blk = some b → s.blk ≠ some b := by
    intro t ht b htb hsb
    have hd := S.dis
    rw [List.pairwise_append] at hd
    obtain ⟨_, h2, h3⟩ := hd
    rcases List.mem_append.1 ht with ht | ht
    · exact h3 t ht s (by simp) b htb hsb
    · exact (List.pairwise_cons.1 h2).1 t ht b hsb htb
  have hlt : ∀ t, t ∈ A ++ B → ∀ b, t.blk = some b → b < w.heap.size := fun t ht b hb => ((S.own t (by rcases List.mem_append.1 ht with h | h <;> simp [h])).lt hb).2
  refine ⟨grown_row S.gr hg fun i e => ((S.own s (by simp)).lt e).1, fun t ht => ?_, ?_, fun d hd => ?_⟩
  · have : t ∈ A ++ B ∨ t = s' := by
      rcases List.mem_append.1 ht with h | h
      · exact .inl (List.mem_append_left _ h)
      · rcases List.mem_cons.1 h with h | h
        · exact .inr h
        · exact .inl (List.mem_append_right _ h)
    rcases this with h | rfl
    · exact (S.own t (by rcases List.mem_append.1 h with h | h <;> simp [h])).keep fun b hb => hg.block b (hlt t h b hb) (fun e => hne t h b hb e.symm)
    · exact hs
  · have hd := S.dis
    rw [List.pairwise_append, List.pairwise_cons] at hd ⊢
    obtain ⟨h1, ⟨h2, h3⟩, h4⟩ := hd
    refine ⟨h1, ⟨fun t ht b hb' hbt => ?_, h3⟩, fun t ht u hu b hb' hbu => ?_⟩
    · rcases hb b hb' with h | h
      · exact h2 t ht b h hbt
      · have := hlt t (List.mem_append_right _ ht) b hbt; omega
    · rcases List.mem_cons.1 hu with rfl | hu
      · rcases hb b hbu with h | h
        · exact h4 t ht s (by simp) b hb' h
        · have := hlt t (List.mem_append_left _ ht) b hb'; omega
      · exact h4 t ht u (by simp [hu]) b hb' hbu
  · have h1 := d.weak (Y := fun b => Own (A ++ s :: B) b ∨ w.heap.size ≤ b) (S.dat d hd) (fun b hb hlt => by rcases hb with hb | hb; exact hb; omega)
    have h2 := d.ext (w' := w') h1 ⟨hg.size, fun b c T fz hX hbb => by
      rw [hg.block b (lt_of_heap hbb) (fun e => hX (.inl ⟨s, by simp, e.symm⟩))]; exact hbb⟩
    refine d.weak h2 fun b hb' _ => ?_
    obtain ⟨t, ht, htb⟩ := hb'
    rcases List.mem_append.1 ht with h | h
    · exact .inl ⟨t, by simp [h], htb⟩
    · rcases List.mem_cons.1 h with rfl | h
      · rcases hb b htb with h | h
        · exact .inl ⟨s, by simp, h⟩
        · exact .inr h
      · exact .inl ⟨t, by simp [h], htb⟩
/-- Something new is owned. -/
theorem St.push (S : St w0 L D w) (hg : w.grownBy w' none) (hs : s.Holds w0.heap.size w') (hb : ∀ b, s.blk = some b → w.heap.size ≤ b) : St w0 (s :: L) D w' := by
  have S' := S.call hg
  refine ⟨S'.gr, fun t ht => ?_, List.pairwise_cons.2 ⟨fun t ht b hb1 hb2 => ?_, S'.dis⟩, fun d hd => ?_⟩
  · rcases List.mem_cons.1 ht with rfl | ht
    · exact hs
    · exact S'.own t ht
  · have h1 := hb b hb1
    have h2 := ((S.own t ht).lt hb2).2
    omega
  · have h1 := d.weak (Y := fun b => Own L b ∨ w.heap.size ≤ b) (S.dat d hd) (fun b hb hlt => by rcases hb with hb | hb; exact hb; omega)
    refine d.weak (d.ext h1 (grown_ext hg)) fun b hb' _ => ?_
    obtain ⟨t, ht, htb⟩ := hb'
    rcases List.mem_cons.1 ht with rfl | ht
    · exact .inr (hb b htb)
    · exact .inl ⟨t, ht, htb⟩
theorem St.alloc (S : St w0 L D w) (c : Array Value) (T : TypeId) : St w0 (.box w.heap.size c T :: L) D (w.alloc (.cells c T)) :=
  S.push (World.grownBy_alloc w _ none) ⟨S.gr.size, heap_alloc_new w _⟩ (fun b hb => by cases hb; exact Nat.le_refl _)
theorem St.drew (S : St w0 L D w) : St w0 L D w.drew := S.call (grown_drew (grown_refl _ _))
theorem St.rnil (S : St w0 L D w) (T : TypeId) (sz : Nat) : St w0 (.row (.slice none 0 0) T sz 0 [] :: L) D w :=
  S.push (grown_refl _ _) (World.ownsRow_nil _ _ _ _) (fun b hb => by cases hb)
theorem grown_setCell (w : World) (p : Addr) (x : Value) : w.grownBy (w.setCell p x) (some p.block) :=
  ⟨rfl, rfl, rfl, by simp [World.setCell], fun k hk hm => by rw [Below.heap_setCell _ _ _ _ (fun e => hm (by rw [e]))]⟩
theorem St.set {b : Nat} {c : Array Value} {T : TypeId} (S : St w0 (A ++ .box b c T :: B) D w) (o : Nat) (x : Value) : St w0 (A ++ .box b (c.setIfInBounds o x) T :: B) D (w.setCell ⟨b, o, none⟩ x) := by
  have hb := S.own (.box b c T) (by simp)
  exact S.upd (grown_setCell w ⟨b, o, none⟩ x) ⟨hb.1, heap_set_same hb.2 o x⟩ (fun b' h => .inl h)
theorem St.mcall {b : Nat} {n n' : Int} (S : St w0 (A ++ .met b n :: B) D w) (hg : w.grownBy w' (some b)) (hm : MeterAt w' (some b) n') : St w0 (A ++ .met b n' :: B) D w' :=
  S.upd hg ⟨(S.own (.met b n) (by simp)).1, hm⟩ (fun b' h => .inl h)
theorem St.mt {b : Nat} {n : Int} (S : St w0 (A ++ .met b n :: B) D w) : Mt (Own (A ++ .met b n :: B)) w (some b) n :=
  ⟨(S.own (.met b n) (by simp)).2, fun b' e => by cases e; exact ⟨.met b n, by simp, rfl⟩, S.lt⟩
theorem Own.met {b : Nat} {n n' : Int} : Own (A ++ .met b n :: B) = Own (A ++ .met b n' :: B) := by
  funext b'
  refine propext ⟨fun ⟨s, h1, h2⟩ => ?_, fun ⟨s, h1, h2⟩ => ?_⟩ <;>
  · rcases List.mem_append.1 h1 with h | h
    · exact ⟨s, by simp [h], h2⟩
    · rcases List.mem_cons.1 h with rfl | h
      · exact ⟨.met b _, List.mem_append_right _ (List.mem_cons_self ..), h2⟩
      · exact ⟨s, by simp [h], h2⟩
theorem St.madd {b : Nat} {n n' : Int} (S : St w0 (A ++ .met b n :: B) D w) (hg : w.grownBy w' (some b)) (hm : Mt (Own (A ++ .met b n :: B)) w' (some b) n') (d : Dat) (hd : d.P (Own (A ++ .met b n :: B)) w') : St w0 (A ++ .met b n' :: B) (d :: D) w' :=
  (S.mcall hg hm.at_).add d (by rw [Own.met (n' := n)]; exact hd)
theorem St.append {v v' : Value} {T : TypeId} {sz n n' : Nat} {xs xs' : List Value} (S : St w0 (A ++ .row v T sz n xs :: B) D w) (hg : w.grownBy w' v.ownBlock) (hr : w'.ownsRow w0.heap.size T sz v' n' xs')
    (hat : v'.ownBlock = v.ownBlock ∨ v'.ownBlock = some w.heap.size) : St w0 (A ++ .row v' T sz n' xs' :: B) D w' :=
  S.upd hg hr (fun b h => by
    rcases hat with e | e
    · exact .inl (by rw [← h]; exact e.symm)
    · have h' : v'.ownBlock = some b := h
      rw [e] at h'; cases h'; exact .inr (Nat.le_refl _))
/-- Reading. -/
theorem St.box {b : Nat} {c : Array Value} {T : TypeId} (S : St w0 (A ++ .box b c T :: B) D w) : w.heap[b]? = some (.cells c T (0, 0)) := (S.own (.box b c T) (by simp)).2
theorem St.rowAt {v : Value} {T : TypeId} {sz n : Nat} {xs : List Value} (S : St w0 (A ++ .row v T sz n xs :: B) D w) : w.ownsRow w0.heap.size T sz v n xs := S.own (.row v T sz n xs) (by simp)
theorem St.d1 {d : Dat} (S : St w0 L (d :: D) w) : d.P (Own L) w := S.dat d (by simp)
theorem St.d2 {d1 d : Dat} (S : St w0 L (d1 :: d :: D) w) : d.P (Own L) w := S.dat d (by simp)
theorem St.d3 {d1 d2 d : Dat} (S : St w0 L (d1 :: d2 :: d :: D) w) : d.P (Own L) w := S.dat d (by simp)
theorem St.d4 {d1 d2 d3 d : Dat} (S : St w0 L (d1 :: d2 :: d3 :: d :: D) w) : d.P (Own L) w := S.dat d (by simp)
theorem St.d5 {d1 d2 d3 d4 d : Dat} (S : St w0 L (d1 :: d2 :: d3 :: d4 :: d :: D) w) : d.P (Own L) w := S.dat d (by simp)
theorem St.d6 {d1 d2 d3 d4 d5 d : Dat} (S : St w0 L (d1 :: d2 :: d3 :: d4 :: d5 :: d :: D) w) : d.P (Own L) w := S.dat d (by simp)
end
/-- A row of elements. -/
def dR (l : List E) (v : Value) : Dat where
  P X w := RowAt X 24 2 w l.length (eCells l) v
  ext h hx := RowAt.ext h hx
  weak h hX := RowAt.weak h hX
theorem St.newRow {w0 w w' : World} {L : List Slot} {D : List Dat} (S : St w0 L D w) {l : List E} {v : Value} (h : NewRow w.heap.size w' l v) : (dR l v).P (Own L) w' :=
  RowAt.weak h fun b hb _ => S.lt b hb
theorem St.ownRow {w0 w : World} {A B : List Slot} {D : List Dat} {l : List E} {v : Value} (S : St w0 (A ++ .row v 24 2 l.length (eCells l) :: B) D w) : RowAt (fun b => b < w0.heap.size) 24 2 w l.length (eCells l) v :=
  RowAt.of_owns S.rowAt fun _ hb => hb
def lAw : List E := [(2, 0), (1, 0), (3, 0)]
/-- A row that is written out. -/
theorem St.lit {w0 w : World} {L : List Slot} {D : List Dat} (S : St w0 L D w) (l : List E) (c : Array Value) (n : Nat) (hc : c = (eCells l).toArray) (hn : l.length = n) (hm : n ≤ maxLen) :
    St w0 L (dR l (.slice (some ⟨w.heap.size, 0, none⟩) n n) :: D) (w.alloc (.cells c 24)) := by
  subst hn
  refine (S.call (World.grownBy_alloc w _ none)).add _ ⟨by rw [eCells_length], some ⟨w.heap.size, 0, none⟩, l.length, rfl, Nat.le_refl _, hm, (fun h => by cases h), fun a ha => ?_⟩
  cases ha
  refine ⟨fun _ => rfl, fun _ => ⟨fun h => by have := S.lt _ h; simp at this, c, (24, (0, 0)), heap_alloc_new w _, fun j u hu => ?_⟩⟩
  rw [hc]; simpa using hu
end Go.Proofs.YtgdnlolicjdfoaaDoor
