import Derived.Test.YtgdnlolicjdfoaaDoorS1
/- The same for a function that is handed a meter, and blocks X that are no data. -/
namespace Go.Proofs.YtgdnlolicjdfoaaDoor
open Go Go.Proofs Go.RowKit Slag

def XO (X : Nat → Prop) (L : List Slot) : Nat → Prop := fun b => X b ∨ Own L b
structure SX (X : Nat → Prop) (m : Option Nat) (n : Int) (w0 : World) (L : List Slot) (D : List Dat) (w : World) : Prop where
  gr : w0.grownBy w m
  mt : MeterAt w m n
  mem : ∀ b, m = some b → X b
  xlt : ∀ b, X b → b < w0.heap.size
  own : ∀ s ∈ L, s.Holds w0.heap.size w
  dis : L.Pairwise fun s t => ∀ b, s.blk = some b → t.blk ≠ some b
  dat : ∀ d ∈ D, d.P (XO X L) w
section
variable {X : Nat → Prop} {m : Option Nat} {n n' : Int} {w0 w w' : World} {L L' A B : List Slot} {D D' : List Dat} {s s' : Slot}
theorem SX.nil (hm : Mt X w m n) : SX X m n w [] [] w := ⟨grown_refl _ _, hm.at_, hm.mem, hm.lt, by simp, List.Pairwise.nil, by simp⟩
theorem SX.olt (S : SX X m n w0 L D w) : ∀ b, Own L b → b < w.heap.size := fun _ ⟨s, h1, h2⟩ => ((S.own s h1).lt h2).2
theorem SX.olo (S : SX X m n w0 L D w) : ∀ b, Own L b → w0.heap.size ≤ b := fun _ ⟨s, h1, h2⟩ => ((S.own s h1).lt h2).1
theorem SX.lt (S : SX X m n w0 L D w) : ∀ b, XO X L b → b < w.heap.size := fun b hb => by
  rcases hb with hb | hb
  · exact Nat.lt_of_lt_of_le (S.xlt b hb) S.gr.size
  · exact S.olt b hb
theorem SX.Mt (S : SX X m n w0 L D w) : Mt (XO X L) w m n := ⟨S.mt, fun b e => .inl (S.mem b e), S.lt⟩
theorem SX.mne (S : SX X m n w0 L D w) {b : Nat} (hb : w0.heap.size ≤ b) : m ≠ some b := fun e => by have := S.xlt b (S.mem b e); omega
theorem SX.hold_keep (S : SX X m n w0 L D w) (hg : w.grownBy w' m) : ∀ s ∈ L, s.Holds w0.heap.size w' := fun s hs =>
  (S.own s hs).keep fun b hb => hg.block b ((S.own s hs).lt hb).2 (fun e => S.mne ((S.own s hs).lt hb).1 e.symm)
theorem SX.ext (S : SX X m n w0 L D w) (hg : w.grownBy w' m) : Ext (XO X L) w w' := S.Mt.ext hg
/-- A call that may count. -/
theorem SX.mcall (S : SX X m n w0 L D w) (hg : w.grownBy w' m) (hm : MeterAt w' m n') : SX X m n' w0 L D w' :=
  ⟨grown_trans S.gr hg, hm, S.mem, S.xlt, S.hold_keep hg, S.dis, fun d hd => d.ext (S.dat d hd) (S.ext hg)⟩
theorem SX.call (S : SX X m n w0 L D w) (hg : w.grownBy w' none) : SX X m n w0 L D w' := S.mcall (grown_of_none m hg) (S.mt.grown hg)
theorem SX.drew (S : SX X m n w0 L D w) : SX X m n w0 L D w.drew := S.call (grown_drew (grown_refl _ _))
theorem SX.sub (S : SX X m n w0 L D w) (h : L'.Sublist L) : SX X m n w0 L' D w :=
  ⟨S.gr, S.mt, S.mem, S.xlt, fun s hs => S.own s (h.mem hs), S.dis.sublist h, fun d hd => d.weak (S.dat d hd) fun b hb _ => by
    rcases hb with hb | hb
    · exact .inl hb
    · exact .inr (hb.sub h)⟩
theorem SX.tl (S : SX X m n w0 (s :: L) D w) : SX X m n w0 L D w := S.sub (List.sublist_cons_self ..)
theorem SX.dsub (S : SX X m n w0 L D w) (h : ∀ d ∈ D', d ∈ D) : SX X m n w0 L D' w := ⟨S.gr, S.mt, S.mem, S.xlt, S.own, S.dis, fun d hd => S.dat d (h d hd)⟩
theorem SX.add (S : SX X m n w0 L D w) (d : Dat) (h : d.P (XO X L) w) : SX X m n w0 L (d :: D) w :=
  ⟨S.gr, S.mt, S.mem, S.xlt, S.own, S.dis, fun e he => by rcases List.mem_cons.1 he with rfl | he; exact h; exact S.dat e he⟩
theorem SX.upd (S : SX X m n w0 (A ++ s :: B) D w) (hg : w.grownBy w' s.blk) (hs : s'.Holds w0.heap.size w') (hb : ∀ b, s'.blk = some b → s.blk = some b ∨ w.heap.size ≤ b) : SX X m n w0 (A ++ s' :: B) D w' := by
  have hne : ∀ t, t ∈ A ++ B → ∀ b, t.blk = some b → s.blk ≠ some b := by
    intro t ht b htb hsb
    have hd := S.dis
    rw [List.pairwise_append] at hd
    obtain ⟨_, h2, h3⟩ := hd
    rcases List.mem_append.1 ht with ht | ht
    · exact h3 t ht s (by simp) b htb hsb
    · exact (List.pairwise_cons.1 h2).1 t ht b hsb htb
  have hlt : ∀ t, t ∈ A ++ B → ∀ b, t.blk = some b → b < w.heap.size := fun t ht b hb => ((S.own t (by rcases List.mem_append.1 ht with h | h <;> simp [h])).lt hb).2
  refine ⟨grown_row S.gr hg fun i e => ((S.own s (by simp)).lt e).1, S.mt.row hg (fun i e h => S.mne ((S.own s (by simp)).lt e).1 h), S.mem, S.xlt, fun t ht => ?_, ?_, fun d hd => ?_⟩
  · have : t ∈ A ++ B ∨ t = s' := by
      rcases List.mem_append.1 ht with h | h
      · exact .inl (List.mem_append_left _ h)
      · rcases List.mem_cons.1 h with h | h
        · exact .inr h
        · exact .inl (List.mem_append_right _ h)
    rcases this with h | rfl
    · exact (S.own t (by rcases List.mem_append.1 h with h | h <;> simp [h])).keep fun b hb => hg.block b (hlt t h b hb) (fun e => hne t h b hb e.symm)
    · exact hs
  · have hd := S.dis
    rw [List.pairwise_append, List.pairwise_cons] at hd ⊢
    obtain ⟨h1, ⟨h2, h3⟩, h4⟩ := hd
    refine ⟨h1, ⟨fun t ht b hb' hbt => ?_, h3⟩, fun t ht u hu b hb' hbu => ?_⟩
    · rcases hb b hb' with h | h
      · exact h2 t ht b h hbt
      · have := hlt t (List.mem_append_right _ ht) b hbt; omega
    · rcases List.mem_cons.1 hu with rfl | hu
      · rcases hb b hbu with h | h
        · exact h4 t ht s (by simp) b hb' h
        · have := hlt t (List.mem_append_left _ ht) b hb'; omega
      · exact h4 t ht u (by simp [hu]) b hb' hbu
  · have h1 := d.weak (Y := fun b => XO X (A ++ s :: B) b ∨ w.heap.size ≤ b) (S.dat d hd) (fun b hb hlt => by rcases hb with hb | hb; exact hb; omega)
    have h2 := d.ext (w' := w') h1 ⟨hg.size, fun b c T fz hX hbb => by
      rw [hg.block b (lt_of_heap hbb) (fun e => hX (.inl (.inr ⟨s, by simp, e.symm⟩)))]; exact hbb⟩
    refine d.weak h2 fun b hb' _ => ?_
    rcases hb' with hb' | ⟨t, ht, htb⟩
    · exact .inl (.inl hb')
    · rcases List.mem_append.1 ht with h | h
      · exact .inl (.inr ⟨t, by simp [h], htb⟩)
      · rcases List.mem_cons.1 h with rfl | h
        · rcases hb b htb with h | h
          · exact .inl (.inr ⟨s, by simp, h⟩)
          · exact .inr h
        · exact .inl (.inr ⟨t, by simp [h], htb⟩)
theorem SX.push (S : SX X m n w0 L D w) (hg : w.grownBy w' none) (hs : s.Holds w0.heap.size w') (hb : ∀ b, s.blk = some b → w.heap.size ≤ b) : SX X m n w0 (s :: L) D w' := by
  have S' := S.call hg
  refine ⟨S'.gr, S'.mt, S.mem, S.xlt, fun t ht => ?_, List.pairwise_cons.2 ⟨fun t ht b hb1 hb2 => ?_, S'.dis⟩, fun d hd => ?_⟩
  · rcases List.mem_cons.1 ht with rfl | ht
    · exact hs
    · exact S'.own t ht
  · have h1 := hb b hb1
    have h2 := ((S.own t ht).lt hb2).2
    omega
  · have h1 := d.weak (Y := fun b => XO X L b ∨ w.heap.size ≤ b) (S.dat d hd) (fun b hb hlt => by rcases hb with hb | hb; exact hb; omega)
    refine d.weak (d.ext h1 (grown_ext hg)) fun b hb' _ => ?_
    rcases hb' with hb' | ⟨t, ht, htb⟩
    · exact .inl (.inl hb')
    · rcases List.mem_cons.1 ht with rfl | ht
      · exact .inr (hb b htb)
      · exact .inl (.inr ⟨t, ht, htb⟩)
theorem SX.alloc (S : SX X m n w0 L D w) (c : Array Value) (T : TypeId) : SX X m n w0 (.box w.heap.size c T :: L) D (w.alloc (.cells c T)) :=
  S.push (World.grownBy_alloc w _ none) ⟨S.gr.size, heap_alloc_new w _⟩ (fun b hb => by cases hb; exact Nat.le_refl _)
theorem SX.rnil (S : SX X m n w0 L D w) (T : TypeId) (sz : Nat) : SX X m n w0 (.row (.slice none 0 0) T sz 0 [] :: L) D w :=
  S.push (grown_refl _ _) (World.ownsRow_nil _ _ _ _) (fun b hb => by cases hb)
theorem SX.set {b : Nat} {c : Array Value} {T : TypeId} (S : SX X m n w0 (A ++ .box b c T :: B) D w) (o : Nat) (x : Value) : SX X m n w0 (A ++ .box b (c.setIfInBounds o x) T :: B) D (w.setCell ⟨b, o, none⟩ x) := by
  have hb := S.own (.box b c T) (by simp)
  exact S.upd (grown_setCell w ⟨b, o, none⟩ x) ⟨hb.1, heap_set_same hb.2 o x⟩ (fun b' h => .inl h)
theorem SX.append {v v' : Value} {T : TypeId} {sz k k' : Nat} {xs xs' : List Value} (S : SX X m n w0 (A ++ .row v T sz k xs :: B) D w) (hg : w.grownBy w' v.ownBlock) (hr : w'.ownsRow w0.heap.size T sz v' k' xs')
    (hat : v'.ownBlock = v.ownBlock ∨ v'.ownBlock = some w.heap.size) : SX X m n w0 (A ++ .row v' T sz k' xs' :: B) D w' :=
  S.upd hg hr (fun b h => by
    rcases hat with e | e
    · exact .inl (by rw [← h]; exact e.symm)
    · have h' : v'.ownBlock = some b := h
      rw [e] at h'; cases h'; exact .inr (Nat.le_refl _))
theorem SX.box {b : Nat} {c : Array Value} {T : TypeId} (S : SX X m n w0 (A ++ .box b c T :: B) D w) : w.heap[b]? = some (.cells c T (0, 0)) := (S.own (.box b c T) (by simp)).2
/-- A box, in all later worlds. -/
theorem SX.later {b : Nat} {c : Array Value} {T : TypeId} (S : SX X m n w0 (A ++ .box b c T :: B) D w) {W : World} (hg : w.grownBy W m) : W.heap[b]? = some (.cells c T (0, 0)) :=
  box_of hg S.box (S.mne (S.own (.box b c T) (by simp)).1)
theorem SX.rowAt {v : Value} {T : TypeId} {sz k : Nat} {xs : List Value} (S : SX X m n w0 (A ++ .row v T sz k xs :: B) D w) : w.ownsRow w0.heap.size T sz v k xs := S.own (.row v T sz k xs) (by simp)
theorem SX.d1 {d : Dat} (S : SX X m n w0 L (d :: D) w) : d.P (XO X L) w := S.dat d (by simp)
theorem SX.d2 {d1 d : Dat} (S : SX X m n w0 L (d1 :: d :: D) w) : d.P (XO X L) w := S.dat d (by simp)
theorem SX.d3 {d1 d2 d : Dat} (S : SX X m n w0 L (d1 :: d2 :: d :: D) w) : d.P (XO X L) w := S.dat d (by simp)
theorem SX.d4 {d1 d2 d3 d : Dat} (S : SX X m n w0 L (d1 :: d2 :: d3 :: d :: D) w) : d.P (XO X L) w := S.dat d (by simp)
/-- At the end. -/
theorem SX.fin (S : SX X m n w0 L D w) : w0.grownBy w m ∧ Go.Proofs.YtgdnlolicjdfoaaDoor.Mt X w m n :=
  ⟨S.gr, S.mt, S.mem, fun b hb => Nat.lt_of_lt_of_le (S.xlt b hb) S.gr.size⟩
theorem SX.dout {d : Dat} (S : SX X m n w0 L (d :: D) w) : d.P X w := d.weak S.d1 fun _ hb _ => .inl hb
/-- A box that is let go becomes data. -/
theorem SX.release {b : Nat} {c : Array Value} {T : TypeId} (S : SX X m n w0 (.box b c T :: L) D w) : SX X m n w0 L D w ∧ ¬ XO X L b ∧ w.heap[b]? = some (.cells c T (0, 0)) := by
  have hb := S.own (.box b c T) (by simp)
  refine ⟨S.tl, fun h => ?_, hb.2⟩
  rcases h with h | ⟨t, ht, htb⟩
  · have := S.xlt b h; have := hb.1; omega
  · exact (List.pairwise_cons.1 S.dis).1 t ht b rfl htb
end
end Go.Proofs.YtgdnlolicjdfoaaDoor
