import Derived.Test.YtgdnlolicjdfoaaDoorW25
/- Texts: of a tree. -/
namespace Go.Proofs.YtgdnlolicjdfoaaDoor
open Go Go.Proofs Go.RowKit Slag

mutual
def tText : Tr E → List UInt8
  | .mk _ x bs ks => 40 :: (eText x ++ (bs.flatMap (fun y => 32 :: 43 :: eText y) ++ (kText ks ++ [41])))
def kText : List (Tr E) → List UInt8
  | [] => []
  | t :: ts => 32 :: tText t ++ kText ts
end
theorem tText_eq (t : Tr E) : tText t = 40 :: (eText t.root ++ (t.bes.flatMap (fun y => 32 :: 43 :: eText y) ++ (kText t.kids ++ [41]))) := by cases t; rw [tText]; rfl
theorem kText_cons (t : Tr E) (ts : List (Tr E)) : kText (t :: ts) = 32 :: tText t ++ kText ts := by rw [kText]
theorem kText_nil : kText [] = [] := by rw [kText]
theorem kText_append (a b : List (Tr E)) : kText (a ++ b) = kText a ++ kText b := by
  induction a with
  | nil => simp [kText_nil]
  | cons t a ih => rw [List.cons_append, kText_cons, kText_cons, ih]; simp
def ShortE (x : E) : Prop := (Lib.itoa x.1).length ≤ 21 ∧ (Lib.itoa x.2).length ≤ 21
theorem eText_le {x : E} (h : ShortE x) : (eText x).length ≤ 43 := by have := h.1; have := h.2; simp [eText]; omega
theorem bText_le {l : List E} (h : ∀ x ∈ l, ShortE x) : (l.flatMap (fun y => 32 :: 43 :: eText y)).length ≤ 45 * l.length := by
  induction l with
  | nil => simp
  | cons x l ih =>
    have h1 := eText_le (h x (List.mem_cons_self ..))
    have h2 := ih (fun y hy => h y (List.mem_cons_of_mem _ hy))
    rw [List.flatMap_cons, List.length_append, List.length_cons, List.length_cons, List.length_cons]; omega
mutual
theorem tText_le : ∀ t : Tr E, (∀ x ∈ t.all, ShortE x) → (tText t).length + 1 ≤ 60 * t.size
  | .mk r x bs ks, h => by
    have hall : (Tr.mk r x bs ks).all = x :: (bs ++ Tr.allL ks) := Tr.all_mk ..
    have h1 := eText_le (h x (by rw [hall]; simp))
    have h2 := bText_le (l := bs) (fun y hy => h y (by rw [hall]; simp [hy]))
    have h3 := kText_le ks (fun y hy => h y (by rw [hall]; simp [hy]))
    have hs : (Tr.mk r x bs ks).size = 1 + bs.length + Tr.sizeL ks := Tr.size_eq _
    rw [tText]
    have hk := Tr.length_le_sizeL ks
    simp only [List.length_cons, List.length_append, List.length_nil]
    rw [hs]; omega
theorem kText_le : ∀ l : List (Tr E), (∀ x ∈ Tr.allL l, ShortE x) → (kText l).length ≤ 60 * Tr.sizeL l
  | [], _ => by rw [kText]; simp
  | t :: ts, h => by
    have h1 := tText_le t (fun x hx => h x (by rw [Tr.allL_cons]; simp [hx]))
    have h2 := kText_le ts (fun x hx => h x (by rw [Tr.allL_cons]; simp [hx]))
    rw [kText, Tr.sizeL_cons]
    simp only [List.length_cons, List.length_append]; omega
end
/-- A builder, kept. -/
theorem builder_keep {B b : Nat} {bs : List Value} {w w' : World} (h : Lib.IsBuilder 128 5 B b bs w) (hg : w.grownBy w' none) : Lib.IsBuilder 128 5 B b bs w' := by
  rcases h with h | h
  · obtain ⟨h1, v, h2, h3, h4⟩ := h
    exact .inl ⟨h1, v, box_none hg h2, ownsRow_keep h3 hg (fun g e => by cases e), h4⟩
  · obtain ⟨h1, v, h2, h3, h4⟩ := h
    exact .inr ⟨h1, v, box_none hg h2, ownsRow_keep h3 hg (fun g e => by cases e), h4⟩
theorem strCells_bytes (l : List UInt8) : Lib.strCells ⟨l.toArray⟩ = Lib.byteCells l := by simp [Lib.strCells, Lib.byteCells]
theorem byteCells_append (a b : List UInt8) : Lib.byteCells (a ++ b) = Lib.byteCells a ++ Lib.byteCells b := by simp [Lib.byteCells]
/-- Write, by bytes. -/
theorem write_bytes (B b : Nat) (l s : List UInt8) (z : ByteArray) (w : World) (hz : z = ⟨s.toArray⟩) (h : Lib.IsBuilder 128 5 B b (Lib.byteCells l) w) (hlen : l.length + s.length ≤ 140737488355328) (hBw : B ≤ w.heap.size) :
    Calls Tryd.prog 79 #[.pointer (some ⟨b, 0, none⟩), .string z] w fun e w' => e = .returned (.tuple #[.int .i64 s.length, .nilIface]) ∧ Lib.IsBuilder 128 5 B b (Lib.byteCells (l ++ s)) w' ∧ Below B w w' := by
  subst hz
  refine (write_any B b _ _ w h (by simpa [Lib.byteCells, ByteArray.size] using hlen) hBw).mono ?_
  rintro e w' ⟨rfl, h1, h2⟩
  refine ⟨by simp [ByteArray.size], .inr ?_, h2⟩
  rw [byteCells_append, ← strCells_bytes s]; exact h1
end Go.Proofs.YtgdnlolicjdfoaaDoor
