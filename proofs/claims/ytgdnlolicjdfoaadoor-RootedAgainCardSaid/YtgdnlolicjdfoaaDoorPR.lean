import Derived.Test.YtgdnlolicjdfoaaDoorP
/- Plain laws of a heap whose least element stands apart: no program in sight. -/
namespace Slag
open Tr
abbrev RH := Option (E × SH)
namespace RH
def els : RH → List E
  | none => []
  | some (x, l) => x :: allL l
def min : RH → E
  | none => (0, 0)
  | some (x, _) => x
def ins : RH → E → RH
  | none, x => some (x, [])
  | some (r, l), x => if less x r then some (x, insert id l r) else some (r, insert id l x)
def insN : RH → Nat
  | none => 1
  | some (_, l) => 1 + insertN l + 1
def meld : RH → RH → RH
  | none, o => o
  | some (x, l), none => some (x, l)
  | some (x, l), some (y, k) => if less y x then some (y, insert id (Slag.meld id l k) x) else some (x, insert id (Slag.meld id l k) y)
def meldN : RH → RH → Nat
  | none, _ => 0
  | some _, none => 0
  | some (_, l), some (_, k) => 1 + Slag.meldN id l k + insertN (Slag.meld id l k) + 1
def minSH (l : SH) : E := (minT id l).getD (0, 0)
def pop : RH → RH
  | none => none
  | some (_, l) => if l = [] then none else some (minSH l, Slag.pop id l)
def popN : RH → Nat
  | none => 0
  | some (_, l) => if l = [] then 0 else (l.length - 1) + Slag.popN id l + 1
def insAll (p : RH × Nat) (l : List E) : RH × Nat := l.foldl (fun p x => (ins p.1 x, p.2 + insN p.1)) p
def of (l : List E) : RH := l.foldl ins none
def ok : RH → Prop
  | none => True
  | some (x, l) => OrdL id l ∧ ∀ y ∈ allL l, le x y
theorem ins_some (r x : E) (l : SH) : ins (some (r, l)) x = if less x r then some (x, insert id l r) else some (r, insert id l x) := rfl
theorem meld_some (x y : E) (l k : SH) : meld (some (x, l)) (some (y, k)) = if less y x then some (y, insert id (Slag.meld id l k) x) else some (x, insert id (Slag.meld id l k) y) := rfl
theorem pop_some (x : E) (l : SH) : pop (some (x, l)) = if l = [] then none else some (minSH l, Slag.pop id l) := rfl
theorem insAll_fst (l : List E) : ∀ p : RH × Nat, (insAll p l).1 = l.foldl ins p.1 := by
  induction l with
  | nil => intro p; rfl
  | cons x l ih => intro p; exact ih _
theorem ins_els (h : RH) (x : E) : (els (ins h x)).Perm (x :: els h) := by
  cases h with
  | none => simp [ins, els, allL_nil]
  | some p =>
    obtain ⟨r, l⟩ := p
    rw [ins_some]; split
    · exact List.Perm.cons _ (insert_all l r)
    · exact ((insert_all l x).cons r).trans (List.Perm.swap ..)
theorem ins_ok {h : RH} {x : E} (k : ok h) : ok (ins h x) := by
  cases h with
  | none => exact ⟨by intro t ht; (simp at ht), by simp [allL_nil]⟩
  | some p =>
    obtain ⟨r, l⟩ := p
    obtain ⟨h1, h2⟩ := k
    rw [ins_some]; split
    · rename_i hl
      refine ⟨insert_ord h1, fun y hy => ?_⟩
      rcases List.mem_cons.1 ((insert_all l r).mem_iff.1 hy) with rfl | hy
      · exact le_of_less hl
      · exact le_trans (le_of_less hl) (h2 y hy)
    · rename_i hl
      refine ⟨insert_ord h1, fun y hy => ?_⟩
      rcases List.mem_cons.1 ((insert_all l x).mem_iff.1 hy) with rfl | hy
      · exact by simpa [le] using hl
      · exact h2 y hy
theorem meld_els (a b : RH) : (els (meld a b)).Perm (els a ++ els b) := by
  cases a with
  | none => simp [meld, els]
  | some p =>
    obtain ⟨x, l⟩ := p
    cases b with
    | none => simp [meld, els]
    | some p =>
      obtain ⟨y, k⟩ := p
      rw [meld_some]; split
      · show (y :: allL _).Perm _
        refine (((insert_all _ x).trans ((meld_all l k).cons x)).cons y).trans ?_
        show (y :: ((x :: allL l) ++ allL k)).Perm ((x :: allL l) ++ y :: allL k)
        exact List.perm_middle.symm
      · show (x :: allL _).Perm _
        refine List.Perm.cons x ?_
        refine ((insert_all _ y).trans ((meld_all l k).cons y)).trans ?_
        exact List.perm_middle.symm
theorem meld_ok {a b : RH} (ha : ok a) (hb : ok b) : ok (meld a b) := by
  cases a with
  | none => exact hb
  | some p =>
    obtain ⟨x, l⟩ := p
    cases b with
    | none => exact ha
    | some p =>
      obtain ⟨y, k⟩ := p
      obtain ⟨h1, h2⟩ := ha
      obtain ⟨h3, h4⟩ := hb
      rw [meld_some]; split
      · rename_i hl
        refine ⟨insert_ord (meld_ord h1 h3), fun z hz => ?_⟩
        rcases List.mem_cons.1 ((insert_all _ x).mem_iff.1 hz) with rfl | hz
        · exact le_of_less hl
        · rcases List.mem_append.1 ((meld_all l k).mem_iff.1 hz) with hz | hz
          · exact le_trans (le_of_less hl) (h2 z hz)
          · exact h4 z hz
      · rename_i hl
        have hxy : le x y := by simpa [le] using hl
        refine ⟨insert_ord (meld_ord h1 h3), fun z hz => ?_⟩
        rcases List.mem_cons.1 ((insert_all _ y).mem_iff.1 hz) with rfl | hz
        · exact hxy
        · rcases List.mem_append.1 ((meld_all l k).mem_iff.1 hz) with hz | hz
          · exact h2 z hz
          · exact le_trans hxy (h4 z hz)
theorem minSH_eq {l : SH} (hne : l ≠ []) : minT id l = some (minSH l) := by
  unfold minSH minT
  rw [List.getElem?_eq_getElem (least_lt hne)]; rfl
theorem laws : Laws RH ok els (fun h => if h.isNone then none else some (min h)) pop where
  none h _ hm := by
    cases h with
    | none => rfl
    | some p => simp at hm
  some h x ho hm := by
    cases h with
    | none => simp at hm
    | some p =>
      obtain ⟨r, l⟩ := p
      obtain ⟨h1, h2⟩ := ho
      obtain rfl : r = x := by simpa [min] using hm
      refine ⟨?_, fun y hy => ?_⟩
      · show (r :: els (pop (some (r, l)))).Perm (r :: allL l)
        refine List.Perm.cons r ?_
        rw [pop_some]; split
        · rename_i h; subst h; simp [els, allL_nil]
        · rename_i hne
          exact (skewLaws.some l (minSH l) h1 (minSH_eq hne)).1
      · rcases List.mem_cons.1 hy with rfl | hy
        · exact le_refl _
        · exact h2 y hy
  ok h ho := by
    cases h with
    | none => exact ho
    | some p =>
      obtain ⟨r, l⟩ := p
      obtain ⟨h1, h2⟩ := ho
      rw [pop_some]; split
      · trivial
      · rename_i hne
        obtain ⟨h3, h4⟩ := skewLaws.some l (minSH l) h1 (minSH_eq hne)
        exact ⟨pop_ord h1, fun y hy => h4 y (h3.mem_iff.1 (List.mem_cons_of_mem _ hy))⟩
theorem of_go (l : List E) : ∀ h : RH, ok h → ok (l.foldl ins h) ∧ (els (l.foldl ins h)).Perm (els h ++ l) := by
  induction l with
  | nil => intro h ho; simp [ho]
  | cons x l ih =>
    intro h ho
    obtain ⟨h1, h2⟩ := ih (ins h x) (ins_ok ho)
    refine ⟨h1, h2.trans ?_⟩
    exact ((ins_els h x).append_right l).trans List.perm_middle.symm
theorem of_ok (l : List E) : ok (of l) := (of_go l none trivial).1
theorem of_els (l : List E) : (els (of l)).Perm l := by simpa [els, of] using (of_go l none trivial).2
end RH
end Slag
