/- Plain laws of skew binomial heaps: no program in sight. -/
namespace Slag

/-! ### Elements -/
abbrev E := Int × Int

def less (a b : E) : Bool := decide (a.1 < b.1) || (decide (a.1 = b.1) && decide (a.2 < b.2))

theorem less_iff {a b : E} : less a b = true ↔ a.1 < b.1 ∨ (a.1 = b.1 ∧ a.2 < b.2) := by simp [less]
theorem less_false {a b : E} : less a b = false ↔ ¬ (a.1 < b.1 ∨ (a.1 = b.1 ∧ a.2 < b.2)) := by
  rw [← less_iff]; simp
def le (a b : E) : Prop := less b a = false
theorem le_refl (a : E) : le a a := by unfold le; rw [less_false]; omega
theorem le_trans {a b c : E} (h : le a b) (k : le b c) : le a c := by
  unfold le at *; rw [less_false] at *; omega
theorem le_of_less {a b : E} (h : less a b = true) : le a b := by
  unfold le; rw [less_iff] at h; rw [less_false]; omega
theorem le_total {a b : E} (h : less a b = false) : le b a := h
theorem le_antisymm {a b : E} (h : le a b) (k : le b a) : a = b := by
  unfold le at *; rw [less_false] at *
  exact Prod.ext (by omega) (by omega)

/-! ### Rows in order -/
def ins : List E → E → List E
  | [], x => [x]
  | y :: l, x => if less y x then y :: ins l x else x :: y :: l
def srt (l : List E) : List E := l.foldl ins []
def Sorted (l : List E) : Prop := l.Pairwise le

theorem ins_perm (l : List E) (x : E) : (ins l x).Perm (x :: l) := by
  induction l with
  | nil => exact List.Perm.refl _
  | cons y l ih =>
    unfold ins; split
    · exact (List.Perm.cons y ih).trans (List.Perm.swap x y l)
    · exact List.Perm.refl _
theorem ins_sorted (l : List E) (x : E) (h : Sorted l) : Sorted (ins l x) := by
  induction l with
  | nil => simp [ins, Sorted]
  | cons y l ih =>
    unfold Sorted at h ih ⊢
    rw [List.pairwise_cons] at h
    unfold ins; split
    · rename_i hy
      rw [List.pairwise_cons]
      refine ⟨fun z hz => ?_, ih h.2⟩
      rcases List.mem_cons.1 ((ins_perm l x).mem_iff.1 hz) with rfl | hz
      · exact le_of_less hy
      · exact h.1 z hz
    · rename_i hy
      have hxy : le x y := by simpa [le] using hy
      rw [List.pairwise_cons, List.pairwise_cons]
      refine ⟨fun z hz => ?_, h.1, h.2⟩
      rcases List.mem_cons.1 hz with rfl | hz
      · exact hxy
      · exact le_trans hxy (h.1 z hz)
theorem foldl_ins_perm (l : List E) : ∀ acc : List E, (l.foldl ins acc).Perm (acc ++ l) := by
  induction l with
  | nil => intro acc; simp
  | cons x l ih =>
    intro acc
    refine (ih _).trans ?_
    refine ((ins_perm acc x).append_right l).trans ?_
    exact List.perm_middle.symm
theorem foldl_ins_sorted (l : List E) : ∀ acc : List E, Sorted acc → Sorted (l.foldl ins acc) := by
  induction l with
  | nil => intro acc h; exact h
  | cons x l ih => intro acc h; exact ih _ (ins_sorted acc x h)
theorem srt_perm (l : List E) : (srt l).Perm l := by simpa [srt] using foldl_ins_perm l []
theorem srt_sorted (l : List E) : Sorted (srt l) := foldl_ins_sorted l [] List.Pairwise.nil
theorem sorted_unique : ∀ {l l' : List E}, Sorted l → Sorted l' → l.Perm l' → l = l'
  | [], l', _, _, h => by simpa using h.symm.eq_nil
  | x :: l, [], _, _, h => by simpa using h.eq_nil
  | x :: l, y :: l', h, h', p => by
    unfold Sorted at h h'
    have e : x = y := by
      have hx : x ∈ y :: l' := p.mem_iff.1 (List.mem_cons_self ..)
      have hy : y ∈ x :: l := p.mem_iff.2 (List.mem_cons_self ..)
      rw [List.pairwise_cons] at h h'
      rcases List.mem_cons.1 hx with hx | hx
      · exact hx
      · rcases List.mem_cons.1 hy with hy | hy
        · exact hy.symm
        · exact le_antisymm (h.1 y hy) (h'.1 x hx)
    subst e
    rw [List.perm_cons] at p
    rw [sorted_unique (List.pairwise_cons.1 h).2 (List.pairwise_cons.1 h').2 p]
theorem srt_congr {l l' : List E} (p : l.Perm l') : srt l = srt l' :=
  sorted_unique (srt_sorted _) (srt_sorted _) ((srt_perm l).trans (p.trans (srt_perm l').symm))
theorem srt_of_sorted {l : List E} (h : Sorted l) : srt l = l := sorted_unique (srt_sorted _) h (srt_perm l)
theorem srt_length (l : List E) : (srt l).length = l.length := (srt_perm l).length_eq
theorem foldl_ins_srt (a b : List E) : b.foldl ins (srt a) = srt (a ++ b) := by
  refine sorted_unique (foldl_ins_sorted _ _ (srt_sorted _)) (srt_sorted _) ?_
  exact (foldl_ins_perm b _).trans (((srt_perm a).append_right b).trans (srt_perm _).symm)
theorem ins_srt (a : List E) (x : E) : ins (srt a) x = srt (a ++ [x]) := foldl_ins_srt a [x]
theorem srt_cons_least {x : E} {l : List E} (h : ∀ y ∈ l, le x y) : srt (x :: l) = x :: srt l := by
  refine sorted_unique (srt_sorted _) ?_ ((srt_perm _).trans ((srt_perm l).symm.cons x))
  unfold Sorted
  rw [List.pairwise_cons]
  exact ⟨fun y hy => h y ((srt_perm l).mem_iff.1 hy), srt_sorted l⟩

/-! ### Trees -/
inductive Tr (α : Type) where
  | mk (rank : Nat) (root : α) (bes : List α) (kids : List (Tr α))

namespace Tr
variable {α : Type}
def rank : Tr α → Nat | mk r _ _ _ => r
def root : Tr α → α | mk _ x _ _ => x
def bes : Tr α → List α | mk _ _ b _ => b
def kids : Tr α → List (Tr α) | mk _ _ _ k => k
mutual
def all : Tr α → List α
  | mk _ x b ks => x :: (b ++ allL ks)
def allL : List (Tr α) → List α
  | [] => []
  | t :: ts => all t ++ allL ts
end
theorem allL_nil : allL ([] : List (Tr α)) = [] := by simp [allL]
theorem allL_cons (t : Tr α) (ts : List (Tr α)) : allL (t :: ts) = all t ++ allL ts := by simp [allL]
theorem all_mk (r : Nat) (x : α) (b : List α) (ks : List (Tr α)) : all (mk r x b ks) = x :: (b ++ allL ks) := by simp [all]
theorem all_eq (t : Tr α) : all t = t.root :: (t.bes ++ allL t.kids) := by cases t; simp [all, root, bes, kids]
theorem allL_append (a b : List (Tr α)) : allL (a ++ b) = allL a ++ allL b := by
  induction a with
  | nil => simp [allL]
  | cons t ts ih => simp [allL, ih]
theorem allL_flatMap (l : List (Tr α)) : allL l = l.flatMap all := by
  induction l with
  | nil => simp [allL]
  | cons t ts ih => simp [allL, ih]
theorem allL_perm {a b : List (Tr α)} (p : a.Perm b) : (allL a).Perm (allL b) := by
  rw [allL_flatMap, allL_flatMap]; exact p.flatMap_right _
theorem mem_allL {x : α} {l : List (Tr α)} : x ∈ allL l ↔ ∃ t ∈ l, x ∈ all t := by rw [allL_flatMap, List.mem_flatMap]
theorem root_mem (t : Tr α) : t.root ∈ all t := by rw [all_eq]; exact List.mem_cons_self ..
def size (t : Tr α) : Nat := (all t).length
def sizeL (l : List (Tr α)) : Nat := (allL l).length
theorem sizeL_nil : sizeL ([] : List (Tr α)) = 0 := by simp [sizeL, allL]
theorem sizeL_cons (t : Tr α) (ts : List (Tr α)) : sizeL (t :: ts) = size t + sizeL ts := by simp [sizeL, size, allL]
theorem size_eq (t : Tr α) : size t = 1 + t.bes.length + sizeL t.kids := by
  simp [size, sizeL, all_eq]; omega
theorem size_pos (t : Tr α) : 0 < size t := by rw [size_eq]; omega
theorem length_le_sizeL (l : List (Tr α)) : l.length ≤ sizeL l := by
  induction l with
  | nil => simp
  | cons t ts ih => rw [sizeL_cons]; have := size_pos t; simp; omega
end Tr
open Tr

section
variable {α : Type} (key : α → E)

def link (a b : Tr α) : Tr α :=
  if less (key b.root) (key a.root) then .mk (b.rank + 1) b.root b.bes (a :: b.kids) else .mk (a.rank + 1) a.root a.bes (b :: a.kids)
def skewT (x : α) (a b : Tr α) : Tr α :=
  let t := link key a b
  if less (key t.root) (key x) then .mk t.rank t.root (x :: t.bes) t.kids else .mk t.rank x (t.root :: t.bes) t.kids
def leaf (x : α) : Tr α := .mk 0 x [] []
def insert (l : List (Tr α)) (x : α) : List (Tr α) :=
  match l with
  | a :: b :: r => if a.rank = b.rank then skewT key x a b :: r else leaf x :: a :: b :: r
  | l => leaf x :: l
def insertN (l : List (Tr α)) : Nat :=
  match l with
  | a :: b :: _ => if a.rank = b.rank then 4 else 1
  | _ => 1
def putT : Tr α → List (Tr α) → List (Tr α)
  | t, [] => [t]
  | t, u :: l => if u.rank ≤ t.rank then putT (link key t u) l else t :: u :: l
def putN : Tr α → List (Tr α) → Nat
  | _, [] => 0
  | t, u :: l => if u.rank ≤ t.rank then putN (link key t u) l + 2 else 0
def level : List (Tr α) → List (Tr α)
  | [] => []
  | t :: l => putT key t l
def levelN : List (Tr α) → Nat
  | [] => 0
  | t :: l => putN key t l
def meldT : List (Tr α) → List (Tr α) → List (Tr α)
  | [], l => l
  | a :: x, [] => a :: x
  | a :: x, b :: y =>
    if a.rank < b.rank then a :: meldT x (b :: y)
    else if b.rank < a.rank then b :: meldT (a :: x) y
    else putT key (link key a b) (meldT x y)
termination_by a b => a.length + b.length
def meldTN : List (Tr α) → List (Tr α) → Nat
  | [], _ => 0
  | _ :: _, [] => 0
  | a :: x, b :: y =>
    if a.rank < b.rank then meldTN x (b :: y)
    else if b.rank < a.rank then meldTN (a :: x) y
    else meldTN x y + 2 + putN key (link key a b) (meldT key x y)
termination_by a b => a.length + b.length
def meld (a b : List (Tr α)) : List (Tr α) := meldT key (level key a) (level key b)
def meldN (a b : List (Tr α)) : Nat := levelN key a + levelN key b + meldTN key (level key a) (level key b)
def leastGo (best : Nat) (bx : E) (i : Nat) : List (Tr α) → Nat
  | [] => best
  | t :: ts => if less (key t.root) bx then leastGo i (key t.root) (i + 1) ts else leastGo best bx (i + 1) ts
def least : List (Tr α) → Nat
  | [] => 0
  | t :: ts => leastGo key 0 (key t.root) 1 ts
def insAll (p : List (Tr α) × Nat) (xs : List α) : List (Tr α) × Nat :=
  xs.foldl (fun p x => (insert key p.1 x, p.2 + insertN p.1)) p
def popAt (l : List (Tr α)) (i : Nat) : List (Tr α) × Nat :=
  match l[i]? with
  | none => (l, 0)
  | some t =>
    let rest := l.eraseIdx i
    insAll key (meldT key t.kids.reverse (level key rest), l.length - 1 + levelN key rest + meldTN key t.kids.reverse (level key rest)) t.bes
def popP (l : List (Tr α)) : List (Tr α) × Nat := popAt key l (least key l)
def pop (l : List (Tr α)) : List (Tr α) := (popP key l).1
def popN (l : List (Tr α)) : Nat := (popP key l).2
def minT (l : List (Tr α)) : Option α := (l[least key l]?).map Tr.root
end

/-! ### What is in the heaps -/
section
variable {α : Type} {key : α → E}

theorem link_all (a b : Tr α) : (link key a b).all.Perm (a.all ++ b.all) := by
  unfold link; split
  · rw [all_mk, allL_cons, all_eq b]
    refine (List.perm_middle.trans ?_ : _).symm
    refine List.Perm.cons _ ?_
    rw [← List.append_assoc, ← List.append_assoc]
    exact List.perm_append_comm.append_right _
  · rw [all_mk, allL_cons, all_eq a, List.cons_append]
    refine List.Perm.cons _ ?_
    rw [List.append_assoc]
    exact List.perm_append_comm.append_left _
theorem skew_all (x : α) (a b : Tr α) : (skewT key x a b).all.Perm (x :: (a.all ++ b.all)) := by
  unfold skewT
  refine List.Perm.trans ?_ ((link_all (key := key) a b).cons x)
  generalize link key a b = t
  simp only []
  split
  · rw [all_mk, all_eq t, List.cons_append]; exact List.Perm.swap ..
  · rw [all_mk, all_eq t, List.cons_append]
theorem leaf_all (x : α) : (leaf x).all = [x] := by simp [leaf, all_mk, allL_nil]
theorem insert_all (l : List (Tr α)) (x : α) : (allL (insert key l x)).Perm (x :: allL l) := by
  unfold insert; split
  · split
    · rw [allL_cons, allL_cons, allL_cons, ← List.append_assoc]
      exact (skew_all ..).append_right _
    · simp only [allL_cons, leaf_all]; exact List.Perm.refl _
  · simp only [allL_cons, leaf_all]; exact List.Perm.refl _
theorem put_all (l : List (Tr α)) : ∀ t : Tr α, (allL (putT key t l)).Perm (t.all ++ allL l) := by
  induction l with
  | nil => intro t; simp [putT, allL_cons, allL_nil]
  | cons u l ih =>
    intro t; unfold putT; split
    · refine (ih _).trans ?_
      rw [allL_cons, ← List.append_assoc]
      exact (link_all ..).append_right _
    · rw [allL_cons]
theorem level_all (l : List (Tr α)) : (allL (level key l)).Perm (allL l) := by
  cases l with
  | nil => exact List.Perm.refl _
  | cons t l => exact put_all l t
theorem meldT_all (a b : List (Tr α)) : (allL (meldT key a b)).Perm (allL a ++ allL b) := by
  induction a, b using meldT.induct with
  | case1 l => simp [meldT, allL_nil]
  | case2 a x => simp [meldT, allL_nil]
  | case3 a x b y h ih =>
    rw [meldT, if_pos h, allL_cons, allL_cons a, List.append_assoc]
    exact ih.append_left _
  | case4 a x b y h h' ih =>
    rw [meldT, if_neg h, if_pos h', allL_cons, allL_cons b]
    refine (ih.append_left _).trans ?_
    rw [← List.append_assoc, ← List.append_assoc]
    exact List.perm_append_comm.append_right _
  | case5 a x b y h h' ih =>
    rw [meldT, if_neg h, if_neg h', allL_cons, allL_cons]
    refine (put_all _ _).trans ?_
    refine ((link_all ..).append ih).trans ?_
    simp only [List.append_assoc]
    refine List.Perm.append_left _ ?_
    rw [← List.append_assoc, ← List.append_assoc]
    exact List.perm_append_comm.append_right _
theorem meld_all (a b : List (Tr α)) : (allL (meld key a b)).Perm (allL a ++ allL b) :=
  (meldT_all _ _).trans ((level_all a).append (level_all b))
theorem insAll_all (xs : List α) : ∀ p : List (Tr α) × Nat, (allL (insAll key p xs).1).Perm (allL p.1 ++ xs) := by
  induction xs with
  | nil => intro p; simp [insAll]
  | cons x xs ih =>
    intro p
    refine (ih (insert key p.1 x, p.2 + insertN p.1)).trans ?_
    refine ((insert_all p.1 x).append_right xs).trans ?_
    exact List.perm_middle.symm
theorem popAt_all {l : List (Tr α)} {i : Nat} {t : Tr α} (h : l[i]? = some t) : (t.root :: allL (popAt key l i).1).Perm (allL l) := by
  have hl : (allL l).Perm (t.all ++ allL (l.eraseIdx i)) := by
    have hi : i < l.length := by
      rcases Nat.lt_or_ge i l.length with h' | h'
      · exact h'
      · simp [List.getElem?_eq_none h'] at h
    have ht : l[i] = t := by simpa [List.getElem?_eq_getElem hi] using h
    rw [← allL_cons]
    apply allL_perm
    rw [List.eraseIdx_eq_take_drop_succ, ← ht]
    have : l.Perm (l.take i ++ l[i] :: l.drop (i + 1)) := by
      rw [← List.drop_eq_getElem_cons hi, List.take_append_drop]
    exact this.trans List.perm_middle
  refine List.Perm.trans ?_ hl.symm
  unfold popAt; rw [h]; simp only []
  rw [all_eq t, List.cons_append]
  refine List.Perm.cons _ ?_
  refine (insAll_all ..).trans ?_
  simp only []
  refine ((meldT_all _ _).append_right _).trans ?_
  refine List.Perm.trans ?_ (List.perm_append_comm.append_right _)
  rw [List.append_assoc, List.append_assoc]
  refine (allL_perm (List.reverse_perm _)).append ?_
  exact ((level_all _).append_right _).trans List.perm_append_comm
theorem leastGo_lt (l : List (Tr α)) : ∀ best bx i, best < i → leastGo key best bx i l < i + l.length := by
  induction l with
  | nil => intro best bx i h; simpa [leastGo] using h
  | cons t ts ih =>
    intro best bx i h
    unfold leastGo; split
    · have := ih i (key t.root) (i + 1) (by omega); simp; omega
    · have := ih best bx (i + 1) (by omega); simp; omega
theorem least_lt {l : List (Tr α)} (h : l ≠ []) : least key l < l.length := by
  cases l with
  | nil => exact absurd rfl h
  | cons t ts => have := leastGo_lt (key := key) ts 0 (key t.root) 1 (by omega); simp [least]; omega
theorem leastGo_le (full : List (Tr α)) (l : List (Tr α)) : ∀ (best : Nat) (bx : E) (i : Nat) (tb : Tr α), full[best]? = some tb → key tb.root = bx → full.drop i = l →
    (∀ (j : Nat) (u : Tr α), j < i → full[j]? = some u → le bx (key u.root)) →
    ∃ t, full[leastGo key best bx i l]? = some t ∧ ∀ (j : Nat) (u : Tr α), full[j]? = some u → le (key t.root) (key u.root) := by
  induction l with
  | nil =>
    intro best bx i tb hb hx hd hall
    refine ⟨tb, by simpa [leastGo] using hb, fun j u hj => ?_⟩
    have hi : full.length ≤ i := by simpa using hd
    have hj' : j < full.length := (List.getElem?_eq_some_iff.1 hj).1
    rw [hx]; exact hall j u (by omega) hj
  | cons t ts ih =>
    intro best bx i tb hb hx hd hall
    have hi : i < full.length := by
      rcases Nat.lt_or_ge i full.length with h | h
      · exact h
      · rw [List.drop_eq_nil_of_le h] at hd; cases hd
    rw [List.drop_eq_getElem_cons hi] at hd
    injection hd with h1 h2
    have hti : full[i]? = some t := by rw [List.getElem?_eq_getElem hi, h1]
    unfold leastGo; split
    · rename_i hl
      refine ih i (key t.root) (i + 1) t hti rfl h2 fun j u hj hu => ?_
      rcases Nat.lt_or_ge j i with h | h
      · exact le_trans (le_of_less hl) (hall j u h hu)
      · have : j = i := by omega
        subst this; rw [hti] at hu; cases hu; exact le_refl _
    · rename_i hl
      refine ih best bx (i + 1) tb hb hx h2 fun j u hj hu => ?_
      rcases Nat.lt_or_ge j i with h | h
      · exact hall j u h hu
      · have : j = i := by omega
        subst this; rw [hti] at hu; cases hu
        exact by simpa [le] using hl
theorem least_le {l : List (Tr α)} (h : l ≠ []) : ∃ t, l[least key l]? = some t ∧ ∀ u ∈ l, le (key t.root) (key u.root) := by
  cases l with
  | nil => exact absurd rfl h
  | cons t ts =>
    obtain ⟨t', h1, h2⟩ := leastGo_le (key := key) (t :: ts) ts 0 (key t.root) 1 t rfl rfl rfl (fun j u hj hu => by
      have : j = 0 := by omega
      subst this; simp at hu; subst hu; exact le_refl _)
    refine ⟨t', h1, fun u hu => ?_⟩
    obtain ⟨j, hj⟩ := List.getElem?_of_mem hu
    exact h2 j u hj

/-! ### Order in trees -/
inductive Ord (key : α → E) : Tr α → Prop where
  | mk (r : Nat) (x : α) (b : List α) (ks : List (Tr α)) (h : ∀ y ∈ all (.mk r x b ks), le (key x) (key y)) (hk : ∀ k ∈ ks, Ord key k) : Ord key (.mk r x b ks)
theorem Ord.le {t : Tr α} (h : Ord key t) : ∀ y ∈ t.all, le (key t.root) (key y) := by cases h; assumption
theorem Ord.kids {t : Tr α} (h : Ord key t) : ∀ k ∈ t.kids, Ord key k := by cases h; assumption
theorem Ord.of {t : Tr α} (h : ∀ y ∈ t.all, Slag.le (key t.root) (key y)) (hk : ∀ k ∈ t.kids, Ord key k) : Ord key t := by
  cases t; exact .mk _ _ _ _ h hk
def OrdL (key : α → E) (l : List (Tr α)) : Prop := ∀ t ∈ l, Ord key t
theorem leaf_ord (x : α) : Ord key (leaf x) := Ord.of (by rw [leaf_all]; simp [leaf, Tr.root, le_refl]) (by simp [leaf, Tr.kids])
theorem link_root (a b : Tr α) : (link key a b).root = if less (key b.root) (key a.root) then b.root else a.root := by
  unfold link; split <;> rfl
theorem link_ord {a b : Tr α} (ha : Ord key a) (hb : Ord key b) : Ord key (link key a b) := by
  refine Ord.of (fun y hy => ?_) ?_
  · rw [link_root]
    rcases List.mem_append.1 ((link_all a b).mem_iff.1 hy) with h | h
    · split
      · rename_i hl; exact le_trans (le_of_less hl) (ha.le y h)
      · exact ha.le y h
    · split
      · exact hb.le y h
      · rename_i hl; exact le_trans (by simpa [Slag.le] using hl) (hb.le y h)
  · unfold link; split
    · simp only [Tr.kids]; intro k hk; rcases List.mem_cons.1 hk with rfl | hk
      · exact ha
      · exact hb.kids k hk
    · simp only [Tr.kids]; intro k hk; rcases List.mem_cons.1 hk with rfl | hk
      · exact hb
      · exact ha.kids k hk
theorem skew_ord {x : α} {a b : Tr α} (ha : Ord key a) (hb : Ord key b) : Ord key (skewT key x a b) := by
  have ht := link_ord ha hb
  unfold skewT
  generalize link key a b = t at ht
  simp only []
  split
  · rename_i hl
    refine Ord.of (fun y hy => ?_) ht.kids
    simp only [Tr.root]
    rw [all_mk] at hy
    rcases List.mem_cons.1 hy with rfl | hy
    · exact le_refl _
    · rw [List.cons_append] at hy
      rcases List.mem_cons.1 hy with rfl | hy
      · exact le_of_less hl
      · exact ht.le y (by rw [all_eq]; exact List.mem_cons_of_mem _ hy)
  · rename_i hl
    have hxt : Slag.le (key x) (key t.root) := by simpa [Slag.le] using hl
    refine Ord.of (fun y hy => ?_) ht.kids
    simp only [Tr.root]
    rw [all_mk] at hy
    rcases List.mem_cons.1 hy with rfl | hy
    · exact le_refl _
    · rw [List.cons_append] at hy
      refine le_trans hxt (ht.le y ?_)
      rw [all_eq]; exact hy
theorem insert_ord {l : List (Tr α)} {x : α} (h : OrdL key l) : OrdL key (insert key l x) := by
  unfold insert; split
  · rename_i a b r
    split
    · intro t ht; rcases List.mem_cons.1 ht with rfl | ht
      · exact skew_ord (h a (by simp)) (h b (by simp))
      · exact h t (by simp [ht])
    · intro t ht; rcases List.mem_cons.1 ht with rfl | ht
      · exact leaf_ord x
      · exact h t ht
  · intro t ht; rcases List.mem_cons.1 ht with rfl | ht
    · exact leaf_ord x
    · exact h t ht
theorem put_ord {l : List (Tr α)} : ∀ {t : Tr α}, Ord key t → OrdL key l → OrdL key (putT key t l) := by
  induction l with
  | nil => intro t ht _ u hu; simp [putT] at hu; subst hu; exact ht
  | cons v l ih =>
    intro t ht h; unfold putT; split
    · exact ih (link_ord ht (h v (by simp))) (fun u hu => h u (by simp [hu]))
    · intro u hu; rcases List.mem_cons.1 hu with rfl | hu
      · exact ht
      · exact h u hu
theorem level_ord {l : List (Tr α)} (h : OrdL key l) : OrdL key (level key l) := by
  cases l with
  | nil => exact h
  | cons t l => exact put_ord (h t (by simp)) (fun u hu => h u (by simp [hu]))
theorem meldT_ord (a b : List (Tr α)) (ha : OrdL key a) (hb : OrdL key b) : OrdL key (meldT key a b) := by
  induction a, b using meldT.induct with
  | case1 l => simpa [meldT] using hb
  | case2 a x => simpa [meldT] using ha
  | case3 a x b y h ih =>
    rw [meldT, if_pos h]
    intro t ht; rcases List.mem_cons.1 ht with rfl | ht
    · exact ha _ (by simp)
    · exact ih (fun u hu => ha u (by simp [hu])) hb t ht
  | case4 a x b y h h' ih =>
    rw [meldT, if_neg h, if_pos h']
    intro t ht; rcases List.mem_cons.1 ht with rfl | ht
    · exact hb _ (by simp)
    · exact ih ha (fun u hu => hb u (by simp [hu])) t ht
  | case5 a x b y h h' ih =>
    rw [meldT, if_neg h, if_neg h']
    exact put_ord (link_ord (ha _ (by simp)) (hb _ (by simp))) (ih (fun u hu => ha u (by simp [hu])) (fun u hu => hb u (by simp [hu])))
theorem meld_ord {a b : List (Tr α)} (ha : OrdL key a) (hb : OrdL key b) : OrdL key (meld key a b) := meldT_ord _ _ (level_ord ha) (level_ord hb)
theorem insAll_ord (xs : List α) : ∀ p : List (Tr α) × Nat, OrdL key p.1 → OrdL key (insAll key p xs).1 := by
  induction xs with
  | nil => intro p h; exact h
  | cons x xs ih => intro p h; exact ih (insert key p.1 x, p.2 + insertN p.1) (insert_ord h)
theorem popAt_ord {l : List (Tr α)} (h : OrdL key l) (i : Nat) : OrdL key (popAt key l i).1 := by
  unfold popAt; split
  · exact h
  · rename_i t ht
    have htm : t ∈ l := List.mem_of_getElem? ht
    exact insAll_ord _ _ (meldT_ord _ _ (fun u hu => (h t htm).kids u (by simpa using hu)) (level_ord (fun u hu => h u ((List.eraseIdx_sublist l i).mem hu))))
theorem pop_ord {l : List (Tr α)} (h : OrdL key l) : OrdL key (pop key l) := popAt_ord h _

/-! ### Least and pop -/
theorem min_none {l : List (Tr α)} : minT key l = none ↔ l = [] := by
  constructor
  · intro h
    cases l with
    | nil => rfl
    | cons t ts =>
      obtain ⟨u, hu, _⟩ := least_le (key := key) (l := t :: ts) (by simp)
      simp [minT, hu] at h
  · rintro rfl; rfl
theorem min_some {l : List (Tr α)} (ho : OrdL key l) {x : α} (h : minT key l = some x) :
    (x :: allL (pop key l)).Perm (allL l) ∧ ∀ y ∈ allL l, le (key x) (key y) := by
  have hne : l ≠ [] := by rintro rfl; simp [minT] at h
  obtain ⟨t, ht, hle⟩ := least_le (key := key) hne
  have hx : t.root = x := by simpa [minT, ht] using h
  subst hx
  refine ⟨popAt_all ht, fun y hy => ?_⟩
  obtain ⟨u, hu, hyu⟩ := mem_allL.1 hy
  exact le_trans (hle u hu) ((ho u hu).le y hyu)
theorem allL_eq_nil {l : List (Tr α)} : allL l = [] ↔ l = [] := by
  cases l with
  | nil => simp [allL_nil]
  | cons t ts => simp [allL_cons, all_eq]
theorem pop_nil : pop key ([] : List (Tr α)) = [] := by simp [pop, popP, popAt]
end

/-! ### Heaps that are drained: a heap by what it holds -/
/-- n times the least one. -/
def drain {H : Type} (mn : H → Option E) (pp : H → H) : Nat → H → List E
  | 0, _ => []
  | n + 1, h => match mn h with
    | none => []
    | some x => x :: drain mn pp n (pp h)

structure Laws (H : Type) (ok : H → Prop) (el : H → List E) (mn : H → Option E) (pp : H → H) : Prop where
  none : ∀ h, ok h → mn h = none → el h = []
  some : ∀ h x, ok h → mn h = some x → (x :: el (pp h)).Perm (el h) ∧ ∀ y ∈ el h, le x y
  ok : ∀ h, ok h → ok (pp h)

theorem Laws.drain {H : Type} {ok : H → Prop} {el : H → List E} {mn : H → Option E} {pp : H → H} (L : Laws H ok el mn pp) :
    ∀ n h, ok h → (el h).length ≤ n → Slag.drain mn pp n h = srt (el h) := by
  intro n
  induction n with
  | zero =>
    intro h _ hl
    have : el h = [] := List.eq_nil_of_length_eq_zero (by omega)
    rw [this]; rfl
  | succ n ih =>
    intro h ho hl
    unfold Slag.drain
    cases hm : mn h with
    | none => simp only []; rw [L.none h ho hm]; rfl
    | some x =>
      simp only []
      obtain ⟨hp, hle⟩ := L.some h x ho hm
      have hlen := hp.length_eq
      rw [ih (pp h) (L.ok h ho) (by simp at hlen; omega), ← srt_congr hp]
      exact (srt_cons_least fun y hy => hle y (hp.mem_iff.1 (List.mem_cons_of_mem _ hy))).symm

/-! ### The skew heap of elements -/
abbrev SH := List (Tr E)
def SH.ins (h : SH) (x : E) : SH := insert id h x
def SH.of (l : List E) : SH := l.foldl SH.ins []
theorem skewLaws : Laws SH (OrdL id) allL (minT id) (pop id) where
  none h _ hm := by rw [min_none.1 hm, allL_nil]
  some h x ho hm := min_some ho hm
  ok h ho := pop_ord ho
theorem of_go (l : List E) : ∀ h : SH, OrdL id h → OrdL id (l.foldl SH.ins h) ∧ (allL (l.foldl SH.ins h)).Perm (allL h ++ l) := by
  induction l with
  | nil => intro h ho; simp [ho]
  | cons x l ih =>
    intro h ho
    obtain ⟨h1, h2⟩ := ih (SH.ins h x) (insert_ord ho)
    refine ⟨h1, h2.trans ?_⟩
    exact ((insert_all h x).append_right l).trans List.perm_middle.symm
theorem of_ord (l : List E) : OrdL id (SH.of l) := (of_go l [] (by intro t ht; cases ht)).1
theorem of_all (l : List E) : (allL (SH.of l)).Perm l := by simpa [allL_nil, SH.of] using (of_go l [] (by intro t ht; cases ht)).2
end Slag
