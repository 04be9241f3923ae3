import Derived.Test.YtjglbgienopocaaDoorS1
import Derived.Test.YtjglbgienopocaaDoorW28
/- The heap as the laws know it: what it holds, and its contracts. -/
namespace Go.Proofs.YtjglbgienopocaaDoor
open Go Go.Proofs Go.RowKit Slag

abbrev HP := List (Tr E)
def HAt (X : Nat → Prop) (w : World) (H : HP) (q : Option Addr) : Prop := HeapAt X w H (.agg #[.pointer q])
theorem HAt.ext {X : Nat → Prop} {w w' : World} {H : HP} {q : Option Addr} (h : HAt X w H q) (hx : Ext X w w') : HAt X w' H q := HeapAt.ext h hx
theorem HAt.weak {X Y : Nat → Prop} {w : World} {H : HP} {q : Option Addr} (h : HAt X w H q) (hX : ∀ b, Y b → b < w.heap.size → X b) : HAt Y w H q := HeapAt.weak h hX
def hnil : HP := []
theorem HAt.nil (X : Nat → Prop) (w : World) : HAt X w hnil none := HeapAt.nil X w
def hels (H : HP) : List E := Tr.allL H
def hcnt (H : HP) : Nat := (hels H).length
def hemp (H : HP) : Bool := H.isEmpty
def hmin (H : HP) : E := minE H
def hpop (H : HP) : HP := pop id H
def hins (H : HP) (x : E) : HP := SH.ins H x
def hmeld (H K : HP) : HP := meld id H K
def hof (l : List E) : HP := SH.of l
def hok (H : HP) : Prop := OrdL id H
def hinsN (H : HP) (_ : E) : Nat := insertN H
def hmeldN (H K : HP) : Nat := meldN id H K
def hpopN (H : HP) : Nat := popN id H
def hminN (H : HP) : Nat := H.length - 1
def hofN (l : List E) : Nat := (insAll id ([], 0) l).2
def htext (H : HP) : List UInt8 := hText H
theorem minT_eq (H : HP) : minT id H = if hemp H then none else some (hmin H) := by
  cases H with
  | nil => rfl
  | cons t ts =>
    show minT id (t :: ts) = some (minE (t :: ts))
    unfold minE minT
    rw [List.getElem?_eq_getElem (least_lt (by simp))]; rfl
theorem hlaws : Laws HP hok hels (fun H => if hemp H then none else some (hmin H)) hpop := by
  have h := skewLaws
  rw [show minT id = (fun H : HP => if hemp H then none else some (hmin H)) from funext minT_eq] at h
  exact h
theorem hok_nil : hok hnil := by intro t ht; cases ht
theorem hels_nil : hels hnil = [] := Tr.allL_nil
theorem hok_of (l : List E) : hok (hof l) := of_ord l
theorem hels_of (l : List E) : (hels (hof l)).Perm l := of_all l
theorem hok_ins {H : HP} {x : E} (h : hok H) : hok (hins H x) := insert_ord h
theorem hels_ins (H : HP) (x : E) : (hels (hins H x)).Perm (x :: hels H) := insert_all H x
theorem hok_meld {H K : HP} (h : hok H) (k : hok K) : hok (hmeld H K) := meld_ord h k
theorem hels_meld (H K : HP) : (hels (hmeld H K)).Perm (hels H ++ hels K) := meld_all H K
theorem hemp_iff (H : HP) : hemp H = true ↔ hels H = [] := by unfold hemp hels; rw [List.isEmpty_iff, Slag.allL_eq_nil]
theorem hpop_emp {H : HP} (h : hemp H = true) : hpop H = H := by
  have : H = [] := by simpa [hemp] using h
  subst this; rfl
theorem hmin_emp {H : HP} (h : hemp H = true) : hmin H = (0, 0) := by
  have : H = [] := by simpa [hemp] using h
  subst this; rfl
theorem hcnt_eq (H : HP) : hcnt H = Tr.sizeL H := rfl
theorem hof_any (X : Nat → Prop) (m : Option Nat) (n : Int) (l : List E) (v : Value) (w : World) (hm : Mt X w m n) (hv : RowAt X 31 2 w l.length (eCells l) v) (hn : l.length ≤ 1099511627776) :
    Calls Tryd.prog 6 #[mval m, v] w fun e w' => ∃ q, e = .returned (.agg #[.pointer q]) ∧ w.grownBy w' m ∧ Mt X w' m (n + (hofN l : Nat)) ∧ HAt X w' (hof l) q :=
  (sof_any X m n l v w hm hv hn).mono fun _ _ ⟨_, h1, h2, h3, h4⟩ => by obtain ⟨q, _, rfl, _⟩ := id h4; exact ⟨q, h1, h2, h3, h4⟩
theorem hins_any (X : Nat → Prop) (m : Option Nat) (n : Int) (H : HP) (q : Option Addr) (x : E) (w : World) (hm : Mt X w m n) (hh : HAt X w H q) (hn : hcnt H + 1 ≤ 1099511627776) :
    Calls Tryd.prog 10 #[.agg #[.pointer q], mval m, elV x] w fun e w' => ∃ q', e = .returned (.agg #[.pointer q']) ∧ w.grownBy w' m ∧ Mt X w' m (n + (hinsN H x : Nat)) ∧ HAt X w' (hins H x) q' :=
  (sins_any X m n H _ x w hm hh hn).mono fun _ _ ⟨_, h1, h2, h3, h4⟩ => by obtain ⟨q, _, rfl, _⟩ := id h4; exact ⟨q, h1, h2, h3, h4⟩
theorem hmeld_any (X : Nat → Prop) (m : Option Nat) (n : Int) (H K : HP) (q r : Option Addr) (w : World) (hm : Mt X w m n) (hh : HAt X w H q) (hk : HAt X w K r) (hn : hcnt H + hcnt K ≤ 1099511627776) :
    Calls Tryd.prog 14 #[.agg #[.pointer q], mval m, .agg #[.pointer r]] w fun e w' => ∃ q', e = .returned (.agg #[.pointer q']) ∧ w.grownBy w' m ∧ Mt X w' m (n + (hmeldN H K : Nat)) ∧ HAt X w' (hmeld H K) q' :=
  (smeld_any X m n H K _ _ w hm hh hk hn).mono fun _ _ ⟨_, h1, h2, h3, h4⟩ => by obtain ⟨q, _, rfl, _⟩ := id h4; exact ⟨q, h1, h2, h3, h4⟩
theorem hmin_any (X : Nat → Prop) (m : Option Nat) (n : Int) (H : HP) (q : Option Addr) (w : World) (hm : Mt X w m n) (hh : HAt X w H q) (hn : hcnt H ≤ 1099511627776) :
    Calls Tryd.prog 7 #[.agg #[.pointer q], mval m] w fun e w' => e = .returned (.tuple #[elV (hmin H), .bool (!hemp H)]) ∧ w.grownBy w' m ∧ Mt X w' m (n + (hminN H : Nat)) :=
  smin_any X m n H _ w hm hh hn
theorem hpop_any (X : Nat → Prop) (m : Option Nat) (n : Int) (H : HP) (q : Option Addr) (w : World) (hm : Mt X w m n) (hh : HAt X w H q) (hn : hcnt H ≤ 1099511627776) :
    Calls Tryd.prog 8 #[.agg #[.pointer q], mval m] w fun e w' => ∃ q', e = .returned (.tuple #[.agg #[.pointer q'], .bool (!hemp H)]) ∧ w.grownBy w' m ∧ Mt X w' m (n + (hpopN H : Nat)) ∧ HAt X w' (hpop H) q' :=
  (spop_any X m n H _ w hm hh hn).mono fun _ _ ⟨_, h1, h2, h3, h4⟩ => by obtain ⟨q, _, rfl, _⟩ := id h4; exact ⟨q, h1, h2, h3, h4⟩
theorem hsize_any (X : Nat → Prop) (H : HP) (q : Option Addr) (w : World) (hX : ∀ b, X b → b < w.heap.size) (hh : HAt X w H q) (hn : hcnt H ≤ 1099511627776) :
    Calls Tryd.prog 9 #[.agg #[.pointer q]] w fun e w' => e = .returned (.int .i64 (hcnt H : Nat)) ∧ w.grownBy w' none :=
  ssize_any X H _ w hX hh hn
theorem hshow_any (H : HP) (q : Option Addr) (w : World) (hh : HAt (fun _ => False) w H q) (hn : hcnt H ≤ 1099511627776) (hok : ∀ x ∈ hels H, ElOk w x) :
    Calls Tryd.prog 19 #[.agg #[.pointer q]] w fun e w' => e = .returned (strV (htext H)) ∧ w.grownBy w' none :=
  sshow_any H _ w hh hn hok
/-! ### the document's example -/
def hAw : List (Tr E) := [.mk 1 (1, 0) [(3, 0)] [.mk 0 (2, 0) [] []]]
theorem aw_of : hof lAw = hAw := by
  simp [lAw, hof, SH.of, SH.ins, Slag.insert, leaf, skewT, link, less, hAw, Tr.rank, Tr.root, Tr.kids, Tr.bes]
theorem aw_steps : hofN lAw = 6 := by
  simp [lAw, hofN, insAll, Slag.insert, insertN, leaf, Tr.rank]
theorem itoa0 : Lib.itoa 0 = [48] := by simp [Lib.itoa, Lib.decDigits]
theorem itoa1 : Lib.itoa 1 = [49] := by simp [Lib.itoa, Lib.decDigits]
theorem itoa2 : Lib.itoa 2 = [50] := by simp [Lib.itoa, Lib.decDigits]
theorem itoa3 : Lib.itoa 3 = [51] := by simp [Lib.itoa, Lib.decDigits]
theorem aw_text : htext (hof lAw) = [40, 49, 58, 48, 32, 43, 51, 58, 48, 32, 40, 50, 58, 48, 41, 41] := by
  rw [aw_of]
  simp [htext, hText, hAw, Lib.join_one, tText, kText, eText, itoa0, itoa1, itoa2, itoa3]
end Go.Proofs.YtjglbgienopocaaDoor
