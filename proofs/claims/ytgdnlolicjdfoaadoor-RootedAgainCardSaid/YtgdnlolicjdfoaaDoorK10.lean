import Derived.Test.YtgdnlolicjdfoaaDoorWR2
/- The heap as the laws know it: what it holds, and its contracts. -/
namespace Go.Proofs.YtgdnlolicjdfoaaDoor
open Go Go.Proofs Go.RowKit Slag

abbrev HP := RH
def HAt (X : Nat → Prop) (w : World) (H : HP) (q : Option Addr) : Prop := RootAt X w H q
theorem HAt.ext {X : Nat → Prop} {w w' : World} {H : HP} {q : Option Addr} (h : HAt X w H q) (hx : Ext X w w') : HAt X w' H q := RootAt.ext hx h
theorem HAt.weak {X Y : Nat → Prop} {w : World} {H : HP} {q : Option Addr} (h : HAt X w H q) (hX : ∀ b, Y b → b < w.heap.size → X b) : HAt Y w H q := RootAt.weak hX h
def hnil : HP := none
theorem HAt.nil (X : Nat → Prop) (w : World) : HAt X w hnil none := rfl
def hels (H : HP) : List E := RH.els H
def hcnt (H : HP) : Nat := (hels H).length
def hemp (H : HP) : Bool := H.isNone
def hmin (H : HP) : E := RH.min H
def hpop (H : HP) : HP := RH.pop H
def hins (H : HP) (x : E) : HP := RH.ins H x
def hmeld (H K : HP) : HP := RH.meld H K
def hof (l : List E) : HP := RH.of l
def hok (H : HP) : Prop := RH.ok H
def hinsN (H : HP) (_ : E) : Nat := RH.insN H
def hmeldN (H K : HP) : Nat := RH.meldN H K
def hpopN (H : HP) : Nat := RH.popN H
def hminN (_ : HP) : Nat := 0
def hofN (l : List E) : Nat := (RH.insAll (none, 0) l).2
def htext (H : HP) : List UInt8 := rText H
theorem hlaws : Laws HP hok hels (fun H => if hemp H then none else some (hmin H)) hpop := RH.laws
theorem hok_nil : hok hnil := trivial
theorem hels_nil : hels hnil = [] := rfl
theorem hok_of (l : List E) : hok (hof l) := RH.of_ok l
theorem hels_of (l : List E) : (hels (hof l)).Perm l := RH.of_els l
theorem hok_ins {H : HP} {x : E} (h : hok H) : hok (hins H x) := RH.ins_ok h
theorem hels_ins (H : HP) (x : E) : (hels (hins H x)).Perm (x :: hels H) := RH.ins_els H x
theorem hok_meld {H K : HP} (h : hok H) (k : hok K) : hok (hmeld H K) := RH.meld_ok h k
theorem hels_meld (H K : HP) : (hels (hmeld H K)).Perm (hels H ++ hels K) := RH.meld_els H K
theorem hemp_iff (H : HP) : hemp H = true ↔ hels H = [] := by
  cases H with
  | none => simp [hemp, hels, RH.els]
  | some p => obtain ⟨x, l⟩ := p; simp [hemp, hels, RH.els]
theorem hpop_emp {H : HP} (h : hemp H = true) : hpop H = H := by
  cases H with
  | none => rfl
  | some p => simp [hemp] at h
theorem hmin_emp {H : HP} (h : hemp H = true) : hmin H = (0, 0) := by
  cases H with
  | none => rfl
  | some p => simp [hemp] at h
theorem hof_any (X : Nat → Prop) (m : Option Nat) (n : Int) (l : List E) (v : Value) (w : World) (hm : Mt X w m n) (hv : RowAt X 24 2 w l.length (eCells l) v) (hn : l.length ≤ 1099511627776) :
    Calls Tryd.prog 14 #[mval m, v] w fun e w' => ∃ q, e = .returned (.agg #[.pointer q]) ∧ w.grownBy w' m ∧ Mt X w' m (n + (hofN l : Nat)) ∧ HAt X w' (hof l) q := rof_any X m n l v w hm hv hn
theorem hins_any (X : Nat → Prop) (m : Option Nat) (n : Int) (H : HP) (q : Option Addr) (x : E) (w : World) (hm : Mt X w m n) (hh : HAt X w H q) (hn : hcnt H + 1 ≤ 1099511627776) :
    Calls Tryd.prog 17 #[.agg #[.pointer q], mval m, elV x] w fun e w' => ∃ q', e = .returned (.agg #[.pointer q']) ∧ w.grownBy w' m ∧ Mt X w' m (n + (hinsN H x : Nat)) ∧ HAt X w' (hins H x) q' := rins_any X m n H q x w hm hh hn
theorem hmeld_any (X : Nat → Prop) (m : Option Nat) (n : Int) (H K : HP) (q r : Option Addr) (w : World) (hm : Mt X w m n) (hh : HAt X w H q) (hk : HAt X w K r) (hn : hcnt H + hcnt K ≤ 1099511627776) :
    Calls Tryd.prog 26 #[.agg #[.pointer q], mval m, .agg #[.pointer r]] w fun e w' => ∃ q', e = .returned (.agg #[.pointer q']) ∧ w.grownBy w' m ∧ Mt X w' m (n + (hmeldN H K : Nat)) ∧ HAt X w' (hmeld H K) q' := rmeld_any X m n H K q r w hm hh hk hn
theorem hmin_any (X : Nat → Prop) (m : Option Nat) (n : Int) (H : HP) (q : Option Addr) (w : World) (hm : Mt X w m n) (hh : HAt X w H q) (_hn : hcnt H ≤ 1099511627776) :
    Calls Tryd.prog 16 #[.agg #[.pointer q], mval m] w fun e w' => e = .returned (.tuple #[elV (hmin H), .bool (!hemp H)]) ∧ w.grownBy w' m ∧ Mt X w' m (n + (hminN H : Nat)) := by
  rw [show n + ((hminN H : Nat) : Int) = n from by simp [hminN]]; exact rmin_any X m n H q w hm hh
theorem hpop_any (X : Nat → Prop) (m : Option Nat) (n : Int) (H : HP) (q : Option Addr) (w : World) (hm : Mt X w m n) (hh : HAt X w H q) (hn : hcnt H ≤ 1099511627776) :
    Calls Tryd.prog 15 #[.agg #[.pointer q], mval m] w fun e w' => ∃ q', e = .returned (.tuple #[.agg #[.pointer q'], .bool (!hemp H)]) ∧ w.grownBy w' m ∧ Mt X w' m (n + (hpopN H : Nat)) ∧ HAt X w' (hpop H) q' := rpop_any X m n H q w hm hh hn
theorem hsize_any (X : Nat → Prop) (H : HP) (q : Option Addr) (w : World) (hX : ∀ b, X b → b < w.heap.size) (hh : HAt X w H q) (hn : hcnt H ≤ 1099511627776) :
    Calls Tryd.prog 19 #[.agg #[.pointer q]] w fun e w' => e = .returned (.int .i64 (hcnt H : Nat)) ∧ w.grownBy w' none := rsize_any X H q w hX hh hn
theorem hshow_any (H : HP) (q : Option Addr) (w : World) (hh : HAt (fun _ => False) w H q) (hn : hcnt H ≤ 1099511627776) (hok : ∀ x ∈ hels H, ElOk w x) :
    Calls Tryd.prog 30 #[.agg #[.pointer q]] w fun e w' => e = .returned (strV (htext H)) ∧ w.grownBy w' none := rshow_any H q w hh hn hok
/-! ### the document's example -/
def hAw : RH := some ((1, 0), [.mk 0 (3, 0) [] [], .mk 0 (2, 0) [] []])
theorem aw_of : hof lAw = hAw := by
  simp [lAw, hof, RH.of, RH.ins, Slag.insert, leaf, less, hAw]
theorem aw_steps : hofN lAw = 7 := by
  simp [lAw, hofN, RH.insAll, RH.ins, RH.insN, Slag.insert, insertN, leaf, less]
theorem itoa0 : Lib.itoa 0 = [48] := by simp [Lib.itoa, Lib.decDigits]
theorem itoa1 : Lib.itoa 1 = [49] := by simp [Lib.itoa, Lib.decDigits]
theorem itoa2 : Lib.itoa 2 = [50] := by simp [Lib.itoa, Lib.decDigits]
theorem itoa3 : Lib.itoa 3 = [51] := by simp [Lib.itoa, Lib.decDigits]
theorem aw_text : htext (hof lAw) = [49, 58, 48, 32, 40, 51, 58, 48, 41, 32, 40, 50, 58, 48, 41] := by
  rw [aw_of]
  simp [htext, rText, hText, hAw, Lib.join_cons, Lib.joinTail, tText, kText, eText, itoa0, itoa1, itoa2, itoa3]
end Go.Proofs.YtgdnlolicjdfoaaDoor
