import Derived.Test.YtgdnlolicjdfoaaDoorS2
import Derived.Test.YtgdnlolicjdfoaaDoorW28
import Derived.Test.YtgdnlolicjdfoaaDoorPR
/- Rooted heaps. -/
namespace Go.Proofs.YtgdnlolicjdfoaaDoor
open Go Go.Proofs Go.RowKit Slag

/-- The others, as data. -/
def dS (l : SH) (q : Option Addr) : Dat where
  P X w := HeapAt X w l (.agg #[.pointer q])
  ext h hx := HeapAt.ext h hx
  weak h hX := HeapAt.weak h hX
def RootAt (X : Nat → Prop) (w : World) : RH → Option Addr → Prop
  | none, q => q = none
  | some (x, l), q => ∃ b p, q = some ⟨b, 0, none⟩ ∧ ¬ X b ∧ w.heap[b]? = some (.cells #[.pointer p, .int .i64 x.1, .int .i64 x.2] 66 (0, 0)) ∧ HeapAt X w l (.agg #[.pointer p])
theorem RootAt.ext {X : Nat → Prop} {w w' : World} (hx : Ext X w w') : ∀ {h : RH} {q : Option Addr}, RootAt X w h q → RootAt X w' h q
  | none, _, h => h
  | some _, _, ⟨b, p, h1, h2, h3, h4⟩ => ⟨b, p, h1, h2, hx.block _ _ _ _ h2 h3, h4.ext hx⟩
theorem RootAt.weak {X Y : Nat → Prop} {w : World} (hX : ∀ b, Y b → b < w.heap.size → X b) : ∀ {h : RH} {q : Option Addr}, RootAt X w h q → RootAt Y w h q
  | none, _, h => h
  | some _, _, ⟨b, p, h1, h2, h3, h4⟩ => ⟨b, p, h1, fun hy => h2 (hX _ hy (lt_of_heap h3)), h3, h4.weak hX⟩
def dRt (h : RH) (q : Option Addr) : Dat where
  P X w := RootAt X w h q
  ext h hx := RootAt.ext hx h
  weak h hX := RootAt.weak hX h
/-- A node. -/
def dN (b : Nat) (p : Option Addr) (x : E) : Dat where
  P X w := ¬ X b ∧ w.heap[b]? = some (.cells #[.pointer p, .int .i64 x.1, .int .i64 x.2] 66 (0, 0))
  ext h hx := ⟨h.1, hx.block _ _ _ _ h.1 h.2⟩
  weak h hX := ⟨fun hy => h.1 (hX _ hy (lt_of_heap h.2)), h.2⟩
set_option maxRecDepth 100000 in
set_option maxHeartbeats 2000000 in
theorem rmade_any (X : Nat → Prop) (m : Option Nat) (n : Int) (x : E) (l : SH) (q : Option Addr) (w : World) (hm : Mt X w m n) (hl : HeapAt X w l (.agg #[.pointer q])) :
    Calls Tryd.prog 33 #[mval m, elV x, .agg #[.pointer q]] w fun e w' => ∃ q', e = .returned (.agg #[.pointer q']) ∧ w.grownBy w' m ∧ Mt X w' m (n + 1) ∧ RootAt X w' (some (x, l)) q' := by
  have S0 := Lib.hid ((((SX.nil hm).add (dS l q) (HeapAt.weak hl fun b hb _ => by rcases hb with hb | ⟨s, h, _⟩; exact hb; cases h)).alloc #[.int .i64 x.1, .int .i64 x.2] 24 |>.alloc #[.pointer q] 64).alloc #[.pointer none] 28)
  simp only [World.size_alloc] at S0
  clear hm hl
  unfold elV
  go_enter Tryd.func33, Tryd.ntmps33
  go_wp2_with fail
  refine (mmade_any m n _ S0.out.mt).mono ?_
  rintro e w1 ⟨rfl, hg1, hm1⟩
  have S1 := Lib.hid (S0.out.mcall hg1 hm1)
  have c1 := cell_of (S1.out.box (A := [_])) 0 (v := .pointer q) rfl
  have c2 := cell_of (S1.out.box (A := [_, _])) 0 (v := .int .i64 x.1) rfl
  have c3 := cell_of (S1.out.box (A := [_, _])) 1 (v := .int .i64 x.2) rfl
  have S1a := Lib.hid (S1.out.alloc #[.pointer q, .int .i64 x.1, .int .i64 x.2] 66)
  have c4 := cell_of (S1a.out.box (A := [_])) 0 (v := .pointer none) rfl
  have c5 := frozen_of (S1a.out.box (A := [_])) 0
  have S2 := Lib.hid (S1a.out.set (A := [_]) 0 (.pointer (some ⟨w1.heap.size, 0, none⟩)))
  have hr := cell_of (S2.out.box (A := [_])) 0 (v := .pointer (some ⟨w1.heap.size, 0, none⟩)) rfl
  clear hg1 hm1
  go_wp2
  refine bodyPost_ret (v := .agg #[.pointer (some ⟨w1.heap.size, 0, none⟩)]) (by simp [results, Tryd.results33, go_sem, hr]) rfl ?_
  obtain ⟨R1, R2, R3⟩ := S2.out.release
  exact ⟨_, rfl, R1.fin.1, R1.fin.2, w1.heap.size, q, rfl, fun h => R2 (.inl h), R3, HeapAt.weak R1.d1 (fun _ hb _ => .inl hb)⟩
theorem keep6' {w : World} {S b : Nat} {v u1 u2 u3 u4 u5 u6 : Value} {g : Prop} (hb : S + 1 + 1 ≠ b) (h : w.cell? ⟨S, 0, none⟩ = some u1 ∧ w.cell? ⟨S + 1 + 1 + 1, 0, none⟩ = some u2 ∧ w.cell? ⟨S + 1 + 1 + 1, 1, none⟩ = some u3 ∧ w.cell? ⟨S + 1, 0, none⟩ = some u4 ∧ w.cell? ⟨S + 1, 1, none⟩ = some u5 ∧ w.cell? ⟨b, 0, none⟩ = some u6 ∧ g) :
    (w.setCell ⟨S + 1 + 1, 0, none⟩ v).cell? ⟨S, 0, none⟩ = some u1 ∧ (w.setCell ⟨S + 1 + 1, 0, none⟩ v).cell? ⟨S + 1 + 1 + 1, 0, none⟩ = some u2 ∧ (w.setCell ⟨S + 1 + 1, 0, none⟩ v).cell? ⟨S + 1 + 1 + 1, 1, none⟩ = some u3 ∧
      (w.setCell ⟨S + 1 + 1, 0, none⟩ v).cell? ⟨S + 1, 0, none⟩ = some u4 ∧ (w.setCell ⟨S + 1 + 1, 0, none⟩ v).cell? ⟨S + 1, 1, none⟩ = some u5 ∧ (w.setCell ⟨S + 1 + 1, 0, none⟩ v).cell? ⟨b, 0, none⟩ = some u6 :=
  ⟨cell_set_ne v h.1 (by simp; omega), cell_set_ne v h.2.1 (by simp), cell_set_ne v h.2.2.1 (by simp), cell_set_ne v h.2.2.2.1 (by simp), cell_set_ne v h.2.2.2.2.1 (by simp), cell_set_ne v h.2.2.2.2.2.1 (by simpa using hb)⟩
theorem keep6 {a b c d e f g : Prop} (h : a ∧ b ∧ c ∧ d ∧ e ∧ f ∧ g) : a ∧ b ∧ c ∧ d ∧ e ∧ f := ⟨h.1, h.2.1, h.2.2.1, h.2.2.2.1, h.2.2.2.2.1, h.2.2.2.2.2.1⟩
set_option maxRecDepth 100000 in
set_option maxHeartbeats 2000000 in
theorem rins_any (X : Nat → Prop) (m : Option Nat) (n : Int) (h : RH) (q : Option Addr) (x : E) (w : World) (hm : Mt X w m n) (hh : RootAt X w h q) (hn : (RH.els h).length + 1 ≤ 1099511627776) :
    Calls Tryd.prog 17 #[.agg #[.pointer q], mval m, elV x] w fun e w' => ∃ q', e = .returned (.agg #[.pointer q']) ∧ w.grownBy w' m ∧ Mt X w' m (n + (RH.insN h : Nat)) ∧ RootAt X w' (RH.ins h x) q' := by
  have S0 := Lib.hid ((((SX.nil hm).add (dRt h q) (RootAt.weak (fun b hb _ => by rcases hb with hb | ⟨s, h, _⟩; exact hb; cases h) hh)).alloc #[.pointer q] 28 |>.alloc #[.int .i64 x.1, .int .i64 x.2] 24).alloc #[.pointer none] 28)
  simp only [World.size_alloc] at S0
  clear hm
  cases h with
  | none =>
    obtain rfl : q = none := hh
    unfold elV
    go_enter Tryd.func17, Tryd.ntmps17
    go_wp2_with fail
    refine (rmade_any _ m n x [] none _ S0.out.Mt (HeapAt.nil _ _)).mono ?_
    rintro e w1 ⟨q1, rfl, hg1, hm1, hr1⟩
    have S1 := Lib.hid ((S0.out.mcall hg1 hm1.at_).add (dRt (some (x, [])) q1) hr1)
    have S2 := Lib.hid (S1.out.set (A := []) 0 (.pointer q1))
    have c4 := cell_of (S1.out.box (A := [])) 0 (v := .pointer none) rfl
    have c5 := frozen_of (S1.out.box (A := [])) 0
    have hr := cell_of (S2.out.box (A := [])) 0 (v := .pointer q1) rfl
    clear hg1 hm1 hr1
    go_wp2
    refine bodyPost_ret (v := .agg #[.pointer q1]) (by simp [results, Tryd.results17, go_sem, hr]) rfl ?_
    exact ⟨_, rfl, S2.out.fin.1, S2.out.fin.2, S2.out.dout⟩
  | some p =>
    obtain ⟨r, l⟩ := p
    obtain ⟨b, q2, rfl, hX, hb, hhl⟩ := id (show RootAt (XO X _) _ (some (r, l)) q from S0.out.d1)
    have r1 := cell_of hb 0 (v := .pointer q2) rfl
    have r2 := cell_of hb 1 (v := .int .i64 r.1) rfl
    have r3 := cell_of hb 2 (v := .int .i64 r.2) rfl
    have S1 := Lib.hid (((S0.out.dsub (D' := []) (by simp)).add (dN b q2 r) ⟨hX, hb⟩).add (dS l q2) hhl |>.alloc #[.int .i64 r.1, .int .i64 r.2] 24)
    simp only [World.size_alloc] at S1
    have hnl : Tr.sizeL l + 2 ≤ 1099511627776 := by simp [RH.els] at hn; simp only [Tr.sizeL]; omega
    have HNL := Lib.hid hnl
    have HR := Lib.hid (RH.ins_some r x l)
    have hml := fun w hm => mless_any m n x r w hm
    unfold elV at hml
    have HML := Lib.hid hml
    clear hb hhl hX hh hn hnl hml S0
    unfold elV
    go_enter Tryd.func17, Tryd.ntmps17
    go_wp2_with fail
    refine (HML.out _ S1.out.mt).mono ?_
    rintro e w1 ⟨rfl, hg1, hm1⟩
    have S2 := Lib.hid (S1.out.mcall hg1 hm1)
    have c1 := cell_of (S2.out.box (A := [])) 0 (v := .int .i64 r.1) rfl
    have c2 := cell_of (S2.out.box (A := [])) 1 (v := .int .i64 r.2) rfl
    have c3 := cell_of (S2.out.box (A := [_, _])) 0 (v := .int .i64 x.1) rfl
    have c4 := cell_of (S2.out.box (A := [_, _])) 1 (v := .int .i64 x.2) rfl
    have f1 := frozen_of (S2.out.box (A := [])) 0
    have f2 := frozen_of (S2.out.box (A := [])) 1
    have f3 := frozen_of (S2.out.box (A := [_, _])) 0
    have f4 := frozen_of (S2.out.box (A := [_, _])) 1
    clear hg1 hm1 r1 r2 r3
    generalize hls : less x r = ls at *
    have HLS := Lib.hid hls
    clear hls
    cases ls with
    | true =>
      go_wp2_with fail
      have S3 : Hid (SX X m (n + 1) w [.box (w.heap.size + 1 + 1 + 1) #[.int .i64 x.1, .int .i64 x.2] 24, .box (w.heap.size + 1 + 1) #[.pointer none] 28, .box (w.heap.size + 1) #[.int .i64 r.1, .int .i64 r.2] 24, .box w.heap.size #[.pointer (some ⟨b, 0, none⟩)] 28] [dS l q2, dN b q2 r] ((((w1.setCell ⟨w.heap.size + 1 + 1 + 1, 0, none⟩ (.int .i64 x.1)).setCell ⟨w.heap.size + 1 + 1 + 1, 1, none⟩ (.int .i64 x.2)).setCell ⟨w.heap.size + 1, 0, none⟩ (.int .i64 r.1)).setCell ⟨w.heap.size + 1, 1, none⟩ (.int .i64 r.2))) := Lib.hid ((((S2.out.set (A := []) 0 (.int .i64 x.1)).set (A := []) 1 (.int .i64 x.2)).set (A := [_, _]) 0 (.int .i64 r.1)).set (A := [_, _]) 1 (.int .i64 r.2))
      clear c1 c2 c3 c4 f1 f2 f3 f4
      generalize ((((w1.setCell ⟨w.heap.size + 1 + 1 + 1, 0, none⟩ (.int .i64 x.1)).setCell ⟨w.heap.size + 1 + 1 + 1, 1, none⟩ (.int .i64 x.2)).setCell ⟨w.heap.size + 1, 0, none⟩ (.int .i64 r.1)).setCell ⟨w.heap.size + 1, 1, none⟩ (.int .i64 r.2)) = w3 at *
      have HS := Lib.hid (fun (W : World) (hg : w3.grownBy W m) => (⟨cell_of (S3.out.later (A := [_, _, _]) hg) 0 rfl, cell_of (S3.out.later (A := []) hg) 0 rfl, cell_of (S3.out.later (A := []) hg) 1 rfl, cell_of (S3.out.later (A := [_, _]) hg) 0 rfl, cell_of (S3.out.later (A := [_, _]) hg) 1 rfl, cell_of ((dN b q2 r).ext S3.out.d2 (S3.out.ext hg)).2 0 rfl, cell_of (S3.out.later (A := [_]) hg) 0 rfl, frozen_of (S3.out.later (A := [_]) hg) 0⟩ :
        W.cell? ⟨w.heap.size, 0, none⟩ = some (.pointer (some ⟨b, 0, none⟩)) ∧ W.cell? ⟨w.heap.size + 1 + 1 + 1, 0, none⟩ = some (.int .i64 x.1) ∧ W.cell? ⟨w.heap.size + 1 + 1 + 1, 1, none⟩ = some (.int .i64 x.2) ∧
        W.cell? ⟨w.heap.size + 1, 0, none⟩ = some (.int .i64 r.1) ∧ W.cell? ⟨w.heap.size + 1, 1, none⟩ = some (.int .i64 r.2) ∧ W.cell? ⟨b, 0, none⟩ = some (.pointer q2) ∧ W.cell? ⟨w.heap.size + 1 + 1, 0, none⟩ = some (.pointer none) ∧ W.frozen? ⟨w.heap.size + 1 + 1, 0, none⟩ = false))
      have hS0 := HS.out w3 (grown_refl _ _)
      have HBN := Lib.hid (show w.heap.size + 1 + 1 ≠ b from fun e => S3.out.d2.1 (.inr ⟨.box (w.heap.size + 1 + 1) #[.pointer none] 28, by simp, by rw [← e]; rfl⟩))
      have hsins := fun Y W hM hH => sins_any Y m (n + 1) l (.agg #[.pointer q2]) r W hM hH (by have := HNL.out; omega)
      unfold elV at hsins
      have HSI := Lib.hid hsins
      have hrm := fun Y n' (l' : SH) q' W hM hH => rmade_any Y m n' x l' q' W hM hH
      unfold elV at hrm
      have HRM := Lib.hid hrm
      clear hsins hrm
      go_region_held3 (fun W => W.cell? ⟨w.heap.size, 0, none⟩ = some (.pointer (some ⟨b, 0, none⟩)) ∧ W.cell? ⟨w.heap.size + 1 + 1 + 1, 0, none⟩ = some (.int .i64 x.1) ∧ W.cell? ⟨w.heap.size + 1 + 1 + 1, 1, none⟩ = some (.int .i64 x.2) ∧
        W.cell? ⟨w.heap.size + 1, 0, none⟩ = some (.int .i64 r.1) ∧ W.cell? ⟨w.heap.size + 1, 1, none⟩ = some (.int .i64 r.2) ∧ W.cell? ⟨b, 0, none⟩ = some (.pointer q2))
        (first | exact keep6 (HS.out _ hh5) | exact keep6 (HS.out _ hh4) | exact keep6 (HS.out _ (grown_drew (grown_refl _ _))) | exact keep6 (HS.out _ (grown_refl _ _)) | exact keep6' HBN.out (HS.out _ hh5))
        (first
          | (go_at_call 35; refine (HSI.out _ _ S3.out.drew.Mt S3.out.drew.d1).mono ?_; rintro e w4 ⟨v4, rfl, hg4, hm4, hs4⟩; obtain ⟨q4, vs4, rfl, -, -⟩ := id hs4; have hh4 := grown_trans (grown_drew (grown_refl w3 m)) hg4)
          | (go_at_call 33; refine (HRM.out _ _ _ q4 _ hm4 hs4).mono ?_; rintro e w5 ⟨q5, rfl, hg5, hm5, hr5⟩; have hh5 := grown_trans hh4 hg5; obtain ⟨-, -, -, -, -, -, p7, p8⟩ := HS.out _ hh5))
      have S5 := Lib.hid ((((S3.out.drew.mcall hg4 hm4.at_).mcall hg5 hm5.at_).add (dRt (some (x, Slag.insert id l r)) q5) hr5).set (A := [_]) 0 (.pointer q5))
      have hr := cell_of (S5.out.box (A := [_])) 0 (v := .pointer q5) rfl
      go_wp2
      refine bodyPost_ret (v := .agg #[.pointer q5]) (by simp [results, Tryd.results17, go_sem, hr]) rfl ?_
      have e1 : n + 1 + ((insertN l : Nat) : Int) + 1 = n + ((RH.insN (some (r, l)) : Nat) : Int) := by simp [RH.insN]; omega
      rw [e1] at S5
      refine ⟨_, rfl, S5.out.fin.1, S5.out.fin.2, ?_⟩
      rw [HR.out, if_pos trivial]
      exact S5.out.dout
    | false =>
      go_wp2_with fail
      have S3 := S2
      clear c1 c2 c3 c4 f1 f2 f3 f4
      generalize w1 = w3 at *
      have HS := Lib.hid (fun (W : World) (hg : w3.grownBy W m) => (⟨cell_of (S3.out.later (A := [_, _, _]) hg) 0 rfl, cell_of (S3.out.later (A := []) hg) 0 rfl, cell_of (S3.out.later (A := []) hg) 1 rfl, cell_of (S3.out.later (A := [_, _]) hg) 0 rfl, cell_of (S3.out.later (A := [_, _]) hg) 1 rfl, cell_of ((dN b q2 r).ext S3.out.d2 (S3.out.ext hg)).2 0 rfl, cell_of (S3.out.later (A := [_]) hg) 0 rfl, frozen_of (S3.out.later (A := [_]) hg) 0⟩ :
        W.cell? ⟨w.heap.size, 0, none⟩ = some (.pointer (some ⟨b, 0, none⟩)) ∧ W.cell? ⟨w.heap.size + 1 + 1 + 1, 0, none⟩ = some (.int .i64 r.1) ∧ W.cell? ⟨w.heap.size + 1 + 1 + 1, 1, none⟩ = some (.int .i64 r.2) ∧
        W.cell? ⟨w.heap.size + 1, 0, none⟩ = some (.int .i64 x.1) ∧ W.cell? ⟨w.heap.size + 1, 1, none⟩ = some (.int .i64 x.2) ∧ W.cell? ⟨b, 0, none⟩ = some (.pointer q2) ∧ W.cell? ⟨w.heap.size + 1 + 1, 0, none⟩ = some (.pointer none) ∧ W.frozen? ⟨w.heap.size + 1 + 1, 0, none⟩ = false))
      have hS0 := HS.out w3 (grown_refl _ _)
      have HBN := Lib.hid (show w.heap.size + 1 + 1 ≠ b from fun e => S3.out.d2.1 (.inr ⟨.box (w.heap.size + 1 + 1) #[.pointer none] 28, by simp, by rw [← e]; rfl⟩))
      have hsins := fun Y W hM hH => sins_any Y m (n + 1) l (.agg #[.pointer q2]) x W hM hH (by have := HNL.out; omega)
      unfold elV at hsins
      have HSI := Lib.hid hsins
      have hrm := fun Y n' (l' : SH) q' W hM hH => rmade_any Y m n' r l' q' W hM hH
      unfold elV at hrm
      have HRM := Lib.hid hrm
      clear hsins hrm
      go_region_held3 (fun W => W.cell? ⟨w.heap.size, 0, none⟩ = some (.pointer (some ⟨b, 0, none⟩)) ∧ W.cell? ⟨w.heap.size + 1 + 1 + 1, 0, none⟩ = some (.int .i64 r.1) ∧ W.cell? ⟨w.heap.size + 1 + 1 + 1, 1, none⟩ = some (.int .i64 r.2) ∧
        W.cell? ⟨w.heap.size + 1, 0, none⟩ = some (.int .i64 x.1) ∧ W.cell? ⟨w.heap.size + 1, 1, none⟩ = some (.int .i64 x.2) ∧ W.cell? ⟨b, 0, none⟩ = some (.pointer q2))
        (first | exact keep6 (HS.out _ hh5) | exact keep6 (HS.out _ hh4) | exact keep6 (HS.out _ (grown_drew (grown_refl _ _))) | exact keep6 (HS.out _ (grown_refl _ _)) | exact keep6' HBN.out (HS.out _ hh5))
        (first
          | (go_at_call 35; refine (HSI.out _ _ S3.out.drew.Mt S3.out.drew.d1).mono ?_; rintro e w4 ⟨v4, rfl, hg4, hm4, hs4⟩; obtain ⟨q4, vs4, rfl, -, -⟩ := id hs4; have hh4 := grown_trans (grown_drew (grown_refl w3 m)) hg4)
          | (go_at_call 33; refine (HRM.out _ _ _ q4 _ hm4 hs4).mono ?_; rintro e w5 ⟨q5, rfl, hg5, hm5, hr5⟩; have hh5 := grown_trans hh4 hg5; obtain ⟨-, -, -, -, -, -, p7, p8⟩ := HS.out _ hh5))
      have S5 := Lib.hid ((((S3.out.drew.mcall hg4 hm4.at_).mcall hg5 hm5.at_).add (dRt (some (r, Slag.insert id l x)) q5) hr5).set (A := [_]) 0 (.pointer q5))
      have hr := cell_of (S5.out.box (A := [_])) 0 (v := .pointer q5) rfl
      go_wp2
      refine bodyPost_ret (v := .agg #[.pointer q5]) (by simp [results, Tryd.results17, go_sem, hr]) rfl ?_
      have e1 : n + 1 + ((insertN l : Nat) : Int) + 1 = n + ((RH.insN (some (r, l)) : Nat) : Int) := by simp [RH.insN]; omega
      rw [e1] at S5
      refine ⟨_, rfl, S5.out.fin.1, S5.out.fin.2, ?_⟩
      rw [HR.out, if_neg (by simp)]
      exact S5.out.dout
set_option maxRecDepth 100000 in
set_option maxHeartbeats 2000000 in
theorem rmin_any (X : Nat → Prop) (m : Option Nat) (n : Int) (h : RH) (q : Option Addr) (w : World) (hm : Mt X w m n) (hh : RootAt X w h q) :
    Calls Tryd.prog 16 #[.agg #[.pointer q], mval m] w fun e w' => e = .returned (.tuple #[elV (RH.min h), .bool (!h.isNone)]) ∧ w.grownBy w' m ∧ Mt X w' m n := by
  have S0 := Lib.hid (((SX.nil hm).add (dRt h q) (RootAt.weak (fun b hb _ => by rcases hb with hb | ⟨s, h, _⟩; exact hb; cases h) hh)).alloc #[.pointer q] 28 |>.alloc #[.int .i64 0, .int .i64 0] 24)
  simp only [World.size_alloc] at S0
  have S00 := Lib.hid (((SX.nil hm).add (dRt h q) (RootAt.weak (fun b hb _ => by rcases hb with hb | ⟨s, h, _⟩; exact hb; cases h) hh)).alloc #[.pointer q] 28)
  clear hm
  have d1 := cell_of (S0.out.box (A := [])) 0 (v := .int .i64 0) rfl
  have d2 := cell_of (S0.out.box (A := [])) 1 (v := .int .i64 0) rfl
  have f1 := frozen_of (S0.out.box (A := [])) 0
  have f2 := frozen_of (S0.out.box (A := [])) 1
  have d3 := cell_of (S0.out.box (A := [_])) 0 (v := .pointer q) rfl
  cases h with
  | none =>
    obtain rfl : q = none := hh
    go_enter Tryd.func16, Tryd.ntmps16
    go_wp2
    refine bodyPost_ret (v := .tuple #[.agg #[.int .i64 0, .int .i64 0], .bool false]) (by simp [results, Tryd.results16, go_sem]) rfl ?_
    exact ⟨rfl, S0.out.fin.1, S0.out.fin.2⟩
  | some p =>
    obtain ⟨r, l⟩ := p
    obtain ⟨b, q2, rfl, hX, hb, hhl⟩ := id (show RootAt (XO X _) _ (some (r, l)) q from S0.out.d1)
    have r1 := cell_of hb 0 (v := .pointer q2) rfl
    have r2 := cell_of hb 1 (v := .int .i64 r.1) rfl
    have r3 := cell_of hb 2 (v := .int .i64 r.2) rfl
    have S1 := Lib.hid (S00.out.alloc #[.int .i64 r.1, .int .i64 r.2] 24)
    clear hb hX hhl
    go_enter Tryd.func16, Tryd.ntmps16
    go_wp2
    refine bodyPost_ret (v := .tuple #[.agg #[.int .i64 r.1, .int .i64 r.2], .bool true]) (by simp [results, Tryd.results16, go_sem]) rfl ?_
    exact ⟨rfl, S1.out.fin.1, S1.out.fin.2⟩
set_option maxRecDepth 100000 in
set_option maxHeartbeats 2000000 in
theorem rsize_any (X : Nat → Prop) (h : RH) (q : Option Addr) (w : World) (hX : ∀ b, X b → b < w.heap.size) (hh : RootAt X w h q) (hn : (RH.els h).length ≤ 1099511627776) :
    Calls Tryd.prog 19 #[.agg #[.pointer q]] w fun e w' => e = .returned (.int .i64 ((RH.els h).length : Nat)) ∧ w.grownBy w' none := by
  have S0 := Lib.hid (((SX.nil (Mt.nil hX 0)).add (dRt h q) (RootAt.weak (fun b hb _ => by rcases hb with hb | ⟨s, h, _⟩; exact hb; cases h) hh)).alloc #[.pointer q] 28)
  have d3 := cell_of (S0.out.box (A := [])) 0 (v := .pointer q) rfl
  cases h with
  | none =>
    obtain rfl : q = none := hh
    go_enter Tryd.func19, Tryd.ntmps19
    go_wp2
    go_ret
    exact ⟨rfl, S0.out.gr⟩
  | some p =>
    obtain ⟨r, l⟩ := p
    obtain ⟨b, q2, rfl, hX2, hb, hhl⟩ := id (show RootAt (XO X _) _ (some (r, l)) q from S0.out.d1)
    have r1 := cell_of hb 0 (v := .pointer q2) rfl
    have hnl : Tr.sizeL l + 1 ≤ 1099511627776 := by simp [RH.els] at hn; simp only [Tr.sizeL]; omega
    have HNL := Lib.hid hnl
    have HHL := Lib.hid hhl
    have HE : Hid ((RH.els (some (r, l))).length = Tr.sizeL l + 1) := Lib.hid (by simp [RH.els, Tr.sizeL])
    clear hb hX2 hhl hn hh
    go_enter Tryd.func19, Tryd.ntmps19
    go_wp2_with fail
    refine (ssize_any _ l (.agg #[.pointer q2]) _ S0.out.lt HHL.out (by have := HNL.out; omega)).mono ?_
    rintro e w1 ⟨rfl, hg1⟩
    have S1 := Lib.hid (S0.out.call hg1)
    clear hg1
    go_wp2
    go_ret
    exact ⟨ret_int (by rw [HE.out]; omega), S1.out.gr⟩
def rText : RH → List UInt8
  | none => [46]
  | some (x, l) => eText x ++ 32 :: hText l
set_option maxRecDepth 100000 in
set_option maxHeartbeats 2000000 in
theorem rshow_any (h : RH) (q : Option Addr) (w : World) (hh : RootAt (fun _ => False) w h q) (hn : (RH.els h).length ≤ 1099511627776) (hok : ∀ x ∈ RH.els h, ElOk w x) :
    Calls Tryd.prog 30 #[.agg #[.pointer q]] w fun e w' => e = .returned (strV (rText h)) ∧ w.grownBy w' none := by
  have S0 := Lib.hid (((SX.nil (X := fun _ => False) (Mt.nil (fun _ h => h.elim) 0)).add (dRt h q) (RootAt.weak (fun b hb _ => by rcases hb with hb | ⟨s, h, _⟩; exact hb; cases h) hh)).alloc #[.pointer q] 28)
  have d3 := cell_of (S0.out.box (A := [])) 0 (v := .pointer q) rfl
  cases h with
  | none =>
    obtain rfl : q = none := hh
    go_enter Tryd.func30, Tryd.ntmps30
    go_wp2
    go_ret
    exact ⟨rfl, S0.out.gr⟩
  | some p =>
    obtain ⟨r, l⟩ := p
    obtain ⟨b, q2, rfl, hX2, hb, hhl⟩ := id (show RootAt (XO (fun _ => False) _) _ (some (r, l)) q from S0.out.d1)
    have S1 := Lib.hid ((S0.out.add (dN b q2 r) ⟨hX2, hb⟩).add (dS l q2) hhl)
    have hnl : Tr.sizeL l + 1 ≤ 1099511627776 := by simp [RH.els] at hn; simp only [Tr.sizeL]; omega
    have HNL := Lib.hid hnl
    have HOK := Lib.hid hok
    clear hb hX2 hhl hn hh hok d3
    go_enter Tryd.func30, Tryd.ntmps30
    have e1 := cell_of (S1.out.box (A := [])) 0 (v := .pointer (some ⟨b, 0, none⟩)) rfl
    have e2 := cell_of S1.out.d2.2 0 rfl
    have e3 := cell_of S1.out.d2.2 1 rfl
    have e4 := cell_of S1.out.d2.2 2 rfl
    go_wp2_with fail
    clear e1 e2 e3 e4
    generalize w.alloc (.cells #[.pointer (some ⟨b, 0, none⟩)] 28) = W0 at *
    have HS := Lib.hid (fun (W : World) (hg : W0.grownBy W none) => (⟨cell_of (S1.out.later (A := []) hg) 0 rfl, cell_of ((dN b q2 r).ext S1.out.d2 (S1.out.ext hg)).2 0 rfl, cell_of ((dN b q2 r).ext S1.out.d2 (S1.out.ext hg)).2 1 rfl, cell_of ((dN b q2 r).ext S1.out.d2 (S1.out.ext hg)).2 2 rfl⟩ :
      W.cell? ⟨w.heap.size, 0, none⟩ = some (.pointer (some ⟨b, 0, none⟩)) ∧ W.cell? ⟨b, 0, none⟩ = some (.pointer q2) ∧ W.cell? ⟨b, 1, none⟩ = some (.int .i64 r.1) ∧ W.cell? ⟨b, 2, none⟩ = some (.int .i64 r.2)))
    have hET := fun W (hg : W0.grownBy W none) => etext_any r W ((HOK.out r (by simp [RH.els])).later (grown_trans S1.out.gr hg))
    have hSH := fun W (hg : W0.grownBy W none) => sshow_any l (.agg #[.pointer q2]) W (HeapAt.weak ((dS l q2).ext S1.out.d1 (S1.out.ext hg)) (fun _ h _ => h.elim)) (by have := HNL.out; omega) (fun x hx => (HOK.out x (by simp [RH.els, hx])).later (grown_trans S1.out.gr hg))
    obtain ⟨s1, hs1⟩ : ∃ s1 : ByteArray, s1 = ⟨(eText r).toArray⟩ := ⟨_, rfl⟩
    obtain ⟨s2, hs2⟩ : ∃ s2 : ByteArray, s2 = ⟨(hText l).toArray⟩ := ⟨_, rfl⟩
    have hl1 : s1.size ≤ 43 := by rw [hs1]; simpa [ByteArray.size] using eText_le ⟨(HOK.out r (by simp [RH.els])).1.1, (HOK.out r (by simp [RH.els])).2.1⟩
    have hl2 : s2.size ≤ 70368744177665 := by
      rw [hs2]
      have h1 : (hText l).length ≤ 60 * Tr.sizeL l + 1 := by
        unfold hText; split
        · simp
        · have := join_le l (fun x hx => ⟨(HOK.out x (by simp [RH.els, hx])).1.1, (HOK.out x (by simp [RH.els, hx])).2.1⟩); omega
      have h2 := HNL.out
      show (hText l).toArray.size ≤ _
      simp; omega
    have HTX : Hid (s1 ++ (⟨#[32]⟩ : ByteArray) ++ s2 = ⟨(rText (some (r, l))).toArray⟩) := Lib.hid (by rw [hs1, hs2]; simp [rText, ByteArray.ext_iff])
    unfold strV at hSH
    rw [← hs1] at hET
    rw [← hs2] at hSH
    unfold elV at hET
    have HET := Lib.hid hET
    have HSH := Lib.hid hSH
    have hb1 : ¬ (9223372036854775807 < s1.size + 1) := by omega
    have hb2 : ¬ (9223372036854775807 < s1.size + 1 + s2.size) := by omega
    have hb3 : s1.size + 1 ≤ 9223372036854775807 := by omega
    have hb4 : s1.size + 1 + s2.size ≤ 9223372036854775807 := by omega
    clear hs1 hs2 hET hSH
    go_region_held3 (fun W => W.cell? ⟨w.heap.size, 0, none⟩ = some (.pointer (some ⟨b, 0, none⟩)) ∧ W.cell? ⟨b, 0, none⟩ = some (.pointer q2) ∧ W.cell? ⟨b, 1, none⟩ = some (.int .i64 r.1) ∧ W.cell? ⟨b, 2, none⟩ = some (.int .i64 r.2))
      (first | exact HS.out _ hh2 | exact HS.out _ hh1 | exact HS.out _ (grown_drew (grown_refl _ _)) | exact HS.out _ (grown_refl _ _))
      (first
        | (go_at_call 39; refine (HET.out _ (grown_drew (grown_refl _ _))).mono ?_; rintro e w1 ⟨rfl, hg1⟩; have hh1 := grown_trans (grown_drew (grown_refl W0 none)) hg1)
        | (go_at_call 40; refine (HSH.out _ hh1).mono ?_; rintro e w2 ⟨rfl, hg2⟩; have hh2 := grown_trans hh1 hg2))
    go_wp2
    go_ret
    exact ⟨by unfold strV; rw [← HTX.out]; simp, grown_trans S1.out.gr hh2⟩
set_option maxRecDepth 100000 in
set_option maxHeartbeats 2000000 in
theorem rpop_any (X : Nat → Prop) (m : Option Nat) (n : Int) (h : RH) (q : Option Addr) (w : World) (hm : Mt X w m n) (hh : RootAt X w h q) (hn : (RH.els h).length ≤ 1099511627776) :
    Calls Tryd.prog 15 #[.agg #[.pointer q], mval m] w fun e w' => ∃ q', e = .returned (.tuple #[.agg #[.pointer q'], .bool (!h.isNone)]) ∧ w.grownBy w' m ∧ Mt X w' m (n + (RH.popN h : Nat)) ∧ RootAt X w' (RH.pop h) q' := by
  have S0 := Lib.hid (((SX.nil hm).add (dRt h q) (RootAt.weak (fun b hb _ => by rcases hb with hb | ⟨s, h, _⟩; exact hb; cases h) hh)).alloc #[.pointer q] 28 |>.alloc #[.pointer none] 28)
  simp only [World.size_alloc] at S0
  clear hm
  cases h with
  | none =>
    obtain rfl : q = none := hh
    have d3 := cell_of (S0.out.box (A := [_])) 0 (v := .pointer none) rfl
    go_enter Tryd.func15, Tryd.ntmps15
    go_wp2
    refine bodyPost_ret (v := .tuple #[.agg #[.pointer none], .bool false]) (by simp [results, Tryd.results15, go_sem]) rfl ?_
    exact ⟨_, rfl, S0.out.fin.1, by simpa [RH.popN] using S0.out.fin.2, rfl⟩
  | some p =>
    obtain ⟨r, l⟩ := p
    obtain ⟨b, q2, rfl, hX2, hb, hhl⟩ := id (show RootAt (XO X _) _ (some (r, l)) q from S0.out.d1)
    have S1 := Lib.hid (((S0.out.dsub (D' := []) (by simp)).add (dN b q2 r) ⟨hX2, hb⟩).add (dS l q2) hhl)
    have hnl : Tr.sizeL l + 1 ≤ 1099511627776 := by simp [RH.els] at hn; simp only [Tr.sizeL]; omega
    have HNL := Lib.hid hnl
    have r1 := cell_of hb 0 (v := .pointer q2) rfl
    have d3 := cell_of (S1.out.box (A := [_])) 0 (v := .pointer (some ⟨b, 0, none⟩)) rfl
    clear hb hX2 hhl hn hh hnl S0
    go_enter Tryd.func15, Tryd.ntmps15
    go_wp2_with fail
    refine (smin_any _ m n l (.agg #[.pointer q2]) _ S1.out.Mt S1.out.d1 (by have := HNL.out; omega)).mono ?_
    rintro e w1 ⟨rfl, hg1, hm1⟩
    have S2 := Lib.hid ((S1.out.mcall hg1 hm1.at_).alloc #[.int .i64 (minE l).1, .int .i64 (minE l).2] 24)
    unfold elV
    clear hg1 hm1 r1 d3
    by_cases hnl : l = []
    · have HNE := Lib.hid hnl
      have hie : l.isEmpty = true := by rw [hnl]; rfl
      have d4 := cell_of (S2.out.box (A := [_])) 0 (v := .pointer none) rfl
      have f4 := frozen_of (S2.out.box (A := [_])) 0
      have S3 := Lib.hid (S2.out.set (A := [_]) 0 (.pointer none))
      have hr := cell_of (S3.out.box (A := [_])) 0 (v := .pointer none) rfl
      clear hnl
      go_wp2
      refine bodyPost_ret (v := .tuple #[.agg #[.pointer none], .bool true]) (by simp [results, Tryd.results15, go_sem, hr]) rfl ?_
      have e1 : n + ((l.length - 1 : Nat) : Int) = n + ((RH.popN (some (r, l)) : Nat) : Int) := by rw [HNE.out]; simp [RH.popN]
      rw [e1] at S3
      exact ⟨_, rfl, S3.out.fin.1, S3.out.fin.2, by rw [HNE.out]; rfl⟩
    · have HNE := Lib.hid hnl
      have hie : l.isEmpty = false := by cases l with | nil => exact absurd rfl hnl | cons _ _ => rfl
      obtain ⟨hX3, hb3⟩ := id (show (dN b q2 r).P _ _ from S2.out.d2)
      have r1 := cell_of hb3 0 (v := .pointer q2) rfl
      have d3 := cell_of (S2.out.box (A := [_, _])) 0 (v := .pointer (some ⟨b, 0, none⟩)) rfl
      clear hnl hX3 hb3
      go_wp2_with fail
      refine (spop_any _ m _ l (.agg #[.pointer q2]) _ S2.out.Mt S2.out.d1 (by have := HNL.out; omega)).mono ?_
      rintro e w3 ⟨v3, rfl, hg3, hm3, hh3⟩
      obtain ⟨q3, vs3, rfl, -, -⟩ := id hh3
      have S3 := Lib.hid (((S2.out.mcall hg3 hm3.at_).add (dS (pop id l) q3) hh3).alloc #[.pointer q3] 64)
      have c1 := cell_of (S3.out.box (A := [_])) 0 (v := .int .i64 (minE l).1) rfl
      have c2 := cell_of (S3.out.box (A := [_])) 1 (v := .int .i64 (minE l).2) rfl
      have c3 := cell_of (S3.out.box (A := [])) 0 (v := .pointer q3) rfl
      have hrm := fun Y n' W hM hH => rmade_any Y m n' (minE l) (pop id l) q3 W hM hH
      unfold elV at hrm
      have HRM := Lib.hid hrm
      clear hrm hg3 hm3 hh3 r1 d3
      go_wp2_with fail
      refine (HRM.out _ _ _ S3.out.Mt S3.out.d1).mono ?_
      rintro e w4 ⟨q4, rfl, hg4, hm4, hr4⟩
      have S4 := Lib.hid ((S3.out.mcall hg4 hm4.at_).add (dRt (some (minE l, pop id l)) q4) hr4)
      have d4 := cell_of (S4.out.box (A := [_, _])) 0 (v := .pointer none) rfl
      have f4 := frozen_of (S4.out.box (A := [_, _])) 0
      have S5 := Lib.hid (S4.out.set (A := [_, _]) 0 (.pointer q4))
      have hr := cell_of (S5.out.box (A := [_, _])) 0 (v := .pointer q4) rfl
      clear hg4 hm4 hr4 c1 c2 c3
      go_wp2
      refine bodyPost_ret (v := .tuple #[.agg #[.pointer q4], .bool true]) (by simp [results, Tryd.results15, go_sem, hr]) rfl ?_
      have e1 : n + ((l.length - 1 : Nat) : Int) + ((popN id l : Nat) : Int) + 1 = n + ((RH.popN (some (r, l)) : Nat) : Int) := by simp [RH.popN, HNE.out]; omega
      rw [e1] at S5
      have e2 : RH.pop (some (r, l)) = some (minE l, pop id l) := by rw [RH.pop_some, if_neg HNE.out]; rfl
      exact ⟨_, rfl, S5.out.fin.1, S5.out.fin.2, by rw [e2]; exact S5.out.dout⟩
end Go.Proofs.YtgdnlolicjdfoaaDoor
