import Derived.Test.YtgdnlolicjdfoaaDoorLAw
import Derived.Test.YtgdnlolicjdfoaaDoorRSum
import Derived.StillTailTactics
/- Doubles. -/
namespace Go.Proofs.YtgdnlolicjdfoaaDoor
open Go Go.Proofs Go.RowKit Slag

def dbl (h : HP) : Nat → HP
  | 0 => h
  | k + 1 => hmeld (dbl h k) (dbl h k)
def dblS (l : List E) : Nat → List E
  | 0 => l
  | k + 1 => List.foldl ins (dblS l k) (dblS l k)
theorem dbl_law (a : List E) : ∀ k, hok (dbl (hof a) k) ∧ dblS (srt a) k = srt (hels (dbl (hof a) k)) ∧ hcnt (dbl (hof a) k) = a.length * 2 ^ k := by
  intro k
  induction k with
  | zero => exact ⟨hok_of a, (srt_congr (hels_of a)).symm, by rw [show dbl (hof a) 0 = hof a from rfl, hcnt_of]; simp⟩
  | succ k ih =>
    obtain ⟨h1, h2, h3⟩ := ih
    refine ⟨hok_meld h1 h1, ?_, ?_⟩
    · rw [dblS, h2, foldl_ins_srt]
      refine srt_congr ?_
      exact ((srt_perm _).append_left _).trans (hels_meld _ _).symm
    · rw [dbl, hcnt_meld, h3, Nat.pow_succ, ← Nat.mul_assoc]; omega
theorem dbl_small (a : List E) (ha : a.length ≤ 12) {k : Nat} (hk : k ≤ 3) : hcnt (dbl (hof a) k) ≤ 96 := by
  rw [(dbl_law a k).2.2]
  have : 2 ^ k ≤ 8 := Nat.pow_le_pow_right (by omega) hk
  have := Nat.mul_le_mul ha this
  omega
set_option maxRecDepth 100000 in
set_option maxHeartbeats 8000000 in
theorem doubles_walk (a : List E) (n : Nat) (v : Value) (w : World) (hv : RowAt (fun _ => False) 24 2 w a.length (eCells a) v) (hn : n < 256) :
    Calls Tryd.prog 9 #[v, .int .u8 n] w fun e w' => e = .returned (.bool true) ∧ w.grownBy w' none := by
  obtain ⟨-, p, cap, rfl, hcap, hmax, -⟩ := id hv
  have S0 := Lib.hid ((St.nil w).add (dR a _) (hv.weak fun b hb _ => by obtain ⟨s, h, _⟩ := hb; cases h))
  clear hv
  by_cases hlen : a.length ≤ 12
  · have hlenI : ¬ (12 : Int) < a.length := by omega
    go_enter Tryd.func9, Tryd.ntmps9
    go_wp2_with fail
    refine (awake_any w).mono ?_
    rintro e w1 ⟨rfl, hg1⟩
    have S1 := Lib.hid (S0.out.call hg1)
    clear hg1 S0
    go_wp2_with fail
    refine (hof_any _ none 0 a (.slice p a.length cap) w1 (S1.out.mtn 0) S1.out.d1 (by omega)).mono ?_
    rintro e w2 ⟨q2, rfl, hg2, -, hh2⟩
    have S2 := Lib.hid (((S1.out.call hg2).add (dH (hof a) q2) hh2).alloc #[.pointer q2] 28)
    clear hg2 hh2 S1
    go_wp2_with fail
    generalize w2.heap.size = B at *
    refine (rsort_any _ a _ _ S2.out.d2 (by omega)).mono ?_
    rintro e w3 ⟨v3, rfl, hg3, hn3⟩
    have S3 : Hid (St w [.box B #[.pointer q2] 28] [dR (dblS (srt a) 0) v3, dH (dbl (hof a) 0) q2, dR a (.slice p a.length cap)] w3) := Lib.hid ((S2.out.call hg3).add (dR (srt a) v3) (S2.out.newRow hn3))
    have hK : n % 4 < 4 := Nat.mod_lt _ (by omega)
    clear hg3 hn3 S2
    go_wp2_with fail
    go_loopw [7, 8] (fun wv i wr => ∃ (k : Nat) (q : Option Addr), k ≤ n % 4 ∧ i = .int .i64 k ∧ Hid (St w [.box B #[.pointer q] 28] [dR (dblS (srt a) k) wv, dH (dbl (hof a) k) q, dR a (.slice p a.length cap)] wr)) (fun _ i _ => n % 4 - (intOf i).toNat)
    case atStart => exact ⟨0, q2, Nat.zero_le _, rfl, S3⟩
    case round =>
      obtain ⟨k, q, hk, rfl, HS⟩ := hrel
      have HC := Lib.hid (dbl_small a hlen (k := k) (by omega))
      have HLW := Lib.hid (dbl_law a k)
      by_cases hlt : k < n % 4
      · have hkk : (k : Int) < (n : Int) % 4 := by omega
        have c1 := cell_of (HS.out.box (A := [])) 0 (v := .pointer q) rfl
        go_wp2_with fail
        refine (hmeld_any _ none 0 (dbl (hof a) k) (dbl (hof a) k) q q wr (HS.out.mtn 0) HS.out.d2 HS.out.d2 (by have := HC.out; omega)).mono ?_
        rintro e w4 ⟨q4, rfl, hg4, -, hh4⟩
        have S4 := Lib.hid ((HS.out.call hg4).add (dH (dbl (hof a) (k + 1)) q4) hh4)
        have S5 := Lib.hid (S4.out.set (A := []) 0 (.pointer q4))
        have c2 := cell_of (S4.out.box (A := [])) 0 (v := .pointer q) rfl
        have c3 := frozen_of (S4.out.box (A := [])) 0
        have HL : Hid ((dblS (srt a) k).length ≤ 96) := Lib.hid (by rw [HLW.out.2.1, srt_length]; exact HC.out)
        obtain ⟨-, p5, cap5, rfl, -⟩ := id (show RowAt _ 24 2 _ _ _ u7 from HS.out.d1)
        clear hg4 hh4 c1
        go_wp2_with fail
        refine (rsum_any _ _ (dblS (srt a) k) (dblS (srt a) k) _ _ _ S5.out.lt S5.out.d2 S5.out.d2 (by have := HL.out; omega)).mono ?_
        rintro e w6 ⟨v6, rfl, hg6, hn6⟩
        have S6 := Lib.hid ((S5.out.call hg6).add (dR (dblS (srt a) (k + 1)) v6) hn6)
        have HN := Lib.hid (S6.out.dsub (D' := [dR (dblS (srt a) (k + 1)) v6, dH (dbl (hof a) (k + 1)) q4, dR a (.slice p a.length cap)]) (by simp))
        clear hg6 hn6 c2 c3
        go_wp2
        go_roundw
        case rel => exact ⟨k + 1, q4, by omega, by go_num, HN⟩
        case measure => simp [intOf]; omega
      · have hkk : ¬ (k : Int) < (n : Int) % 4 := by omega
        have HL : Hid ((dblS (srt a) k).length = hcnt (dbl (hof a) k)) := Lib.hid (by rw [HLW.out.2.1, srt_length]; rfl)
        have HD : Hid (hdrain 200 (dbl (hof a) k) = dblS (srt a) k) := Lib.hid (by rw [hdrain_law HLW.out.1 200 (by have := HC.out; omega), HLW.out.2.1])
        have HO := Lib.hid HLW.out.1
        generalize dbl (hof a) k = H at *
        generalize dblS (srt a) k = l at *
        obtain ⟨-, p5, cap5, rfl, -⟩ := id (show RowAt _ 24 2 _ _ _ u7 from HS.out.d1)
        have c1 := cell_of (HS.out.box (A := [])) 0 (v := .pointer q) rfl
        go_wp2_with fail
        refine (hsize_any _ H q wr HS.out.lt HS.out.d2 (by have := HC.out; omega)).mono ?_
        rintro e w4 ⟨rfl, hg4⟩
        rw [← HL.out]
        have S4 := Lib.hid (HS.out.call hg4)
        have c2 := cell_of (S4.out.box (A := [])) 0 (v := .pointer q) rfl
        clear hg4 c1
        go_wp2_with fail
        refine (hdrain_any H q 200 w4 (HAt.weak S4.out.d2 (fun _ h _ => h.elim)) HO.out (by have := HC.out; omega) (by omega)).mono ?_
        rintro e w5 ⟨v5, rfl, hg5, hn5⟩
        rw [HD.out] at hn5
        have S5 := Lib.hid ((S4.out.call hg5).add (dR l v5) (S4.out.newRow hn5))
        clear hg5 hn5 c2
        go_wp2_with fail
        refine (rsame_any _ _ l l _ _ w5 S5.out.d1 S5.out.d2).mono ?_
        rintro e w6 ⟨rfl, hg6⟩
        rw [show decide (l = l) = true from by simp]
        have S6 := Lib.hid (S5.out.call hg6)
        clear hg6
        go_wp2_with fail
        go_ret
        exact ⟨rfl, S6.out.gr⟩
  · have hlt : (12 : Int) < a.length := by omega
    go_enter Tryd.func9, Tryd.ntmps9
    go_wp2_with fail
    refine (awake_any w).mono ?_
    rintro e w1 ⟨rfl, hg1⟩
    have HG1 := Lib.hid hg1
    clear hg1
    go_wp2
    go_ret
    exact ⟨rfl, HG1.out⟩
end Go.Proofs.YtgdnlolicjdfoaaDoor
