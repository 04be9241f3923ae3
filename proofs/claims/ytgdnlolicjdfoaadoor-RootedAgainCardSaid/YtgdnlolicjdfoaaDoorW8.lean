import Derived.Test.YtgdnlolicjdfoaaDoorW7
/- Leaf, Link, Skew. -/
namespace Go.Proofs.YtgdnlolicjdfoaaDoor
open Go Go.Proofs Go.RowKit Slag

theorem leaf_any (X : Nat → Prop) (m : Option Nat) (n : Int) (x : E) (w : World) (hm : Mt X w m n) :
    Calls Tryd.prog 60 #[mval m, elV x] w fun e w' => ∃ b, e = .returned (.pointer (some ⟨b, 0, none⟩)) ∧ w.grownBy w' m ∧ Mt X w' m (n + 1) ∧ TreeAt X w' (leaf x) b := by
  have hs : (leaf x).size = 1 := by simp [Tr.size, leaf_all]
  have hc := fun w (hm : Mt X w m n) => tmade_any X m n (leaf x) [] (.slice none 0 0) (.slice none 0 0) w hm (RowAt.nil _ _ _ _) (RowAt.nil _ _ _ _) TreesAt.nil (by rw [hs]; simp [leaf, Tr.rank]) (by rw [hs]; omega)
  simp only [leaf, Tr.rank, Tr.root] at hc
  have HM := Lib.hid hm
  have HC := Lib.hid hc
  clear hm hc hs
  obtain ⟨x1, x2⟩ := x
  unfold elV
  go_enter Tryd.func60, Tryd.ntmps60
  go_wp2_with fail
  have hg0 := World.grownBy_alloc w (.cells #[.int .i64 x1, .int .i64 x2] 24) m
  refine (HC.out _ (HM.out.to hg0.size (HM.out.at_.alloc _))).mono ?_
  rintro e w1 ⟨b, rfl, hg1, hm1, ht⟩
  have HT := Lib.hid ht
  have HM1 := Lib.hid hm1
  clear ht hm1
  go_wp2
  go_ret
  exact ⟨b, rfl, grown_trans hg0 hg1, HM1.out, HT.out⟩

theorem key_method (k : Nat) (x y : Int) (w : World) : (method (k + 1) 24 (.agg #[.int .i64 x, .int .i64 y]) "Key").run Tryd.prog w = .ok (118, .agg #[.int .i64 x, .int .i64 y]) w := by kernel_rfl
theorem ekey2 (x y : Int) (w : World) : Calls Tryd.prog 118 #[.agg #[.int .i64 x, .int .i64 y]] w fun e w' => e = .returned (.agg #[.int .i64 x, .int .i64 y]) ∧ w.grownBy w' none := ekey_any (x, y) w
theorem mless2 (m : Option Nat) (n : Int) (a b : E) (w : World) (hm : MeterAt w m n) :
    Calls Tryd.prog 34 #[mval m, .agg #[.int .i64 a.1, .int .i64 a.2], .agg #[.int .i64 b.1, .int .i64 b.2]] w fun e w' => e = .returned (.bool (Slag.less a b)) ∧ w.grownBy w' m ∧ MeterAt w' m (n + 1) := mless_any m n a b w hm
theorem tmade2 (X : Nat → Prop) (m : Option Nat) (n : Int) (t : Tr E) (vs : List Nat) (r x1 x2 : Int) (bv kv : Value) (w : World) (hm : Mt X w m n) (e1 : r = t.rank) (e2 : x1 = t.root.1) (e3 : x2 = t.root.2)
    (hb : RowAt X 24 2 w t.bes.length (eCells t.bes) bv) (hk : RowAt X 84 1 w t.kids.length (vs.map pv) kv) (hks : TreesAt X w t.kids vs) (hr : t.rank < t.size) (hn : t.size ≤ 1099511627776) :
    Calls Tryd.prog 75 #[mval m, .agg #[.int .i64 r, .int .i64 x1, .int .i64 x2, bv, kv, .int .i64 0]] w fun e w' => ∃ b, e = .returned (.pointer (some ⟨b, 0, none⟩)) ∧ w.grownBy w' m ∧ Mt X w' m (n + 1) ∧ TreeAt X w' t b := by
  subst e1; subst e2; subst e3
  exact tmade_any X m n t vs bv kv w hm hb hk hks hr hn
theorem wrap_rank {r : Nat} (h : r ≤ 1099511627776) : IntKind.i64.wrap ((r : Int) + 1) = ((r + 1 : Nat) : Int) := by rw [i64wrap]; unfold wrap64; omega
/-- The second half of Link: the winner a, the loser b. -/
theorem link_half (X : Nat → Prop) (m : Option Nat) (n : Int) (a b : Tr E) (ba bb : Nat) (w : World) (ha : TreeAt X w a ba) (hb : TreeAt X w b bb) (hn : a.size + b.size ≤ 1099511627776) :
    ∃ bv pk ck kvs, (∀ w', Ext X w w' → (w'.cell? ⟨ba, 0, none⟩ = some (.int .i64 a.rank) ∧ w'.cell? ⟨ba, 1, none⟩ = some (.int .i64 a.root.1) ∧ w'.cell? ⟨ba, 2, none⟩ = some (.int .i64 a.root.2) ∧
        w'.cell? ⟨ba, 3, none⟩ = some bv ∧ w'.cell? ⟨ba, 4, none⟩ = some (.slice pk a.kids.length ck))) ∧ (∃ pb nb cb, bv = .slice pb nb cb) ∧
      (∀ w', Ext X w w' → Calls Tryd.prog 83 #[.pointer (some ⟨bb, 0, none⟩), .slice pk a.kids.length ck] w' fun e w'' => ∃ v', e = .returned v' ∧ w'.grownBy w'' none ∧ w''.ownsRow w'.heap.size 84 1 v' (a.kids.length + 1) ((bb :: kvs).map pv)) ∧
      (∀ w' v base, Ext X w w' → Mt X w' m n → w.heap.size ≤ base → (∀ b, X b → b < base) → w'.ownsRow base 84 1 v (a.kids.length + 1) ((bb :: kvs).map pv) →
        Calls Tryd.prog 75 #[mval m, .agg #[.int .i64 (IntKind.i64.wrap (a.rank + 1)), .int .i64 a.root.1, .int .i64 a.root.2, bv, v, .int .i64 0]] w' fun e w'' => ∃ r, e = .returned (.pointer (some ⟨r, 0, none⟩)) ∧ w'.grownBy w'' m ∧ Mt X w'' m (n + 1) ∧ TreeAt X w'' (.mk (a.rank + 1) a.root a.bes (b :: a.kids)) r) := by
  obtain ⟨bv, kv, hX, hc, hbs, hr, kvs, hk, hks⟩ := ha.open
  obtain ⟨-, pk, ck, rfl, -⟩ := id hk
  have hkl : a.kids.length ≤ 1099511627776 := by have := Tr.length_le_sizeL a.kids; have := Tr.size_eq a; omega
  refine ⟨bv, pk, ck, kvs, fun w' hx => ⟨cell_of (hx.block _ _ _ _ hX hc) 0 rfl, cell_of (hx.block _ _ _ _ hX hc) 1 rfl, cell_of (hx.block _ _ _ _ hX hc) 2 rfl, cell_of (hx.block _ _ _ _ hX hc) 3 rfl, cell_of (hx.block _ _ _ _ hX hc) 4 rfl⟩, ?_, fun w' hx => ?_, fun w' v base hx hm hbase hXb hown => ?_⟩
  · obtain ⟨-, pb, cb, rfl, -⟩ := hbs
    exact ⟨_, _, _, rfl⟩
  · exact aheadP_any X bb _ kvs _ w' (hk.ext hx) hkl
  · have hsz : (Tr.mk (a.rank + 1) a.root a.bes (b :: a.kids)).size = a.size + b.size := by
      simp [Tr.size, Tr.all_eq a, Tr.all_mk, Tr.allL_cons]; omega
    refine tmade2 X m n (.mk (a.rank + 1) a.root a.bes (b :: a.kids)) (bb :: kvs) _ _ _ bv v w' hm (wrap_rank (by omega)) rfl rfl (hbs.ext hx) (RowAt.of_owns hown hXb) (TreesAt.cons (hb.ext hx) (hks.ext hx)) ?_ (by rw [hsz]; exact hn)
    rw [hsz]; have := Tr.size_pos b; show a.rank + 1 < a.size + b.size; omega
end Go.Proofs.YtgdnlolicjdfoaaDoor
