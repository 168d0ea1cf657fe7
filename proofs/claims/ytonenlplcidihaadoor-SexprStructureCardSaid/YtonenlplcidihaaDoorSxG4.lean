/- Part of the proof: SxG4. -/
import Derived.Test.YtonenlplcidihaaDoorSxG3
/-! Items are drawn. -/
namespace Go.Proofs.Sx
open Go Go.V Go.Proofs Go.RowKit
set_option maxRecDepth 100000

/-- How many items one of this depth has at most. -/
def szF : Nat → Nat
  | 0 => 1
  | d + 1 => 1 + 3 * szF d
theorem szF_pos (d : Nat) : 1 ≤ szF d := by cases d <;> simp [szF]
theorem app_good {f g : Fo} (h : f.good) (k : g.good) : (f.app g).good := by
  induction f with
  | nil => exact k
  | leaf a t r ih => exact ⟨h.1, h.2.1, ih h.2.2⟩
  | list c r _ ih => exact ⟨h.1, ih h.2⟩
theorem app_dep (f g : Fo) : (f.app g).dep = max f.dep g.dep := by
  induction f with
  | nil => simp [Fo.app, Fo.dep]
  | leaf a t r ih => simp only [Fo.app, Fo.dep, ih]
  | list c r _ ih => simp only [Fo.app, Fo.dep, ih]; omega

/-- What items hands back. -/
def ItRes (cb N d : Nat) (w : World) (v : Value) (w' : World) : Prop :=
  (∃ (t : Fo) (A : Option Addr) (C : Nat), t.cnt = 1 ∧ t.good ∧ t.dep ≤ d ∧ t.flat.length ≤ szF d ∧ v = .slice A t.flat.length C ∧ w'.ownsRow N 34 4 (.slice A t.flat.length C) t.flat.length (itcs t.flat)) ∧ Ch cb w' ∧ Tn cb w w'

theorem leafRes {cb N d : Nat} {w w1 : World} (hN : N ≤ w1.heap.size) (hc : Ch cb w1) (ht : Tn cb w w1) (k : Int) (s : ByteArray) (hk : okLeaf k (bs s) = true) (hs : s.size ≤ 20) :
    ItRes cb N d w (.slice (some ⟨w1.heap.size, 0, none⟩) 1 1) (w1.alloc (.cells #[.int .i64 k, .string s, .int .i64 0, .int .i64 0] 34)) :=
  ⟨⟨.leaf k s .nil, _, _, rfl, ⟨hk, hs, trivial⟩, Nat.zero_le _, szF_pos d, rfl, own_base (own_lit w1 _ 34 4 1 rfl (by decide)) hN⟩, hc.ext ((Ext.refl _).alloc _), ht.ext ((Ext.refl _).alloc _)⟩

theorem tn_row {cb : Nat} {w w' : World} (h : Tn cb w w') (hc : Ch cb w) {B size n : Nat} {v : Value} {xs : List Value} (ho : w.ownsRow B 34 size v n xs) : w'.ownsRow B 34 size v n xs := by
  obtain ⟨lA, lN, lC, i, l, hb, _⟩ := hc
  exact own_grown h ho fun k hk e => own_ne ho hb (by decide) (by rw [hk, ← Option.some.inj e])
/-- A string of a table. -/
theorem tab_str {cb : Nat} {w1 w2 : World} {L : List Value} (hc : cb < w1.heap.size) (h : Tn cb (w1.alloc (.cells L.toArray 9)) w2) {j : Nat} {v : Value} (hj : L[j]? = some v) :
    w2.cell? ((⟨w1.heap.size, 0, none⟩ : Addr).add (j * 1)) = some v := by
  rw [add_eq, Nat.zero_add, Nat.mul_one]
  refine World.grownBy.cell h ?_ ?_
  · rw [alloc_new_cell]; exact hj
  · show some w1.heap.size ≠ some cb
    intro e
    have := Option.some.inj e
    omega

theorem texts5 : ∀ m : Nat, m < 5 → ∃ s : ByteArray, ([.string { data := #[] }, .string { data := #[120, 32, 121] }, .string { data := #[34] }, .string { data := #[97, 34, 34, 98] }, .string { data := #[40, 59, 41] }] : List Value)[m]? = some (.string s) ∧ okLeaf 4 (bs s) = true ∧ s.size ≤ 20 := by
  intro m hm
  match m, hm with
  | 0, _ => exact ⟨_, rfl, rfl, by decide⟩
  | 1, _ => exact ⟨_, rfl, rfl, by decide⟩
  | 2, _ => exact ⟨_, rfl, rfl, by decide⟩
  | 3, _ => exact ⟨_, rfl, rfl, by decide⟩
  | 4, _ => exact ⟨_, rfl, rfl, by decide⟩
theorem texts11 : ∀ m : Nat, m < 11 → ∃ s : ByteArray, ([.string { data := #[97] }, .string { data := #[61, 62] }, .string { data := #[60, 61] }, .string { data := #[43] }, .string { data := #[45] }, .string { data := #[102, 46, 49] }, .string { data := #[120, 33, 50] },
    .string { data := #[63] }, .string { data := #[58, 107] }, .string { data := #[126] }, .string { data := #[95, 65, 57] }] : List Value)[m]? = some (.string s) ∧ okLeaf 1 (bs s) = true ∧ s.size ≤ 20 := by
  intro m hm
  match m, hm with
  | 0, _ => exact ⟨_, rfl, rfl, by decide⟩
  | 1, _ => exact ⟨_, rfl, rfl, by decide⟩
  | 2, _ => exact ⟨_, rfl, rfl, by decide⟩
  | 3, _ => exact ⟨_, rfl, rfl, by decide⟩
  | 4, _ => exact ⟨_, rfl, rfl, by decide⟩
  | 5, _ => exact ⟨_, rfl, rfl, by decide⟩
  | 6, _ => exact ⟨_, rfl, rfl, by decide⟩
  | 7, _ => exact ⟨_, rfl, rfl, by decide⟩
  | 8, _ => exact ⟨_, rfl, rfl, by decide⟩
  | 9, _ => exact ⟨_, rfl, rfl, by decide⟩
  | 10, _ => exact ⟨_, rfl, rfl, by decide⟩

theorem szF_le : ∀ d, d < 4 → szF d ≤ 40 := by decide
theorem plain_itcs (l : List It) : plainCells (itcs l) = true := by
  induction l with
  | nil => rfl
  | cons x l ih =>
    have e : itcs (x :: l) = itc x ++ itcs l := by simp [itcs]
    rw [e]
    exact ih
def muH : List Value → World → Nat
  | .int _ n :: _, _ => n.toNat
  | _, _ => 0
theorem c31b {cb : Nat} (d : Nat) (hd : d ≤ 4) (ih : ∀ d', d = d' + 1 → ∀ (w : World), Ch cb w → Ret Tryd.prog 31 #[.pointer (some ⟨cb, 0, none⟩), .int .i64 d'] w fun v w' => ItRes cb w.heap.size d' w v w') {w : World} (hc : Ch cb w) :
    Ret Tryd.prog 31 #[.pointer (some ⟨cb, 0, none⟩), .int .i64 d] w fun v w' => ItRes cb w.heap.size d w v w' := by
  refine run31 _ _ _ _ (Called.of (c30 hc 8 (by decide) (by decide)) ?_)
  rintro v w1 ⟨⟨m, rfl, hm⟩, hc1, ht1⟩
  refine ⟨_, rfl, cond_intro (fun hl => ?_) (fun hl => cond_intro (fun h3 => ?_) (fun h3 => cond_intro (fun h4 => ?_) (fun h4 => cond_intro (fun h5 => ?_) (fun h5 => ?_))))⟩
  · rw [Bool.and_eq_true, decide_eq_true_eq, decide_eq_true_eq] at hl
    obtain ⟨d', rfl⟩ : ∃ d', d = d' + 1 := ⟨d - 1, by omega⟩
    have hx := (Ext.refl w1).alloc (.cells #[Value.int IntKind.i64 5, Value.string { data := #[] }, Value.int IntKind.i64 0, Value.int IntKind.i64 0] 34)
    have hlit := own_lit w1 [Value.int IntKind.i64 5, Value.string { data := #[] }, Value.int IntKind.i64 0, Value.int IntKind.i64 0] 34 4 1 rfl (by decide)
    refine Called.of (c30 (hc1.ext hx) 4 (by decide) (by decide)) ?_
    rintro v w2 ⟨⟨m1, rfl, hm1⟩, hc2, ht2⟩
    have ht := (ht1.ext hx).trans ht2
    have hcb := hc.lt
    refine ⟨_, rfl, fun vals w3 => ∃ (m : Nat) (c : Fo) (p : Option Addr) (k1 : Nat), vals = [.int .i64 m, .slice p (c.flat.length + 1) k1] ∧
      w3.ownsRow w.heap.size 34 4 (.slice p (c.flat.length + 1) k1) (c.flat.length + 1) (itcs (⟨5, mk [], c.cnt, 0⟩ :: c.flat)) ∧ c.good ∧ c.dep ≤ d' ∧ c.cnt + m ≤ 3 ∧ c.flat.length ≤ c.cnt * szF d' ∧ Ch cb w3 ∧ Tn cb w w3,
      muH, ⟨m1, .nil, _, _, rfl, own_base (tn_row ht2 (hc1.ext hx) hlit) ht1.size, trivial, Nat.zero_le _, by show 0 + m1 ≤ 3; omega, Nat.zero_le _, hc2, ht⟩, ?_⟩
    rintro n2 p k k1 w3 ⟨m, c, p', k1', hv, ho, hg, hd', hcm, hfl, hc3, ht3⟩
    cases hv
    have hsz := szF_le d' (by omega)
    have hfl2 : c.flat.length ≤ 3 * 40 := Nat.le_trans hfl (Nat.mul_le_mul (by omega) hsz)
    refine cond_dec (fun hpos => ?_) (fun hz => ?_)
    · have e1 : IntKind.i64.wrap (((d' + 1 : Nat) : Int) - 1) = (d' : Int) := by rw [wrap64_in (by omega) (by omega)]; omega
      rw [e1]
      refine Called.of (ih d' rfl w3 hc3) ?_
      rintro v w4 ⟨⟨t, A, C, htc, htg, htd, htl, rfl, hto⟩, hc4, ht4⟩
      have ho4 := tn_row ht4 hc3 ho
      have htl2 : t.flat.length ≤ 40 := Nat.le_trans htl hsz
      have htl1 : 1 ≤ t.flat.length := by rw [← htc]; exact t.cnt_le
      refine ⟨_, _, _, rfl, w.heap.size, itcs (⟨5, mk [], c.cnt, 0⟩ :: c.flat), itcs t.flat, ⟨.inl ho4, itcs_len _, .inr ?_, plain_itcs _, by unfold maxLen; omega, by omega, Nat.le_trans ht3.size ht4.size⟩, ?_⟩
      · obtain ⟨ad, hA, _, hr⟩ := (own_row hto).at (j := 0) (by rw [itcs_len]; omega)
        exact ⟨ad, hA, vcells_row.2 hr⟩
      intro p2 k5 w5 r
      obtain ⟨g, rfl, hgo, -, -⟩ := own_some r.own (by omega)
      have hcell : w5.cell? ((⟨g, 0, none⟩ : Addr).add 2) = some (.int .i64 c.cnt) := World.ownsRow.cells r.own hgo 2 _ rfl
      have hadr : (⟨g, 0, none⟩ : Addr).add 2 = ⟨g, 2, none⟩ := by rw [add_eq]
      have hgb := (own_lt r.own g hgo).1
      refine ⟨_, rfl, ⟨by omega, by omega⟩, _, hcell, _, rfl, ⟨by omega, by omega⟩, ⟨⟨_, hcell⟩, by rw [hadr]; exact own_free r.own hgo _⟩, ?_⟩
      have e2 : IntKind.i64.wrap (((c.cnt : Nat) : Int) + 1) = ((c.cnt + 1 : Nat) : Int) := wrap_succ (by omega)
      have e3 : IntKind.i64.wrap ((m : Int) - 1) = ((m - 1 : Nat) : Int) := wrap_pred (by omega) (by omega)
      have e4 : c.flat.length + 1 + t.flat.length = (c.app t).flat.length + 1 := by rw [Fo.app_flat, List.length_append]; omega
      have e5 : (c.app t).cnt = c.cnt + 1 := by rw [Fo.app_cnt, htc]
      rw [e2, e3, hadr]
      refine ⟨⟨m - 1, c.app t, some ⟨g, 0, none⟩, k5, by rw [e4], ?_, app_good hg htg, ?_, by rw [e5]; omega, ?_, ?_, ?_⟩, ?_⟩
      · have h6 := own_set r.own hgo (i := 2) (.int .i64 ((c.cnt + 1 : Nat) : Int))
        rw [e4] at h6
        have e6 : (itcs (⟨5, mk [], c.cnt, 0⟩ :: c.flat) ++ itcs t.flat).set 2 (.int .i64 ((c.cnt + 1 : Nat) : Int)) = itcs (⟨5, mk [], (c.app t).cnt, 0⟩ :: (c.app t).flat) := by
          rw [e5, Fo.app_flat]
          simp [itcs, itc]
        rw [e6] at h6
        exact h6
      · rw [app_dep]; omega
      · rw [Fo.app_flat, List.length_append, e5, Nat.add_mul, Nat.one_mul]; omega
      · exact (hc4.app r ho4 hcb).keep fun k hk => blk_set_ne (by show k ≠ g; omega)
      · exact ((ht3.trans ht4).app r ho4 (Nat.le_refl _)).set hgb _
      · simp only [muH, Int.toNat_natCast]; omega
    · have e7 : (Fo.list c .nil).flat = ⟨5, mk [], c.cnt, 0⟩ :: c.flat := by simp [Fo.flat]
      have e8 : (Fo.list c .nil).flat.length = c.flat.length + 1 := by rw [e7]; rfl
      refine ⟨⟨.list c .nil, p, k1, rfl, ⟨hg, trivial⟩, ?_, ?_, by rw [e8], by rw [e8, e7]; exact ho⟩, hc3, ht3⟩
      · show max (c.dep + 1) 0 ≤ _
        omega
      · rw [e8, szF]
        have : c.cnt * szF d' ≤ 3 * szF d' := Nat.mul_le_mul_right _ (by omega)
        omega
  · refine Called.of (c30 hc1 1048576 (by decide) (by decide)) ?_
    rintro v w6 ⟨⟨a, rfl, ha⟩, hc6, ht6⟩
    refine ⟨_, rfl, Called.of (c44 a (by omega) w6) ?_⟩
    rintro v w7 ⟨⟨s, rfl, hs⟩, he7⟩
    refine ⟨_, rfl, leafRes (Nat.le_trans (ht1.trans ht6).size he7.size) (hc6.ext he7) ((ht1.trans ht6).ext he7) 2 s ?_ ?_⟩
    · rw [hs]; exact ok_num a
    · rw [size_bs, hs]; have := decL_len a (by omega); omega
  · refine Called.of (c30 hc1 50 (by decide) (by decide)) ?_
    rintro v w8 ⟨⟨a, rfl, ha⟩, hc8, ht8⟩
    refine ⟨_, rfl, Called.of (c44 a (by omega) w8) ?_⟩
    rintro v w9 ⟨⟨s1, rfl, hs1⟩, he9⟩
    have hl1 : s1.size ≤ 7 := by rw [size_bs, hs1]; exact decL_len a (by omega)
    refine ⟨_, rfl, by omega, Called.of (c30 (hc8.ext he9) 100 (by decide) (by decide)) ?_⟩
    rintro v w10 ⟨⟨b, rfl, hb⟩, hc10, ht10⟩
    refine ⟨_, rfl, Called.of (c44 b (by omega) w10) ?_⟩
    rintro v w11 ⟨⟨s2, rfl, hs2⟩, he11⟩
    have hl2 : s2.size ≤ 7 := by rw [size_bs, hs2]; exact decL_len b (by omega)
    have hz : (s1 ++ { data := #[46] } : ByteArray).size = s1.size + 1 := by rw [size_bs, bs_append, List.length_append, ← size_bs]; rfl
    have hz2 : (s1 ++ { data := #[46] } ++ s2 : ByteArray).size = s1.size + 1 + s2.size := by rw [size_bs, bs_append, List.length_append, ← size_bs, ← size_bs, hz]
    have htt : Tn cb w w11 := ((((ht1.trans ht8).ext he9).trans ht10).ext he11)
    refine ⟨_, rfl, by omega, leafRes htt.size (hc10.ext he11) htt 3 _ ?_ (by omega)⟩
    rw [bs_append, bs_append, hs1, hs2]
    exact ok_dec a b
  · refine Called.of (c30 (hc1.ext ((Ext.refl _).alloc _)) 5 (by decide) (by decide)) ?_
    rintro v w12 ⟨⟨a, rfl, ha⟩, hc12, ht12⟩
    obtain ⟨s, hs, hok, hsz⟩ := texts5 a (by omega)
    have htt : Tn cb w w12 := (ht1.ext ((Ext.refl _).alloc _)).trans ht12
    refine ⟨_, rfl, _, rfl, ⟨by omega, by omega⟩, s, ?_, leafRes htt.size hc12 htt 4 s hok hsz⟩
    rw [Int.toNat_natCast]
    exact tab_str hc1.lt ht12 hs
  · refine Called.of (c30 (hc1.ext ((Ext.refl _).alloc _)) 11 (by decide) (by decide)) ?_
    rintro v w12 ⟨⟨a, rfl, ha⟩, hc12, ht12⟩
    obtain ⟨s, hs, hok, hsz⟩ := texts11 a (by omega)
    have htt : Tn cb w w12 := (ht1.ext ((Ext.refl _).alloc _)).trans ht12
    refine ⟨_, rfl, _, rfl, ⟨by omega, by omega⟩, s, ?_, leafRes htt.size hc12 htt 1 s hok hsz⟩
    rw [Int.toNat_natCast]
    exact tab_str hc1.lt ht12 hs
theorem c31 {cb : Nat} (d : Nat) : d ≤ 4 → ∀ {w : World}, Ch cb w → Ret Tryd.prog 31 #[.pointer (some ⟨cb, 0, none⟩), .int .i64 d] w fun v w' => ItRes cb w.heap.size d w v w' := by
  induction d with
  | zero => exact fun _ w hc => c31b 0 (by omega) (fun d' h => absurd h (by omega)) hc
  | succ d ih =>
    intro hd w hc
    refine c31b (d + 1) hd (fun d' h w hc => ?_) hc
    obtain rfl : d' = d := by omega
    exact ih (by omega) hc
end Go.Proofs.Sx
