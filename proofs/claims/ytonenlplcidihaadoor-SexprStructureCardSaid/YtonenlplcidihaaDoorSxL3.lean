/- Part of the proof: SxL3. -/
import Derived.Test.YtonenlplcidihaaDoorSxL2
/-! SexprStructure. -/
namespace Go.Proofs.Sx
open Go Go.V Go.Proofs Go.RowKit
set_option maxRecDepth 100000

def muS (N : Nat) : List Value → World → Nat
  | .int _ i :: _, _ => N - (i + 1).toNat
  | _, _ => 0
theorem size3 (n : Nat) : ((n : Int).toNat * sxE.P.types[3].size) = n := by
  rw [Int.toNat_natCast]
  exact Nat.mul_one n
/-- The state of the count. -/
structure Tally (w w3 : World) (tb n : Nat) (S : List Nat) (f : Fo) (A : Option Addr) (C : Nat) (p : Option Addr) (k : Nat) : Prop where
  blk : w3.heap[tb]? = some (.cells (nats (times n S)).toArray 3 (0, 0))
  row : w3.ownsRow w.heap.size 34 4 (.slice A f.flat.length C) f.flat.length (itcs f.flat)
  rts : w3.ownsRow (tb + 1) 3 1 (.slice p (starts 0 f).length k) (starts 0 f).length (nats (starts 0 f))
  ext : Ext w w3
theorem Tally.lt {w w3 : World} {tb n : Nat} {S : List Nat} {f : Fo} {A : Option Addr} {C : Nat} {p : Option Addr} {k : Nat} (h : Tally w w3 tb n S f A C p k) : tb < w3.heap.size := (Array.getElem?_eq_some_iff.1 h.blk).1
theorem Tally.go {w w3 w4 : World} {tb n : Nat} {S : List Nat} {f : Fo} {A : Option Addr} {C : Nat} {p : Option Addr} {k : Nat} (h : Tally w w3 tb n S f A C p k) (he : Ext w3 w4) : Tally w w4 tb n S f A C p k :=
  ⟨he.blk h.blk, own_ext h.row he, own_ext h.rts he, h.ext.trans he⟩
theorem Tally.cell {w w3 : World} {tb n : Nat} {S : List Nat} {f : Fo} {A : Option Addr} {C : Nat} {p : Option Addr} {k : Nat} (h : Tally w w3 tb n S f A C p k) {y : Nat} (hy : y < n) :
    w3.cell? ((⟨tb, 0, none⟩ : Addr).add ((y : Int).toNat * 1)) = some (.int .i64 ((List.count y S : Nat) : Int)) := by
  rw [Int.toNat_natCast, Nat.mul_one, add_eq, Nat.zero_add, blk_cell h.blk]
  simp [nats, times_get hy]
theorem Tally.bump {w w3 : World} {tb n : Nat} {S : List Nat} {f : Fo} {A : Option Addr} {C : Nat} {p : Option Addr} {k : Nat} (h : Tally w w3 tb n S f A C p k) (hw : w.heap.size ≤ tb)
    (hA : ∀ g, (Value.slice A f.flat.length C).ownBlock = some g → g < tb) (y : Nat) :
    Tally w (w3.setCell ⟨tb, y, none⟩ (.int .i64 ((List.count y S + 1 : Nat) : Int))) tb n (S ++ [y]) f A C p k where
  blk := by
    rw [blk_set_eq h.blk, ← times_set]
    simp [nats, List.map_set]
  row := own_other h.row (fun e => by have := hA tb e; omega) _
  rts := own_other h.rts (fun e => by have := (own_lt h.rts tb e).1; omega) _
  ext := Below.setCell (p := ⟨tb, y, none⟩) h.ext hw _

theorem c8 (T : TrimOk) {lA : Option Addr} {lN lC : Nat} {l : List Int} {w : World} (hl : l.length = lN) (hc : lN ≤ lC) (h : SlAt w lA (l.map fun n => .int .i64 n)) :
    Ret Tryd.prog 8 #[.slice lA lN lC] w fun v w' => v = .bool true ∧ Ext w w' := by
  refine run8 _ _ _ _ _ (Called.of (c14 hl hc h) ?_)
  rintro v w1 ⟨⟨f, A, C, hg, hd, hfl, rfl, ho⟩, he1⟩
  have hed : f.edep ≤ 257 := Nat.le_trans (edep_le f) (by omega)
  refine ⟨_, _, _, rfl, ⟨by omega, by omega, by omega, by omega⟩, ?_⟩
  rw [size3, made_zero]
  generalize htb : w1.heap.size = tb
  have htw : w.heap.size ≤ tb := by rw [← htb]; exact he1.size
  have hvb : ∀ g, (Value.slice A f.flat.length C).ownBlock = some g → g < tb := fun g hg' => by rw [← htb]; exact (own_lt ho g hg').2
  have hx1 := (Ext.refl w1).alloc (.cells (nats (times f.flat.length [])).toArray 3)
  have hb1 : (w1.alloc (.cells (nats (times f.flat.length [])).toArray 3)).heap[tb]? = some (.cells (nats (times f.flat.length [])).toArray 3 (0, 0)) := by rw [← htb]; exact heap_alloc_new w1 _
  have hsz : (w1.alloc (.cells (nats (times f.flat.length [])).toArray 3)).heap.size = tb + 1 := by rw [size_alloc, htb]
  refine Called.of (c20 T (L := f.flat) (by omega) (strip_flat f) hg hed _ (own_row (own_ext ho hx1))) ?_
  rintro v w2 ⟨⟨p, k, rfl, hro⟩, he2⟩
  rw [hsz] at hro
  have hT2 : Tally w w2 tb f.flat.length [] f A C p k := ⟨he2.blk hb1, own_ext (own_ext ho hx1) he2, hro, he1.trans (hx1.trans he2)⟩
  refine ⟨_, _, _, rfl, fun vals w3 => ∃ t : Nat, vals = [.int .i64 ((t : Int) - 1)] ∧ t ≤ f.flat.length + 1 ∧ Tally w w3 tb f.flat.length ((starts 0 f :: allKids 0 f).take t).flatten f A C p k, muS (f.flat.length + 1),
    ⟨0, rfl, Nat.zero_le _, hT2⟩, ?_⟩
  rintro n w3 ⟨t, hv, ht, hT3⟩
  cases hv
  have hsl := starts_len f 0
  have hcl := f.cnt_le
  refine cond_dec (fun hlt => ?_) (fun hge => ?_)
  · intro K hK
    -- one list of indices
    have inner : ∀ (p2 : Option Addr) (k5 : Nat) (ks : List Nat) (w4 : World), (starts 0 f :: allKids 0 f)[t]? = some ks → (∀ y ∈ ks, (t : Int) - 1 < y ∧ y < f.flat.length) →
        w4.ownsRow (tb + 1) 3 1 (.slice p2 ks.length k5) ks.length (nats ks) → Tally w w4 tb f.flat.length ((starts 0 f :: allKids 0 f).take t).flatten f A C p k → ks.length ≤ 363 → K [.slice p2 ks.length k5] w4 := by
      intro p2 k5 ks w4 hks hky hko hT4 hkl
      have e5 : ((starts 0 f :: allKids 0 f).take (t + 1)).flatten = ((starts 0 f :: allKids 0 f).take t).flatten ++ ks := by
        rw [List.take_add_one, hks, List.flatten_append]
        show _ ++ [ks].flatten = _
        rw [List.flatten_cons, List.flatten_nil, List.append_nil]
      refine hK _ _ _ _ ?_
      refine ⟨fun vals w5 => ∃ j : Nat, vals = [.int .i64 j] ∧ j ≤ ks.length ∧ w5.ownsRow (tb + 1) 3 1 (.slice p2 ks.length k5) ks.length (nats ks) ∧ Tally w w5 tb f.flat.length (((starts 0 f :: allKids 0 f).take t).flatten ++ ks.take j) f A C p k, mu1 ks.length,
        ⟨0, rfl, Nat.zero_le _, hko, by rw [List.take_zero, List.append_nil]; exact hT4⟩, ?_⟩
      rintro n1 w5 ⟨j, hv2, hj, hko5, hT5⟩
      cases hv2
      refine cond_dec (fun hlt2 => ?_) (fun hge2 => ?_)
      · intro K1 hK1
        have hjl : j < ks.length := by omega
        obtain ⟨y, hy⟩ : ∃ y, ks[j]? = some y := ⟨_, List.getElem?_eq_getElem hjl⟩
        obtain ⟨hy1, hy2⟩ := hky y (List.mem_of_getElem? hy)
        obtain ⟨ad, rfl, hcell⟩ := nats_at hko5 hy
        have hcell' : w5.cell? (ad.add ((j : Int).toNat * 1)) = some (.int .i64 y) := by rw [Int.toNat_natCast]; exact hcell
        have main : ∀ b, b = false → K1 [.bool b] w5 := by
          intro b hb
          refine hK1 b ?_
          rw [hb, cond_false]
          have hadr : (⟨tb, 0, none⟩ : Addr).add ((y : Int).toNat * 1) = ⟨tb, y, none⟩ := by rw [Int.toNat_natCast, Nat.mul_one, add_eq, Nat.zero_add]
          have hc2 := hT5.cell hy2
          refine ⟨ad, rfl, ⟨by omega, hlt2⟩, _, hcell', _, rfl, ⟨by omega, by omega⟩, _, hc2, _, rfl, ⟨by omega, by omega⟩, ⟨⟨_, hc2⟩, by rw [hadr]; exact blk_free hT5.blk⟩, ?_⟩
          have hcnt : List.count y (((starts 0 f :: allKids 0 f).take t).flatten ++ ks.take j) ≤ 1 := by
            have h1 := count_one f 0 y
            have h2 : List.count y ((starts 0 f :: allKids 0 f)).flatten ≤ 1 := by
              rw [List.flatten_cons, List.count_append, h1]
              unfold one
              split <;> omega
            have h3 : (((starts 0 f :: allKids 0 f).take t).flatten ++ ks.take j).Sublist (starts 0 f :: allKids 0 f).flatten := by
              have h4 : (((starts 0 f :: allKids 0 f).take t).flatten ++ ks).Sublist (starts 0 f :: allKids 0 f).flatten := by
                rw [← e5]
                conv => rhs; rw [← List.take_append_drop (t + 1) (starts 0 f :: allKids 0 f), List.flatten_append]
                exact List.sublist_append_left _ _
              exact ((List.Sublist.refl _).append (List.take_sublist j ks)).trans h4
            exact Nat.le_trans (h3.count_le y) h2
          rw [hadr, wrap_succ (by omega), wrap_succ (by omega)]
          refine ⟨⟨j + 1, rfl, hjl, own_other hko5 (fun e => by have := (own_lt hko5 tb e).1; omega) _, ?_⟩, ?_⟩
          · have := hT5.bump htw hvb y
            rw [List.append_assoc] at this
            rw [List.take_add_one, hy]
            exact this
          · simp only [mu1, Int.toNat_natCast]; omega
        refine ⟨ad, rfl, ⟨by omega, hlt2⟩, _, hcell', cond_dec (fun h => absurd h (by omega)) (fun _ => ⟨ad, rfl, ⟨by omega, hlt2⟩, _, hcell', main _ (decide_eq_false (by omega))⟩)⟩
      · have e1 : IntKind.i64.wrap ((t : Int) - 1 + 1) = ((t + 1 : Nat) : Int) - 1 := by rw [wrap64_in (by omega) (by omega)]; omega
        rw [e1]
        refine ⟨⟨t + 1, rfl, by omega, ?_⟩, ?_⟩
        · rw [List.take_of_length_le (l := ks) (i := j) (by omega)] at hT5
          rw [e5]
          exact hT5
        · simp only [muS]; omega
    refine cond_dec (fun hpos => ?_) (fun hneg => ?_)
    · obtain ⟨i, rfl⟩ : ∃ i, t = i + 1 := ⟨t - 1, by omega⟩
      have ei : ((i + 1 : Nat) : Int) - 1 = (i : Int) := by omega
      have hil : i < f.flat.length := by omega
      obtain ⟨g, hg0, hhere, hget, hgl⟩ := allKids_get (L := f.flat) f (j := 0) ⟨[], by rw [List.drop_zero, strip_flat, List.append_nil]⟩ hil
      rw [Nat.zero_add] at hhere hget hgl
      obtain ⟨y, hy, hyf⟩ := hhere.get hg0
      have hky : y.kids = (g.sub.cnt : Int) := by rw [← Fo.hd_kids, ← hyf]; rfl
      have hsub := Fo.hlen_sub hg0
      rw [ei] at inner ⊢
      refine Called.of (c21 T (L := f.flat) (by omega) (strip_flat f) hg hed hg0 hhere w3 (own_row hT3.row)) ?_
      rintro v w6 ⟨⟨p3, k7, rfl, hko⟩, he6⟩
      obtain ⟨ad, rfl, -, -, hc6⟩ := sl_item ((own_row hT3.row).ext he6) hy
      refine ⟨_, _, _, rfl, ad, rfl, ⟨by omega, by omega⟩, _, by rw [Int.toNat_natCast]; exact hc6, ?_⟩
      have hsl2 := starts_len g.sub (i + 1)
      have hscl := g.sub.cnt_le
      refine cond_intro (fun hne => ?_) (fun _ => ?_)
      · have hne' : ¬ (((starts (i + 1) g.sub).length : Nat) : Int) = y.kids := by simpa using hne
        omega
      · refine inner _ _ _ _ ?_ ?_ (own_base hko (by have := hT3.lt; omega)) (hT3.go he6) (by omega)
        · rw [List.getElem?_cons_succ]; exact hget
        · intro z hz
          have := starts_bd _ _ z hz
          omega
    · have ht0 : t = 0 := by omega
      subst ht0
      refine inner _ _ _ _ rfl ?_ hT3.rts hT3 (by omega)
      intro z hz
      have := starts_bd _ _ z hz
      omega
  · have htl : t = f.flat.length + 1 := by omega
    have hS : ((starts 0 f :: allKids 0 f).take t).flatten = starts 0 f ++ (allKids 0 f).flatten := by
      rw [List.take_of_length_le (by rw [List.length_cons, allKids_len]; omega), List.flatten_cons]
    rw [hS] at hT3
    refine ⟨fun vals w7 => ∃ x : Nat, vals = [.int .i64 x] ∧ x ≤ f.flat.length ∧ w7 = w3, mu1 f.flat.length, ⟨0, rfl, Nat.zero_le _, rfl⟩, ?_⟩
    rintro n7 w7 ⟨x, hv2, hx, rfl⟩
    cases hv2
    refine cond_dec (fun hlt2 => ?_) (fun hge2 => ?_)
    · have hxl : x < f.flat.length := by omega
      have h1 := count_one f 0 x
      have h2 : List.count x (starts 0 f ++ (allKids 0 f).flatten) = 1 := by
        rw [List.count_append, h1]; unfold one; rw [if_pos (by omega)]
      have hc7 := hT3.cell hxl
      rw [h2] at hc7
      refine ⟨_, rfl, ⟨by omega, by omega⟩, _, hc7, cond_intro (fun h => absurd h (by decide)) (fun _ => ?_)⟩
      rw [wrap_succ (by omega)]
      refine ⟨⟨x + 1, rfl, hxl, rfl⟩, ?_⟩
      simp only [mu1, Int.toNat_natCast]; omega
    · refine Called.of (c11 T w7) ?_
      rintro v w8 ⟨rfl, he8⟩
      exact ⟨_, rfl, rfl, hT3.ext.trans he8⟩
end Go.Proofs.Sx
