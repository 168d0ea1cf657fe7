/- Part of the proof: SxC3. -/
import Derived.Test.YtonenlplcidihaaDoorSxC2
/-! SexprConcat. -/
namespace Go.Proofs.Sx
open Go Go.V Go.Proofs Go.RowKit
set_option maxRecDepth 100000

theorem step_few {n : Nat} {st st' : St} (h : stepL n st = .ok st') : st'.out.length + st'.l.length ≤ st.out.length + st.l.length := by
  have hlt := stepL_lt h
  cases step_of h with
  | skip l h => show st.out.length + l.length ≤ _; have := hlt; simp only at this; omega
  | close t h ho => show st.out.length + t.length ≤ _; have := hlt; simp only at this; omega
  | opn t h hd => simp only [outs_len] at hlt ⊢; omega
  | str t v r h hs hd => simp only [outs_len] at hlt ⊢; omega
  | word c t h hw hk hd => simp only [outs_len] at hlt ⊢; omega
theorem parse_few {s : ByteArray} {out : List It} (h : parse s = .ok out) : out.length ≤ s.size := by
  unfold parse at h
  split at h
  · cases h
  obtain ⟨st, hp, -, -, rfl⟩ := parseL_inv (P := fun st => st.out.length + st.l.length ≤ s.size) (fun st st' hp hst => Nat.le_trans (step_few hst) hp) _ _ (Nat.le_refl _) (by rw [size_bs]; show 0 + (bs s).length ≤ _; omega) h
  omega

/-- A sequence's text is parsed. -/
theorem seqChain (T : TrimOk) {lA : Option Addr} {lN lC : Nat} {l : List Int} {w : World} (hl : l.length = lN) (hc : lN ≤ lC) (h : SlAt w lA (l.map fun n => .int .i64 n)) {Kf : Option Addr → Nat → Nat → ByteArray → World → Prop}
    (hk : ∀ A C a s w' B, parse s = .ok a → s.size ≤ 15972 → w'.ownsRow B 34 4 (.slice A a.length C) a.length (itcs a) → Ext w w' → Kf A a.length C s w') :
    Called Tryd.prog 14 #[.slice lA lN lC] w fun v w1 => ∃ p k k1, v = .slice p k k1 ∧ Called Tryd.prog 13 #[.slice p k k1] w1 fun v1 w2 => ∃ s, v1 = .string s ∧ Called Tryd.prog 16 #[.string s] w2 fun v2 w3 =>
      ∃ p1 k2 k3 n n1, v2 = .tuple #[.slice p1 k2 k3, .int .i64 n, .int .i64 n1] ∧ Kf p1 k2 k3 s w3 := by
  refine Called.of (c14 hl hc h) ?_
  rintro v w1 ⟨⟨f, A, C, hg, hd, hfl, rfl, ho⟩, he1⟩
  refine ⟨_, _, _, rfl, Called.of (fmtSeq hg hd hfl ho he1) ?_⟩
  rintro v w2 ⟨⟨s, rfl, hs, hsz⟩, he2⟩
  refine ⟨s, rfl, Called.of (c16 T s w2) ?_⟩
  rintro v w3 ⟨hr, he3⟩
  obtain ⟨out, hp, -⟩ := parse_lines hg (Nat.le_trans (edep_le f) (by omega)) hs (by omega)
  rw [ParseRes, hp] at hr
  obtain ⟨A2, C2, rfl, ho2⟩ := hr
  exact ⟨_, _, _, _, _, rfl, hk _ _ _ _ _ _ hp hsz ho2 (he2.trans he3)⟩
theorem seen_strip : seen false = strip := rfl
theorem src_of {w : World} {B : Nat} {A : Option Addr} {C : Nat} {a : List It} (ho : w.ownsRow B 34 4 (.slice A a.length C) a.length (itcs a)) : a.length = 0 ∨ ∃ ad, A = some ad ∧ vcells w ad 0 (itcs a) := by
  rcases Nat.eq_zero_or_pos a.length with h | h
  · exact .inl h
  · obtain ⟨ad, hA, _, hr⟩ := (own_row ho).at (j := 0) (by rw [itcs_len]; omega)
    exact .inr ⟨ad, hA, vcells_row.2 hr⟩

theorem c6 (T : TrimOk) (s t : ByteArray) {lA mA : Option Addr} {lN lC mN mC : Nat} {l m : List Int} {w : World} (hl : l.length = lN) (hc : lN ≤ lC) (h : SlAt w lA (l.map fun n => .int .i64 n))
    (hm : m.length = mN) (hmc : mN ≤ mC) (hmm : SlAt w mA (m.map fun n => .int .i64 n)) :
    Ret Tryd.prog 6 #[.string s, .string t, .slice lA lN lC, .slice mA mN mC] w fun v w' => v = .bool true ∧ Ext w w' := by
  refine run6 _ _ _ _ _ _ _ _ _ _ fun K hK => ?_
  have yes : ∀ b, b = true → K [.bool b] w := by
    intro b hb
    refine hK b ?_
    rw [hb, cond_true]
    refine Called.of (c11 T w) ?_
    rintro v w1 ⟨rfl, he⟩
    exact ⟨_, rfl, rfl, he⟩
  -- both texts are parsed
  have both : ∀ (p2 p3 : Option Addr) (c2 c3 : Nat) (a b : List It) (s1 s2 : ByteArray) (w5 : World) (B2 B3 : Nat), parse s1 = .ok a → parse s2 = .ok b → s1.size ≤ 15972 → s2.size ≤ 15972 → w5.ownsRow B2 34 4 (.slice p2 a.length c2) a.length (itcs a) →
      w5.ownsRow B3 34 4 (.slice p3 b.length c3) b.length (itcs b) → Ext w w5 →
      (s1.size + 1 ≤ 9223372036854775807 ∧
        (s1 ++ { data := #[10] : ByteArray }).size + s2.size ≤ 9223372036854775807 ∧
          Called Tryd.prog 16 #[Value.string (s1 ++ { data := #[10] : ByteArray } ++ s2)] w5 fun (v3 : Value) (w6 : World) =>
            ∃ (p4 : Option Addr) (k8 : Nat) (k9 : Nat) (n4 : Int) (n5 : Int),
              v3 = Value.tuple #[Value.slice p4 k8 k9, Value.int IntKind.i64 n4, Value.int IntKind.i64 n5] ∧
                ∀ (K3 : List Value → World → Prop),
                  (∀ (b2 : Bool) (w7 : World), (Value.bool b2 = .bool true ∧ Ext w w7) → K3 [Value.bool b2] w7) →
                    bif n5 == 0 then
                      ∃ (k10 : Nat) (vs : List Value) (vs1 : List Value),
                        AppOk w6 k10 34 4 40 none 0 0 vs p2 a.length vs1 ∧
                          ∀ (p5 : Option Addr) (k11 : Nat) (w8 : World),
                            AppRes w6 w8 k10 34 4 none 0 0 vs a.length vs1 p5 k11 →
                              ∃ (k12 : Nat) (vs2 : List Value) (vs3 : List Value),
                                AppOk w8 k12 34 4 40 p5 (0 + a.length) k11 vs2 p3 b.length vs3 ∧
                                  ∀ (p6 : Option Addr) (k13 : Nat) (w9 : World),
                                    AppRes w8 w9 k12 34 4 p5 (0 + a.length) k11 vs2 b.length vs3 p6 k13 →
                                      Called Tryd.prog 17 #[Value.slice p4 k8 k9, Value.slice p6 (0 + a.length + b.length) k13, Value.bool false] w9 fun (v4 : Value) (w10 : World) =>
                                        ∃ (b3 : Bool), v4 = Value.bool b3 ∧ bif b3 then Called Tryd.prog 11 #[] w10 fun (v5 : Value) (w11 : World) => ∃ (b4 : Bool), v5 = Value.bool b4 ∧ K3 [Value.bool b4] w11 else K3 [Value.bool false] w10
                    else K3 [Value.bool false] w6) := by
    intro p2 p3 c2 c3 a b s1 s2 w5 B2 B3 hpa hpb hz1 hz2 hoa hob he5
    have e1 : (s1 ++ { data := #[10] : ByteArray }).size = s1.size + 1 := by rw [app_size]; rfl
    have hu : bs (s1 ++ { data := #[10] : ByteArray } ++ s2) = bs s1 ++ 10 :: bs s2 := by rw [bs_append, bs_append]; simp [bs]
    obtain ⟨c, hpc, hcs⟩ := parse_concat hpa hpb (by omega) hu
    have ha := parse_few hpa
    have hb := parse_few hpb
    have hcl := parse_few hpc
    rw [app_size, e1] at hcl
    refine ⟨by omega, by omega, Called.of (c16 T _ w5) ?_⟩
    rintro v w6 ⟨hr, he6⟩
    rw [ParseRes, hpc] at hr
    obtain ⟨A3, C3, rfl, ho3⟩ := hr
    refine ⟨_, _, _, _, _, rfl, fun K3 hK3 => cond_intro (fun _ => ?_) (fun h => absurd h (by decide))⟩
    have hnil : w6.ownsRow w6.heap.size 34 4 (.slice none 0 0) 0 [] := ⟨rfl, .inl ⟨rfl, rfl⟩⟩
    refine ⟨w6.heap.size, [], itcs a, ⟨.inl hnil, itcs_len a, src_of (own_ext hoa he6), plain_itcs a, by unfold maxLen; omega, by omega, Nat.le_refl _⟩, ?_⟩
    intro p5 k11 w8 r
    have he8 : Ext w6 w8 := r.below hnil (Ext.refl w6) (Nat.le_refl _) (Nat.le_refl _)
    have hr8 := r.own
    rw [List.nil_append] at hr8
    refine ⟨w6.heap.size, itcs a, itcs b, ⟨.inl hr8, itcs_len b, src_of (own_ext (own_ext hob he6) he8), plain_itcs b, by unfold maxLen; omega, by omega, he8.size⟩, ?_⟩
    intro p6 k13 w9 r2
    have he9 : Ext w6 w9 := r2.below hr8 he8 he8.size (Nat.le_refl _)
    have hr9 := r2.own
    have e2 : 0 + a.length + b.length = (a ++ b).length := by rw [List.length_append]; omega
    rw [← itcs_app, e2] at hr9
    rw [e2]
    refine Called.of (c17 false (own_row (own_ext ho3 he9)) (own_row hr9) (by omega)) ?_
    rintro v w10 ⟨rfl, he10⟩
    have hsame : sameItems false c (a ++ b) = true := by rw [sameItems, seen_strip, decide_eq_true_eq]; exact hcs
    refine ⟨_, rfl, ?_⟩
    rw [hsame, cond_true]
    refine Called.of (c11 T w10) ?_
    rintro v w11 ⟨rfl, he11⟩
    exact ⟨_, rfl, hK3 _ _ ⟨rfl, (((he5.trans he6).trans he9).trans he10).trans he11⟩⟩
  refine cond_dec (fun _ => yes _ rfl) (fun hs2 => ?_)
  by_cases ht : (t.size : Int) > 200
  · exact yes _ (decide_eq_true ht)
  refine hK _ ?_
  rw [decide_eq_false ht, cond_false]
  refine Called.of (c16 T s w) ?_
  rintro v w2 ⟨hr2, he2⟩
  have two : ∀ w3 (v2 : Value), ParseRes t w2.heap.size v2 w3 → Ext w2 w3 → ∃ p1 k2 k3 n2 n3, v2 = .tuple #[.slice p1 k2 k3, .int .i64 n2, .int .i64 n3] ∧
      ((∃ e, parse t = .error e) ∧ n3 ≠ 0 ∨ ∃ b, parse t = .ok b ∧ n3 = 0 ∧ k2 = b.length ∧ w3.ownsRow w2.heap.size 34 4 (.slice p1 b.length k3) b.length (itcs b)) := by
    intro w3 v2 hr he
    unfold ParseRes at hr
    cases hp : parse t with
    | error e =>
      obtain ⟨p, e⟩ := e
      rw [hp] at hr
      have hcode := parse_code hp
      exact ⟨_, _, _, _, _, hr, .inl ⟨⟨_, rfl⟩, by omega⟩⟩
    | ok b =>
      rw [hp] at hr
      obtain ⟨A, C, rfl, ho⟩ := hr
      exact ⟨_, _, _, _, _, rfl, .inr ⟨b, rfl, rfl, rfl, ho⟩⟩
  have rest : ∀ w3 (p1 : Option Addr) (k2 k3 : Nat) (n3 : Int), Ext w w3 → ((∃ e, parse t = .error e) ∧ n3 ≠ 0 ∨ ∃ b, parse t = .ok b ∧ n3 = 0 ∧ k2 = b.length ∧ w3.ownsRow w2.heap.size 34 4 (.slice p1 b.length k3) b.length (itcs b)) →
      ∀ (p2 : Option Addr) (c2 : Nat) (a : List It) (s1 : ByteArray) (w4 : World) (B2 : Nat), parse s1 = .ok a → s1.size ≤ 15972 → w4.ownsRow B2 34 4 (.slice p2 a.length c2) a.length (itcs a) → Ext w3 w4 →
      ∀ (K2 : List Value → World → Prop),
        (∀ (p3 : Option Addr) (k6 k7 : Nat) (s2 : ByteArray) (w5 : World), (∃ b B3, parse s2 = .ok b ∧ k6 = b.length ∧ s2.size ≤ 15972 ∧ w5.ownsRow B3 34 4 (.slice p3 b.length k7) b.length (itcs b) ∧ Ext w4 w5) → K2 [.slice p3 k6 k7, .string s2] w5) →
        bif n3 != 0 then
          Called Tryd.prog 14 #[.slice mA mN mC] w4 fun v6 w12 => ∃ p7 k14 k15, v6 = .slice p7 k14 k15 ∧ Called Tryd.prog 13 #[.slice p7 k14 k15] w12 fun v7 w13 => ∃ s3, v7 = .string s3 ∧
            Called Tryd.prog 16 #[.string s3] w13 fun v8 w14 => ∃ p8 k16 k17 n6 n7, v8 = .tuple #[.slice p8 k16 k17, .int .i64 n6, .int .i64 n7] ∧ K2 [.slice p8 k16 k17, .string s3] w14
        else K2 [.slice p1 k2 k3, .string t] w4 := by
    intro w3 p1 k2 k3 n3 he3 hcase p2 c2 a s1 w4 B2 hpa hz1 hoa he4 K2 hK2
    rcases hcase with ⟨-, hn⟩ | ⟨b, hpb, rfl, rfl, hob⟩
    · refine cond_intro (fun _ => ?_) (fun h => absurd (by simpa using h) hn)
      refine seqChain (Kf := fun p8 k16 k17 s3 w14 => K2 [.slice p8 k16 k17, .string s3] w14) T hm hmc (hmm.ext (he3.trans he4)) ?_
      intro A C b s3 w' B hpb hz ho he
      exact hK2 _ _ _ _ _ ⟨b, B, hpb, rfl, hz, ho, he⟩
    · refine cond_intro (fun h => absurd h (by decide)) (fun _ => hK2 _ _ _ _ _ ⟨b, _, hpb, rfl, by omega, own_ext hob he4, Ext.refl _⟩)
  have first : ∃ p k k1 n n1, v = .tuple #[.slice p k k1, .int .i64 n, .int .i64 n1] ∧
      ((∃ e, parse s = .error e) ∧ n1 ≠ 0 ∨ ∃ a, parse s = .ok a ∧ n1 = 0 ∧ k = a.length ∧ w2.ownsRow w.heap.size 34 4 (.slice p a.length k1) a.length (itcs a)) := by
    unfold ParseRes at hr2
    cases hp : parse s with
    | error e =>
      obtain ⟨p, e⟩ := e
      rw [hp] at hr2
      have hcode := parse_code hp
      exact ⟨_, _, _, _, _, hr2, .inl ⟨⟨_, rfl⟩, by omega⟩⟩
    | ok a =>
      rw [hp] at hr2
      obtain ⟨A, C, rfl, ho⟩ := hr2
      exact ⟨_, _, _, _, _, rfl, .inr ⟨a, rfl, rfl, rfl, ho⟩⟩
  obtain ⟨p, k, k1, n, n1, rfl, hca⟩ := first
  refine ⟨p, k, k1, n, n1, rfl, Called.of (c16 T t w2) ?_⟩
  rintro v w3 ⟨hr3, he3⟩
  obtain ⟨p1, k2, k3, n2, n3, rfl, hcb⟩ := two w3 v hr3 he3
  refine ⟨p1, k2, k3, n2, n3, rfl, fun K1 hK1 => ?_⟩
  have he3' := he2.trans he3
  have go : ∀ (p2 : Option Addr) (c2 : Nat) (a : List It) (s1 : ByteArray) (w4 : World) (B2 : Nat), parse s1 = .ok a → s1.size ≤ 15972 → w4.ownsRow B2 34 4 (.slice p2 a.length c2) a.length (itcs a) → Ext w3 w4 → K1 [.slice p2 a.length c2, .string s1] w4 := by
    intro p2 c2 a s1 w4 B2 hpa hz1 hoa he4
    refine hK1 _ _ _ _ _ fun K2 hK2 => ?_
    refine rest w3 p1 k2 k3 n3 he3' hcb p2 c2 a s1 w4 B2 hpa hz1 hoa he4 K2 ?_
    rintro p3 k6 k7 s2 w5 ⟨b, B3, hpb, rfl, hz2, hob, he5⟩
    exact hK2 _ _ _ _ _ (both p2 p3 c2 k7 a b s1 s2 w5 B2 B3 hpa hpb hz1 hz2 (own_ext hoa he5) hob ((he3'.trans he4).trans he5))
  rcases hca with ⟨-, hn⟩ | ⟨a, hpa, rfl, rfl, hoa⟩
  · refine cond_intro (fun _ => ?_) (fun h => absurd (by simpa using h) hn)
    refine seqChain (Kf := fun p8 k16 k17 s3 w14 => K1 [.slice p8 k16 k17, .string s3] w14) T hl hc (h.ext he3') ?_
    intro A C a s3 w' B hpa hz ho he
    exact go _ _ _ _ _ _ hpa hz ho he
  · exact cond_intro (fun h => absurd h (by decide)) (fun _ => go _ _ _ _ _ _ hpa (by omega) (own_ext hoa he3) (Ext.refl _))
end Go.Proofs.Sx
