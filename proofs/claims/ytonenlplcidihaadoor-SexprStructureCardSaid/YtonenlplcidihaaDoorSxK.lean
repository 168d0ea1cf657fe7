/- Part of the proof: SxK. -/
import Derived.Test.YtonenlplcidihaaDoorSxC3
/-! Valid on the items of a forest; SexprDepth. -/
namespace Go.Proofs.Sx
open Go Go.V Go.Proofs Go.RowKit
set_option maxRecDepth 100000

theorem validGo_strip : ∀ (L : List It) (st : List Int), validGo st (L.map strip) = validGo st L
  | [], _ => rfl
  | x :: L, st => by
    rw [List.map_cons, validGo, validGo, okItem_strip, show pushK (decTop (popZ st)) (strip x) = pushK (decTop (popZ st)) x from rfl, validGo_strip L]
theorem validGo_zero (st : List Int) (L : List It) : validGo (0 :: st) L = validGo st L := by
  cases L with
  | nil => simp [validGo]
  | cons x L =>
    have : popZ (0 :: st) = popZ st := rfl
    rw [validGo, validGo, this]
theorem okItem_leaf {k : Int} {t : ByteArray} (h : okLeaf k (bs t) = true) : okItem ⟨k, t, 0, 0⟩ = true ∧ k ≠ 5 := by
  have h5 : k ≠ 5 := by
    intro e; subst e; simp [okLeaf] at h
  refine ⟨?_, h5⟩
  unfold okItem
  rw [if_neg h5]
  show (decide ((0 : Int) = 0) && okLeaf k (bs t)) = true
  rw [h]; rfl
theorem okItem_list (n : Nat) : okItem ⟨5, mk [], n, 0⟩ = true := by
  unfold okItem
  rw [if_pos rfl]
  show (decide ((0 : Int) ≤ (n : Int)) && decide (bs (mk []) = [])) = true
  rw [decide_eq_true (by omega), decide_eq_true (bs_mk [])]; rfl
theorem valid_fo : ∀ (f : Fo), f.good → ∀ (m : Nat) (st : List Int) (rest : List It), st.length + 1 + f.edep ≤ 257 → validGo (((m + f.cnt : Nat) : Int) :: st) (f.flat ++ rest) = validGo ((m : Int) :: st) rest
  | .nil, _, m, st, rest, _ => rfl
  | .leaf k t f, hg, m, st, rest, hd => by
    have hd1 : st.length + 1 + 1 ≤ 257 := by have : 1 ≤ (Fo.leaf k t f).edep := Nat.le_max_left _ _; omega
    have hd2 : st.length + 1 + f.edep ≤ 257 := by have : f.edep ≤ (Fo.leaf k t f).edep := Nat.le_max_right _ _; omega
    obtain ⟨ho, h5⟩ := okItem_leaf hg.1
    have hp : popZ (((m + (f.cnt + 1) : Nat) : Int) :: st) = ((m + (f.cnt + 1) : Nat) : Int) :: st := by
      unfold popZ
      rw [List.dropWhile_cons, if_neg (by simp only [beq_iff_eq]; omega)]
    show validGo (((m + (f.cnt + 1) : Nat) : Int) :: st) (⟨k, t, 0, 0⟩ :: (f.flat ++ rest)) = _
    rw [validGo, hp, if_neg (by simp only [List.length_cons]; omega), if_pos ho, pushK, if_neg h5, decTop]
    rw [show ((m + (f.cnt + 1) : Nat) : Int) - 1 = ((m + f.cnt : Nat) : Int) by omega]
    exact valid_fo f hg.2.2 m st rest hd2
  | .list c f, hg, m, st, rest, hd => by
    have hd1 : st.length + 1 + (c.edep + 1) ≤ 257 := by have : c.edep + 1 ≤ (Fo.list c f).edep := Nat.le_max_left _ _; omega
    have hd2 : st.length + 1 + f.edep ≤ 257 := by have : f.edep ≤ (Fo.list c f).edep := Nat.le_max_right _ _; omega
    have hp : popZ (((m + (f.cnt + 1) : Nat) : Int) :: st) = ((m + (f.cnt + 1) : Nat) : Int) :: st := by
      unfold popZ
      rw [List.dropWhile_cons, if_neg (by simp only [beq_iff_eq]; omega)]
    show validGo (((m + (f.cnt + 1) : Nat) : Int) :: st) (⟨5, mk [], (c.cnt : Int), 0⟩ :: (c.flat ++ f.flat ++ rest)) = _
    rw [validGo, hp, if_neg (by simp only [List.length_cons]; omega), if_pos (okItem_list _), pushK, if_pos rfl, decTop, List.append_assoc]
    rw [show ((m + (f.cnt + 1) : Nat) : Int) - 1 = ((m + f.cnt : Nat) : Int) by omega]
    have h1 := valid_fo c hg.1 0 (((m + f.cnt : Nat) : Int) :: st) (f.flat ++ rest) (by simp only [List.length_cons]; omega)
    rw [Nat.zero_add] at h1
    rw [show (⟨5, mk [], (c.cnt : Int), 0⟩ : It).kids = (c.cnt : Int) from rfl, h1]
    rw [show ((0 : Nat) : Int) = 0 from rfl, validGo_zero]
    exact valid_fo f hg.2 m st rest hd2
theorem valid_top : ∀ (f : Fo), f.good → ∀ (rest : List It), f.edep ≤ 257 → validGo [] (f.flat ++ rest) = validGo [] rest
  | .nil, _, rest, _ => rfl
  | .leaf k t f, hg, rest, hd => by
    obtain ⟨ho, h5⟩ := okItem_leaf hg.1
    show validGo [] (⟨k, t, 0, 0⟩ :: (f.flat ++ rest)) = _
    rw [validGo, if_neg (by decide), if_pos ho, pushK, if_neg h5]
    exact valid_top f hg.2.2 rest (Nat.le_trans (Nat.le_max_right _ _) hd)
  | .list c f, hg, rest, hd => by
    have hd1 : c.edep + 1 ≤ 257 := Nat.le_trans (Nat.le_max_left _ _) hd
    show validGo [] (⟨5, mk [], (c.cnt : Int), 0⟩ :: (c.flat ++ f.flat ++ rest)) = _
    rw [validGo, if_neg (by decide), if_pos (okItem_list _), pushK, if_pos rfl, List.append_assoc]
    have h1 := valid_fo c hg.1 0 [] (f.flat ++ rest) (by simp only [List.length_nil]; omega)
    rw [Nat.zero_add] at h1
    rw [show decTop (popZ []) = [] from rfl, show (⟨5, mk [], (c.cnt : Int), 0⟩ : It).kids = (c.cnt : Int) from rfl, h1]
    rw [show ((0 : Nat) : Int) = 0 from rfl, validGo_zero]
    exact valid_top f hg.2 rest (Nat.le_trans (Nat.le_max_right _ _) hd)
theorem valid_flat {f : Fo} (hg : f.good) (hd : f.edep ≤ 257) {L : List It} (hL : L.map strip = f.flat) : validGo [] L = true := by
  rw [← validGo_strip, hL, ← List.append_nil f.flat, valid_top f hg [] hd]; rfl

/-- Lists in lists. -/
def nest : Nat → Fo
  | 0 => .nil
  | k + 1 => .list (nest k) .nil
theorem nest_good : ∀ k, (nest k).good
  | 0 => trivial
  | k + 1 => ⟨nest_good k, trivial⟩
theorem nest_edep : ∀ k, (nest k).edep = k
  | 0 => rfl
  | k + 1 => by show max ((nest k).edep + 1) 0 = _; rw [nest_edep k]; omega
theorem nest_len : ∀ k, (nest k).flat.length = k
  | 0 => rfl
  | k + 1 => by show ((nest k).flat ++ []).length + 1 = _; rw [List.append_nil, nest_len k]
theorem nest_text : ∀ k, (nest k).more.tail = List.replicate k 40 ++ List.replicate k 41
  | 0 => rfl
  | k + 1 => by
    have e : (nest (k + 1)).more.tail = 40 :: ((nest k).more.tail ++ [41]) := by simp [nest, Fo.more]
    rw [e, nest_text k, List.replicate_succ, List.cons_append, List.append_assoc, ← List.replicate_succ']
theorem parse_nest {k : Nat} (hk : k ≤ 257) {s : ByteArray} (hs : bs s = List.replicate k 40 ++ List.replicate k 41) : ∃ out, parse s = .ok out ∧ out.map strip = (nest k).flat := by
  obtain ⟨o, hr, ho⟩ := read_fo s.size (nest k) (nest_good k) [] [] [] (fun c t e => by cases e) (fun j hj => (List.not_mem_nil hj).elim) (by rw [nest_edep]; simp only [List.length_nil]; omega)
  rw [nest_text, List.append_nil] at hr
  have hz : s.size = k + k := by rw [size_bs, hs, List.length_append, List.length_replicate, List.length_replicate]
  refine ⟨o, ?_, by simpa [addK] using ho⟩
  unfold parse
  rw [if_neg (by omega), hs, hr.parse, parseL_nil rfl]
  rfl
theorem opens (n : Nat) : ∀ (a : Nat) (out : List It) (opn : List Nat) (r : List UInt8), opn.length + a ≤ 257 → ∃ out' opn', Reach n ⟨List.replicate a 40 ++ r, out, opn⟩ ⟨r, out', opn'⟩ ∧ opn'.length = opn.length + a
  | 0, out, opn, r, _ => ⟨out, opn, .refl _, rfl⟩
  | a + 1, out, opn, r, h => by
    have h1 := st_open n (List.replicate a 40 ++ r) out opn (by omega)
    obtain ⟨o2, p2, hr, hl⟩ := opens n a (outsOf out opn ⟨5, mk [], 0, ((n - ((List.replicate a 40 ++ r).length + 1) : Nat) : Int)⟩) (opn ++ [out.length]) r (by simp only [List.length_append, List.length_cons, List.length_nil]; omega)
    refine ⟨o2, p2, ?_, by rw [hl]; simp only [List.length_append, List.length_cons, List.length_nil]; omega⟩
    rw [List.replicate_succ, List.cons_append]
    exact .step h1 hr
theorem parse_deep {k : Nat} (hk : 257 < k) (hk2 : k < 1000) {s : ByteArray} (hs : bs s = List.replicate k 40 ++ List.replicate k 41) : parse s = .error (257, 6) := by
  have hz : s.size = k + k := by rw [size_bs, hs, List.length_append, List.length_replicate, List.length_replicate]
  obtain ⟨o, p, hr, hl⟩ := opens s.size 257 [] [] (List.replicate (k - 257) 40 ++ List.replicate k 41) (by simp only [List.length_nil]; omega)
  have e : List.replicate 257 (40 : UInt8) ++ (List.replicate (k - 257) 40 ++ List.replicate k 41) = bs s := by
    rw [hs, ← List.append_assoc, List.replicate_append_replicate]
    congr 2
    omega
  rw [e] at hr
  unfold parse
  rw [if_neg (by omega), hr.parse]
  obtain ⟨m, hm⟩ : ∃ m, k - 257 = m + 1 := ⟨k - 258, by omega⟩
  rw [hm, List.replicate_succ, List.cons_append]
  have hd := st_deep s.size (List.replicate m 40 ++ List.replicate k 41) o p (by rw [hl]; simp only [List.length_nil]; omega)
  rw [parseL_err (by simp) hd]
  congr 2
  rw [List.length_append, List.length_replicate, List.length_replicate]
  omega

theorem bs_size_rep {s : ByteArray} {j : Nat} {c : UInt8} (h : bs s = List.replicate j c) : s.size = j := by rw [size_bs, h, List.length_replicate]
theorem c7 (T : TrimOk) (n : Int) (w : World) : Ret Tryd.prog 7 #[.int .i64 n] w fun v w' => v = .bool true ∧ Ext w w' := by
  refine run7 _ _ _ (Called.of (c18 n 12 (by omega) (by omega) w) ?_)
  rintro v w1 ⟨⟨m, rfl, hm⟩, rfl⟩
  have ek : IntKind.i64.wrap (IntKind.i64.wrap ((m : Int) + 256) - 4) = ((m + 252 : Nat) : Int) := by
    rw [wrap64_in (n := (m : Int) + 256) (by omega) (by omega), wrap64_in (by omega) (by omega)]; omega
  refine ⟨_, rfl, fun vals w2 => ∃ (j : Nat) (s t : ByteArray), vals = [.int .i64 j, .string s, .string t] ∧ j ≤ m + 252 ∧ bs s = List.replicate j 41 ∧ bs t = List.replicate j 40 ∧ w2 = w1, mu1 (m + 252),
    ⟨0, _, _, rfl, Nat.zero_le _, rfl, rfl, rfl⟩, ?_⟩
  rintro n2 s t w2 ⟨j, s', t', hv, hj, hs, ht, rfl⟩
  cases hv
  have hzs := bs_size_rep hs
  have hzt := bs_size_rep ht
  rw [ek]
  refine cond_dec (fun hlt => ?_) (fun hge => ?_)
  · rw [wrap_succ (by omega)]
    refine ⟨by omega, by omega, ⟨j + 1, _, _, rfl, by omega, ?_, ?_, rfl⟩, ?_⟩
    · rw [bs_append, hs, List.replicate_succ']; rfl
    · rw [bs_append, ht, List.replicate_succ']; rfl
    · simp only [mu1, Int.toNat_natCast]; omega
  · have hjk : j = m + 252 := by omega
    subst hjk
    have hu : bs (t ++ s) = List.replicate (m + 252) 40 ++ List.replicate (m + 252) 41 := by rw [bs_append, hs, ht]
    refine ⟨by omega, Called.of (c16 T _ w2) ?_⟩
    rintro v w3 ⟨hr, he3⟩
    by_cases hk : m + 252 ≤ 257
    · obtain ⟨out, hp, ho⟩ := parse_nest hk hu
      rw [ParseRes, hp] at hr
      obtain ⟨A, C, rfl, hown⟩ := hr
      have hl : out.length = m + 252 := by
        have := congrArg List.length ho
        rw [List.length_map, nest_len] at this
        exact this
      refine ⟨_, _, _, _, _, rfl, cond_dec (fun _ K hK => cond_intro (fun _ => cond_intro (fun _ => ?_) (fun h => ?_)) (fun h => absurd h (by decide))) (fun h => absurd (by omega) h)⟩
      · have hx : ∀ x ∈ out, x.text.size < 4294967281 ∧ x.kids ≤ 9223372036854775807 := by
          have hall : ∀ k, ∀ x ∈ (nest k).flat, x.text.size = 0 ∧ x.kids ≤ 1 := by
            intro k
            induction k with
            | zero => intro x hx; cases hx
            | succ k ih =>
              intro x hx
              have hx' : x ∈ (⟨5, mk [], ((nest k).cnt : Int), 0⟩ : It) :: ((nest k).flat ++ []) := hx
              rcases List.mem_cons.1 hx' with rfl | hx'
              · refine ⟨rfl, ?_⟩
                show ((nest k).cnt : Int) ≤ 1
                cases k with
                | zero => show ((0 : Nat) : Int) ≤ 1; omega
                | succ k => show ((0 + 1 : Nat) : Int) ≤ 1; omega
              · rw [List.append_nil] at hx'
                exact ih x hx'
          intro x hx
          have : strip x ∈ (nest (m + 252)).flat := by rw [← ho]; exact List.mem_map_of_mem hx
          obtain ⟨h1, h2⟩ := hall _ _ this
          have h1' : x.text.size = 0 := h1
          have h2' : x.kids ≤ 1 := h2
          omega
        refine Called.of (c19 T (by omega) hx w3 (own_row hown)) ?_
        rintro v w5 ⟨rfl, he5⟩
        have hv := valid_flat (nest_good (m + 252)) (by rw [nest_edep]; exact hk) ho
        refine ⟨_, rfl, ?_⟩
        rw [hv, cond_true]
        refine Called.of (c11 T w5) ?_
        rintro v w6 ⟨rfl, he6⟩
        exact ⟨_, rfl, hK _ _ ⟨rfl, (he3.trans he5).trans he6⟩⟩
      · have h' : ¬ (out.length : Int) = ((m + 252 : Nat) : Int) := by simpa using h
        omega
    · have hp := parse_deep (by omega) (by omega) hu
      rw [ParseRes, hp] at hr
      have hr' : v = .tuple #[.slice none 0 0, .int .i64 (257 : Nat), .int .i64 6] := hr
      subst hr'
      refine ⟨_, _, _, _, _, rfl, cond_dec (fun h => absurd h (by omega)) (fun _ K1 hK1 => cond_intro (fun _ => cond_intro (fun _ => ?_) (fun h => absurd h (by decide))) (fun h => absurd h (by decide)))⟩
      refine Called.of (c11 T w3) ?_
      rintro v w8 ⟨rfl, he8⟩
      exact ⟨_, rfl, hK1 _ _ ⟨rfl, he3.trans he8⟩⟩
end Go.Proofs.Sx
