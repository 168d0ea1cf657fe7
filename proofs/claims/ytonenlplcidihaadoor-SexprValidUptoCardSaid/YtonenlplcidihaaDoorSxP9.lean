/- Part of the proof: SxP9. -/
import Derived.Test.YtonenlplcidihaaDoorSxP8
/-! awake, parses, SexprParse. -/
namespace Go.Proofs.Sx
open Go Go.V Go.Proofs Go.RowKit
set_option maxRecDepth 100000

def runF (n : Nat) : Nat → St → Option (Except (Nat × Int) (List It))
  | 0, _ => none
  | f + 1, st => match st.l with
    | [] => some (if st.opn = [] then .ok st.out else .error (n, 2))
    | _ => match stepL n st with
      | .error e => some (.error e)
      | .ok st' => runF n f st'
theorem runF_eq {n : Nat} {r : Except (Nat × Int) (List It)} : ∀ {f : Nat} {st : St}, runF n f st = some r → parseL n st = r
  | 0, st, h => by cases h
  | f + 1, st, h => by
    unfold runF at h
    split at h
    · rename_i hl
      cases h
      exact parseL_nil hl
    · rename_i hl
      split at h
      · rename_i e he
        cases h
        exact parseL_err (fun hn => hl hn) he
      · rename_i st' he
        rw [parseL_ok he]
        exact runF_eq h
theorem parse_1 : parse { data := #[40, 102, 32, 49, 32, 50, 46, 53, 48, 41, 32, 59, 32, 120] } = .ok [⟨5, mk [], 3, 0⟩, ⟨1, mk [102], 0, 1⟩, ⟨2, mk [49], 0, 3⟩, ⟨3, mk [50, 46, 53, 48], 0, 5⟩] := by
  rw [parse_small (by decide)]
  refine runF_eq (f := 20) ?_
  rfl
theorem parse_2 : parse { data := #[40, 97, 41, 41] } = .error (3, 2) := by
  rw [parse_small (by decide)]
  refine runF_eq (f := 20) ?_
  rfl

theorem c11 (T : TrimOk) (w : World) : Ret Tryd.prog 11 #[] w fun v w' => v = .bool true ∧ Ext w w' := by
  refine run11 _ _ (Called.of (c16 T _ w) ?_)
  rintro v w1 ⟨h1, he1⟩
  rw [ParseRes, parse_1] at h1
  obtain ⟨A, C, rfl, ho⟩ := h1
  refine ⟨_, _, _, _, _, rfl, Called.of (c16 T _ w1) ?_⟩
  rintro v w2 ⟨h2, he2⟩
  rw [ParseRes, parse_2] at h2
  have h2' : v = .tuple #[.slice none 0 0, .int .i64 3, .int .i64 2] := h2
  subst h2'
  refine ⟨_, _, _, _, _, rfl, fun K hK => ?_⟩
  have ho2 := own_ext ho he2
  obtain ⟨g, rfl, hg, -, -⟩ := own_some ho2 (by decide)
  have cell : ∀ j v, (itcs [⟨5, mk [], 3, 0⟩, ⟨1, mk [102], 0, 1⟩, ⟨2, mk [49], 0, 3⟩, ⟨3, mk [50, 46, 53, 48], 0, 5⟩])[j]? = some v → w2.cell? ((⟨g, 0, none⟩ : Addr).add j) = some v := World.ownsRow.cells ho2 hg
  have hlt : (0 : Int) ≤ 3 ∧ (3 : Int) < ((4 : Nat) : Int) := ⟨by omega, by omega⟩
  have h0 : (0 : Int) ≤ 0 ∧ (0 : Int) < ((4 : Nat) : Int) := ⟨by omega, by omega⟩
  refine cond_intro (fun _ => cond_intro (fun _ => ?_) (fun h => absurd h (by decide))) (fun h => absurd h (by decide))
  refine ⟨_, rfl, h0, 3, cell 2 _ rfl, cond_intro (fun _ => ?_) (fun h => absurd h (by decide))⟩
  refine ⟨_, rfl, hlt, 3, cell 12 _ rfl, cond_intro (fun _ => ?_) (fun h => absurd h (by decide))⟩
  refine ⟨_, rfl, hlt, mk [50, 46, 53, 48], cell 13 _ rfl, ?_⟩
  rw [beq_bytes]
  refine cond_intro (fun _ => ?_) (fun h => absurd h (by decide))
  refine ⟨_, rfl, hlt, 5, cell 15 _ rfl, ?_⟩
  exact hK _ ⟨rfl, he1.trans he2⟩

theorem sl_of_own {w : World} {B e size n : Nat} {a : Option Addr} {c : Nat} {xs : List Value} (h : w.ownsRow B e size (.slice a n c) n xs) : SlAt w a xs := own_row h
theorem same_refl (pos : Bool) (l : List It) : sameItems pos l l = true := by simp [sameItems]

theorem c12 (T : TrimOk) (s : ByteArray) (w : World) : Ret Tryd.prog 12 #[.string s] w fun v w' => v = .bool true ∧ Ext w w' := by
  refine run12 _ _ _ (Called.of (c16 T s w) ?_)
  rintro v w1 ⟨h1, he1⟩
  have two := fun (w1 : World) => c27 s w1
  unfold ParseRes at h1
  cases hp : parse s with
  | error e =>
    obtain ⟨p, e⟩ := e
    rw [hp] at h1
    have h1' : v = .tuple #[.slice none 0 0, .int .i64 p, .int .i64 e] := h1
    subst h1'
    refine ⟨_, _, _, _, _, rfl, Called.of (two w1) ?_⟩
    rintro v w2 ⟨h2, he2⟩
    rw [ParseRes, hp] at h2
    have h2' : v = .tuple #[.slice none 0 0, .int .i64 p, .int .i64 e] := h2
    subst h2'
    refine ⟨_, _, _, _, _, rfl, fun K hK => cond_intro (fun _ => ?_) (fun h => absurd h (by simp))⟩
    refine Called.of (c17 (la := []) (lb := []) true (.inl rfl) (.inl rfl) (by decide)) ?_
    rintro v w3 ⟨rfl, he3⟩
    exact ⟨_, rfl, hK _ _ ⟨rfl, (he1.trans he2).trans he3⟩⟩
  | ok outs =>
    rw [hp] at h1
    obtain ⟨A, C, rfl, ho⟩ := h1
    refine ⟨_, _, _, _, _, rfl, Called.of (two w1) ?_⟩
    rintro v w2 ⟨h2, he2⟩
    rw [ParseRes, hp] at h2
    obtain ⟨A2, C2, rfl, ho2⟩ := h2
    refine ⟨_, _, _, _, _, rfl, fun K hK => cond_intro (fun _ => ?_) (fun h => absurd h (by simp))⟩
    have hlen : outs.length ≤ 9223372036854775807 := by
      rcases ho.2 with ⟨_, h0⟩ | ⟨g, cap, cur, _, _, _, hnc, hm, _⟩
      · omega
      · unfold maxLen at hm; omega
    refine Called.of (c17 true (sl_of_own (own_ext ho he2)) (sl_of_own ho2) hlen) ?_
    rintro v w3 ⟨rfl, he3⟩
    refine ⟨_, rfl, hK _ _ ⟨?_, (he1.trans he2).trans he3⟩⟩
    rw [same_refl]

theorem c3 (T : TrimOk) (s : ByteArray) (w : World) : Ret Tryd.prog 3 #[.string s] w fun v w' => v = .bool true ∧ Ext w w' := by
  refine run3 _ _ _ fun K hK => cond_dec (fun hbig => ?_) (fun hbig => ?_)
  · refine Called.of (c11 T w) ?_
    rintro v w2 ⟨rfl, he⟩
    exact ⟨_, rfl, hK _ _ ⟨rfl, he⟩⟩
  · refine cond_dec (fun _ => Called.of (c12 T s w) ?_) (fun h => absurd (by omega) h)
    rintro v w2 ⟨rfl, he⟩
    refine ⟨_, rfl, cond_intro (fun _ => Called.of (c11 T w2) ?_) (fun h => by cases h)⟩
    rintro v w3 ⟨rfl, he3⟩
    exact ⟨_, rfl, hK _ _ ⟨rfl, he.trans he3⟩⟩
end Go.Proofs.Sx
