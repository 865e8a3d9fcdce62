/- The parser with what was read so far. -/
import Derived.Test.YtidffjlpldalpaaGreatDoorP18
set_option linter.unusedVariables false
set_option linter.unusedSimpArgs false
namespace Go.Proofs.YtidffjlpldalpaaGreatDoor
open Go Go.RowKit

def kFuns (main : Int) (ts : List ByteArray) (fs : List FunS) (m : Nat) (l : List Int) : Option ProgS :=
  match pFuns m l with
  | none => none
  | some (fs', l5) => if l5 = [] then some ⟨fs ++ fs', ts, main⟩ else none
def kNf (main : Int) (ts : List ByteArray) (l : List Int) : Option ProgS :=
  match readC l with
  | none => none
  | some (nf, l4) => kFuns main ts [] nf l4
def kTexts (main : Int) (ts : List ByteArray) (m : Nat) (l : List Int) : Option ProgS :=
  match pTexts m l with
  | none => none
  | some (ts', l3) => kNf main (ts ++ ts') l3
def kCode (main : Int) (ts : List ByteArray) (fs : List FunS) (mf : Nat) (c lc d : Int) (is : List Ins) (m : Nat) (l : List Int) : Option ProgS :=
  match pCode m l with
  | none => none
  | some (is', l1) => kFuns main ts (fs ++ [⟨c, lc, d, is ++ is'⟩]) mf l1
theorem body_k (l : List Int) : pBody l = match readN l with
    | none => none
    | some (main, l1) => match readC l1 with
      | none => none
      | some (nt, l2) => kTexts main [] nt l2 := by
  unfold pBody
  cases readN l with
  | none => rfl
  | some x =>
    obtain ⟨main, l1⟩ := x
    simp only
    cases readC l1 with
    | none => rfl
    | some y =>
      obtain ⟨nt, l2⟩ := y
      simp only [kTexts]
      cases pTexts nt l2 with
      | none => rfl
      | some z =>
        obtain ⟨ts, l3⟩ := z
        simp only [kNf, kFuns, List.nil_append]
        cases readC l3 with
        | none => rfl
        | some z2 => rfl
theorem kTexts_zero (main : Int) (ts : List ByteArray) (l : List Int) : kTexts main ts 0 l = kNf main ts l := by simp only [kTexts, pTexts, List.append_nil]
theorem kTexts_succ (main : Int) (ts : List ByteArray) (m : Nat) (l : List Int) : kTexts main ts (m + 1) l = match pText l with
    | none => none
    | some (s, l1) => kTexts main (ts ++ [s]) m l1 := by
  simp only [kTexts, pTexts]
  cases pText l with
  | none => rfl
  | some x =>
    obtain ⟨s, l1⟩ := x
    simp only
    cases pTexts m l1 with
    | none => rfl
    | some y => simp only [List.append_assoc, List.singleton_append]
theorem kFuns_zero (main : Int) (ts : List ByteArray) (fs : List FunS) (l : List Int) : kFuns main ts fs 0 l = if l = [] then some ⟨fs, ts, main⟩ else none := by simp only [kFuns, pFuns, List.append_nil]
theorem kFuns_succ (main : Int) (ts : List ByteArray) (fs : List FunS) (m : Nat) (l : List Int) : kFuns main ts fs (m + 1) l = match readN l with
    | none => none
    | some (c, l1) => match readN l1 with
      | none => none
      | some (lc, l2) => match readN l2 with
        | none => none
        | some (d, l3) => match readC l3 with
          | none => none
          | some (n, l4) => kCode main ts fs m c lc d [] n l4 := by
  simp only [kFuns, pFuns, pFun, kCode]
  cases readN l with
  | none => rfl
  | some x1 =>
    simp only
    cases readN x1.2 with
    | none => rfl
    | some x2 =>
      simp only
      cases readN x2.2 with
      | none => rfl
      | some x3 =>
        simp only
        cases readC x3.2 with
        | none => rfl
        | some x4 =>
          simp only
          cases pCode x4.1 x4.2 with
          | none => rfl
          | some x5 =>
            simp only [List.nil_append]
            cases pFuns m x5.2 with
            | none => rfl
            | some y => simp only [List.append_assoc, List.singleton_append]
theorem kCode_zero (main : Int) (ts : List ByteArray) (fs : List FunS) (mf : Nat) (c lc d : Int) (is : List Ins) (l : List Int) : kCode main ts fs mf c lc d is 0 l = kFuns main ts (fs ++ [⟨c, lc, d, is⟩]) mf l := by simp only [kCode, pCode, List.append_nil]
theorem kCode_succ (main : Int) (ts : List ByteArray) (fs : List FunS) (mf : Nat) (c lc d : Int) (is : List Ins) (m : Nat) (l : List Int) : kCode main ts fs mf c lc d is (m + 1) l = match readN l with
    | none => none
    | some (o, l1) => match readN l1 with
      | none => none
      | some (a, l2) => match readN l2 with
        | none => none
        | some (b, l3) => kCode main ts fs mf c lc d (is ++ [⟨o, a, b⟩]) m l3 := by
  simp only [kCode, pCode, pIns]
  cases readN l with
  | none => rfl
  | some x1 =>
    simp only
    cases readN x1.2 with
    | none => rfl
    | some x2 =>
      simp only
      cases readN x2.2 with
      | none => rfl
      | some x3 =>
        simp only
        cases pCode m x3.2 with
        | none => rfl
        | some y => simp only [List.append_assoc, List.singleton_append]
/-- Too few bytes for so many. -/
theorem kTexts_few (main : Int) (ts : List ByteArray) (m : Nat) (l : List Int) (h : l.length < 1 * m) : kTexts main ts m l = none := by
  unfold kTexts
  cases hp : pTexts m l with
  | none => rfl
  | some y => have := pTexts_len _ _ _ _ hp; omega
theorem kFuns_few (main : Int) (ts : List ByteArray) (fs : List FunS) (m : Nat) (l : List Int) (h : l.length < 4 * m) : kFuns main ts fs m l = none := by
  unfold kFuns
  cases hp : pFuns m l with
  | none => rfl
  | some y => have := pFuns_len _ _ _ _ hp; omega
theorem kCode_few (main : Int) (ts : List ByteArray) (fs : List FunS) (mf : Nat) (c lc d : Int) (is : List Ins) (m : Nat) (l : List Int) (h : l.length < 3 * m) : kCode main ts fs mf c lc d is m l = none := by
  unfold kCode
  cases hp : pCode m l with
  | none => rfl
  | some y => have := pCode_len _ _ _ _ hp; omega

/-- What is left to read decides, unless a fault is marked. -/
def Tied (l0 : List Int) (bad : Bool) (X : Option ProgS) : Prop := if bad = true then pBody l0 = none else pBody l0 = X
def nextN (K : Int → List Int → Option ProgS) (l : List Int) : Option ProgS :=
  match readN l with
  | none => none
  | some (n, l') => K n l'
def nextC (K : Nat → List Int → Option ProgS) (l : List Int) : Option ProgS :=
  match readC l with
  | none => none
  | some (n, l') => K n l'
theorem tied_num (l0 l : List Int) (bad : Bool) (K : Int → List Int → Option ProgS) (h : Tied l0 bad (nextN K l)) : Tied l0 (numT l bad).2.2 (K (numT l bad).1 (numT l bad).2.1) := by
  cases bad with
  | true =>
    have e : (numT l true).2.2 = true := by
      unfold numT; cases rawGet l with
      | none => rfl
      | some x => simp
    rw [e]; exact h
  | false =>
    have h' : pBody l0 = nextN K l := h
    unfold nextN readN at h'
    cases hr : rawGet l with
    | none => rw [hr] at h'; rw [numT_none _ _ hr]; exact h'
    | some x =>
      obtain ⟨n, l'⟩ := x
      rw [hr] at h'
      rw [numT_some _ _ _ _ hr]
      simp only at h' ⊢
      cases hf : fitB n with
      | true => rw [hf] at h'; exact h'
      | false => rw [hf] at h'; exact h'
theorem numT_readN (l : List Int) : readN l = if (numT l false).2.2 = true then none else some ((numT l false).1, (numT l false).2.1) := by
  unfold readN
  cases hr : rawGet l with
  | none => rw [numT_none _ _ hr]; rfl
  | some x =>
    obtain ⟨n, l'⟩ := x
    rw [numT_some _ _ _ _ hr]
    simp only
    cases hf : fitB n <;> rfl
theorem numT_bad (l : List Int) : (numT l true).2.2 = true := by
  unfold numT; cases rawGet l with
  | none => rfl
  | some x => simp
theorem tied_cnt (l0 l : List Int) (bad : Bool) (least : Nat) (hl : 0 < least) (K : Nat → List Int → Option ProgS) (hK : ∀ n l', l'.length < least * n → K n l' = none) (h : Tied l0 bad (nextC K l)) : Tied l0 (cntT l bad least).2.2 (K (cntT l bad least).1.toNat (cntT l bad least).2.1) := by
  cases bad with
  | true =>
    have e : (cntT l true least).2.2 = true := by unfold cntT; simp [numT_bad]
    rw [e]; exact h
  | false =>
    have h' : pBody l0 = nextC K l := h
    unfold nextC readC at h'
    rw [numT_readN] at h'
    unfold cntT
    generalize numT l false = t at *
    obtain ⟨n, l', b'⟩ := t
    simp only at h' ⊢
    cases b' with
    | true => simp only [if_pos] at h'; exact h'
    | false =>
      simp only [Bool.false_or] at h' ⊢
      by_cases hn : n < 0
      · rw [decide_eq_true hn]; simp only [Bool.true_or]
        have : ¬ 0 ≤ n := by omega
        simp only [Bool.false_eq_true, if_false, if_neg this] at h'
        exact h'
      · have hn' : 0 ≤ n := by omega
        simp only [Bool.false_eq_true, if_false, if_pos hn'] at h'
        rw [decide_eq_false hn]
        by_cases hq : ((l'.length / least : Nat) : Int) < n
        · rw [decide_eq_true hq]
          simp only [Bool.or_true]
          have h2 : l'.length / least < n.toNat := by omega
          rw [Nat.div_lt_iff_lt_mul hl] at h2
          rw [hK n.toNat l' (by rw [Nat.mul_comm]; exact h2)] at h'
          exact h'
        · rw [decide_eq_false hq]
          simpa [Tied] using h'
theorem cntT_len (l : List Int) (bad : Bool) (least : Nat) : (cntT l bad least).2.1.length ≤ l.length := numT_len l bad
theorem cntT_bytes (l : List Int) (bad : Bool) (least : Nat) (hb : AreBytes l) : AreBytes (cntT l bad least).2.1 := numT_bytes l bad hb
/-- A count is no more than there are bytes. -/
theorem cntT_range (l : List Int) (bad : Bool) (least : Nat) : 0 ≤ (cntT l bad least).1 ∧ (cntT l bad least).1 ≤ (cntT l bad least).2.1.length := by
  unfold cntT
  obtain ⟨n, l', b'⟩ := numT l bad
  simp only
  split
  · exact ⟨Int.le_refl _, by omega⟩
  · rename_i h
    simp only [Bool.or_eq_true, decide_eq_true_eq, not_or] at h
    have := Nat.div_le_self l'.length least
    omega
/-- A text: after its count. -/
def kText (K : ByteArray → List Int → Option ProgS) (n : Nat) (l1 : List Int) : Option ProgS :=
  if n ≤ l1.length then (if quotedB (strOf (l1.take n)) = true then K (strOf (l1.take n)) (l1.drop n) else none) else none
theorem kTexts_next (main : Int) (ts : List ByteArray) (m : Nat) (l : List Int) : kTexts main ts (m + 1) l = nextC (kText fun s l1 => kTexts main (ts ++ [s]) m l1) l := by
  rw [kTexts_succ]
  unfold pText nextC kText
  cases readC l with
  | none => rfl
  | some x =>
    simp only
    by_cases h1 : x.1 ≤ x.2.length
    · by_cases h2 : quotedB (strOf (x.2.take x.1)) = true
      · simp only [if_pos h1, if_pos h2]
      · simp only [if_pos h1, if_neg h2]
    · simp only [if_neg h1]
theorem kText_few (K : ByteArray → List Int → Option ProgS) (n : Nat) (l : List Int) (h : l.length < 1 * n) : kText K n l = none := by
  unfold kText; rw [if_neg (by omega)]
theorem tied_text (l0 l1 : List Int) (bad : Bool) (K : ByteArray → List Int → Option ProgS) (n : Nat) (hn : n ≤ l1.length) (h : Tied l0 bad (kText K n l1)) : Tied l0 (bad || !quotedB (strOf (l1.take n))) (K (strOf (l1.take n)) (l1.drop n)) := by
  unfold kText at h
  rw [if_pos hn] at h
  cases bad with
  | true => exact h
  | false =>
    cases hq : quotedB (strOf (l1.take n)) with
    | true => rw [hq] at h; exact h
    | false => rw [hq] at h; exact h
theorem kFuns_next (main : Int) (ts : List ByteArray) (fs : List FunS) (m : Nat) (l : List Int) : kFuns main ts fs (m + 1) l = nextN (fun c => nextN fun lc => nextN fun d => nextC fun n => kCode main ts fs m c lc d [] n) l := by
  rw [kFuns_succ]; rfl
theorem kCode_next (main : Int) (ts : List ByteArray) (fs : List FunS) (mf : Nat) (c lc d : Int) (is : List Ins) (m : Nat) (l : List Int) : kCode main ts fs mf c lc d is (m + 1) l = nextN (fun o => nextN fun a => nextN fun b => kCode main ts fs mf c lc d (is ++ [⟨o, a, b⟩]) m) l := by
  rw [kCode_succ]; rfl
theorem body_next (l : List Int) : pBody l = nextN (fun main => nextC fun nt => kTexts main [] nt) l := by rw [body_k]; rfl
theorem kNf_next (main : Int) (ts : List ByteArray) (l : List Int) : kNf main ts l = nextC (kFuns main ts []) l := rfl
end Go.Proofs.YtidffjlpldalpaaGreatDoor
