/- The program of a body as a plain parser: it stops at the first fault. -/
import Derived.Test.YtbcbjefonkbjnaaDoorBc37
namespace Go.Proofs.YtbcbjefonkbjnaaDoor
open Go Go.RowKit

/-- A function without the value of its code. -/
structure FunS where
  c : Int
  l : Int
  d : Int
  code : List Ins
  deriving DecidableEq, Inhabited
structure ProgS where
  funs : List FunS
  texts : List ByteArray
  main : Int
  deriving Inhabited
def stripF (f : FunD) : FunS := ⟨f.c, f.l, f.d, f.code⟩
def strip (p : ProgD) : ProgS := ⟨p.funs.map stripF, p.texts, p.main⟩

def readN (l : List Int) : Option (Int × List Int) :=
  match rawGet l with
  | none => none
  | some (n, l') => if fitB n = true then some (n, l') else none
/-- A count: not below zero. -/
def readC (l : List Int) : Option (Nat × List Int) :=
  match readN l with
  | none => none
  | some (n, l') => if 0 ≤ n then some (n.toNat, l') else none
def strOf (l : List Int) : ByteArray := ⟨(l.map fun x => UInt8.ofNat x.toNat).toArray⟩
def pText (l : List Int) : Option (ByteArray × List Int) :=
  match readC l with
  | none => none
  | some (n, l1) => if n ≤ l1.length then (if quotedB (strOf (l1.take n)) = true then some (strOf (l1.take n), l1.drop n) else none) else none
def pTexts : Nat → List Int → Option (List ByteArray × List Int)
  | 0, l => some ([], l)
  | m + 1, l => match pText l with
    | none => none
    | some (s, l1) => match pTexts m l1 with
      | none => none
      | some (ts, l2) => some (s :: ts, l2)
def pIns (l : List Int) : Option (Ins × List Int) :=
  match readN l with
  | none => none
  | some (o, l1) => match readN l1 with
    | none => none
    | some (a, l2) => match readN l2 with
      | none => none
      | some (b, l3) => some (⟨o, a, b⟩, l3)
def pCode : Nat → List Int → Option (List Ins × List Int)
  | 0, l => some ([], l)
  | m + 1, l => match pIns l with
    | none => none
    | some (i, l1) => match pCode m l1 with
      | none => none
      | some (is, l2) => some (i :: is, l2)
def pFun (l : List Int) : Option (FunS × List Int) :=
  match readN l with
  | none => none
  | some (c, l1) => match readN l1 with
    | none => none
    | some (lc, l2) => match readN l2 with
      | none => none
      | some (d, l3) => match readC l3 with
        | none => none
        | some (n, l4) => match pCode n l4 with
          | none => none
          | some (is, l5) => some (⟨c, lc, d, is⟩, l5)
def pFuns : Nat → List Int → Option (List FunS × List Int)
  | 0, l => some ([], l)
  | m + 1, l => match pFun l with
    | none => none
    | some (f, l1) => match pFuns m l1 with
      | none => none
      | some (fs, l2) => some (f :: fs, l2)
def pBody (l : List Int) : Option ProgS :=
  match readN l with
  | none => none
  | some (main, l1) => match readC l1 with
    | none => none
    | some (nt, l2) => match pTexts nt l2 with
      | none => none
      | some (ts, l3) => match readC l3 with
        | none => none
        | some (nf, l4) => match pFuns nf l4 with
          | none => none
          | some (fs, l5) => if l5 = [] then some ⟨fs, ts, main⟩ else none
/-- The example of the chapter is read as it was written. -/
theorem seven_read (cv : Value) : pBody (bodyL (sevenP cv)) = some (strip (sevenP cv)) := by kernel_rfl

/-! Each element takes its bytes. -/
theorem readN_len (l : List Int) (n : Int) (l' : List Int) (h : readN l = some (n, l')) : l'.length + 1 ≤ l.length := by
  unfold readN at h
  split at h
  · cases h
  · rename_i m l2 hr
    split at h
    · simp only [Option.some.injEq, Prod.mk.injEq] at h
      obtain ⟨k, h1, h2, h3⟩ := getF_rest _ _ _ _ _ _ _ hr
      rw [← h.2, h3, List.length_drop]; omega
    · cases h
theorem readC_len (l : List Int) (n : Nat) (l' : List Int) (h : readC l = some (n, l')) : l'.length + 1 ≤ l.length := by
  unfold readC at h
  split at h
  · cases h
  · rename_i m l2 hr
    split at h
    · simp only [Option.some.injEq, Prod.mk.injEq] at h
      have := readN_len _ _ _ hr
      rw [← h.2]; exact this
    · cases h
theorem pText_len (l : List Int) (s : ByteArray) (l' : List Int) (h : pText l = some (s, l')) : l'.length + 1 ≤ l.length := by
  unfold pText at h
  split at h
  · cases h
  · rename_i n l1 hr
    have := readC_len _ _ _ hr
    split at h
    · split at h
      · simp only [Option.some.injEq, Prod.mk.injEq] at h
        rw [← h.2, List.length_drop]; omega
      · cases h
    · cases h
theorem pTexts_len : ∀ (m : Nat) (l : List Int) (ts : List ByteArray) (l' : List Int), pTexts m l = some (ts, l') → l'.length + m ≤ l.length
  | 0, l, ts, l', h => by simp only [pTexts, Option.some.injEq, Prod.mk.injEq] at h; rw [h.2]; omega
  | m + 1, l, ts, l', h => by
    rw [pTexts] at h
    split at h
    · cases h
    · rename_i s l1 hr
      have h1 := pText_len _ _ _ hr
      split at h
      · cases h
      · rename_i ts' l2 hr2
        have h2 := pTexts_len m l1 ts' l2 hr2
        simp only [Option.some.injEq, Prod.mk.injEq] at h
        rw [← h.2]; omega
theorem pIns_len (l : List Int) (i : Ins) (l' : List Int) (h : pIns l = some (i, l')) : l'.length + 3 ≤ l.length := by
  unfold pIns at h
  split at h
  · cases h
  · rename_i o l1 hr
    have h1 := readN_len _ _ _ hr
    split at h
    · cases h
    · rename_i a l2 hr2
      have h2 := readN_len _ _ _ hr2
      split at h
      · cases h
      · rename_i b l3 hr3
        have h3 := readN_len _ _ _ hr3
        simp only [Option.some.injEq, Prod.mk.injEq] at h
        rw [← h.2]; omega
theorem pCode_len : ∀ (m : Nat) (l : List Int) (is : List Ins) (l' : List Int), pCode m l = some (is, l') → l'.length + 3 * m ≤ l.length
  | 0, l, is, l', h => by simp only [pCode, Option.some.injEq, Prod.mk.injEq] at h; rw [h.2]; omega
  | m + 1, l, is, l', h => by
    rw [pCode] at h
    split at h
    · cases h
    · rename_i i l1 hr
      have h1 := pIns_len _ _ _ hr
      split at h
      · cases h
      · rename_i is' l2 hr2
        have h2 := pCode_len m l1 is' l2 hr2
        simp only [Option.some.injEq, Prod.mk.injEq] at h
        rw [← h.2]; omega
theorem pFun_len (l : List Int) (f : FunS) (l' : List Int) (h : pFun l = some (f, l')) : l'.length + 4 ≤ l.length := by
  unfold pFun at h
  split at h
  · cases h
  · rename_i c l1 hr
    have h1 := readN_len _ _ _ hr
    split at h
    · cases h
    · rename_i lc l2 hr2
      have h2 := readN_len _ _ _ hr2
      split at h
      · cases h
      · rename_i d l3 hr3
        have h3 := readN_len _ _ _ hr3
        split at h
        · cases h
        · rename_i n l4 hr4
          have h4 := readC_len _ _ _ hr4
          split at h
          · cases h
          · rename_i is l5 hr5
            have h5 := pCode_len _ _ _ _ hr5
            simp only [Option.some.injEq, Prod.mk.injEq] at h
            rw [← h.2]; omega
theorem pFuns_len : ∀ (m : Nat) (l : List Int) (fs : List FunS) (l' : List Int), pFuns m l = some (fs, l') → l'.length + 4 * m ≤ l.length
  | 0, l, fs, l', h => by simp only [pFuns, Option.some.injEq, Prod.mk.injEq] at h; rw [h.2]; omega
  | m + 1, l, fs, l', h => by
    rw [pFuns] at h
    split at h
    · cases h
    · rename_i f l1 hr
      have h1 := pFun_len _ _ _ hr
      split at h
      · cases h
      · rename_i fs' l2 hr2
        have h2 := pFuns_len m l1 fs' l2 hr2
        simp only [Option.some.injEq, Prod.mk.injEq] at h
        rw [← h.2]; omega
end Go.Proofs.YtbcbjefonkbjnaaDoor
