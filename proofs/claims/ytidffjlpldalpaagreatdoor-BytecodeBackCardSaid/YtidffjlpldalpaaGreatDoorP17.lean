/- The reader's count. Get of the reference. The program of a body as a plain parser: it stops at the first fault. -/
import Derived.Test.YtidffjlpldalpaaGreatDoorP16
set_option linter.unusedVariables false
set_option linter.unusedSimpArgs false
namespace Go.Proofs.YtidffjlpldalpaaGreatDoor
open Go Go.RowKit

theorem getF_rest : ∀ (f : Nat) (z p : Int) (b : Bool) (l : List Int) (n : Int) (l' : List Int), getF f z p b l = some (n, l') → ∃ k, 0 < k ∧ k ≤ l.length ∧ l' = l.drop k
  | 0, _, _, _, _, _, _, h => by simp [getF] at h
  | _ + 1, _, _, _, [], _, _, h => by simp [getF] at h
  | f + 1, z, p, b, c :: l, n, l', h => by
    rw [getF] at h
    split at h
    · obtain ⟨k, h1, h2, h3⟩ := getF_rest f _ _ _ l n l' h
      exact ⟨k + 1, by omega, by simp; omega, by rw [h3]; rfl⟩
    · split at h
      · cases h
      · simp only [Option.some.injEq, Prod.mk.injEq] at h
        exact ⟨1, by decide, by simp, h.2.symm⟩
theorem numT_rest (l : List Int) (bad : Bool) : ∃ k, (numT l bad).2.1 = l.drop k := by
  cases h : rawGet l with
  | none => rw [numT_none l bad h]; exact ⟨l.length, by simp⟩
  | some x =>
    obtain ⟨n, l'⟩ := x
    rw [numT_some l bad n l' h]
    obtain ⟨k, _, _, hk⟩ := getF_rest _ _ _ _ _ _ _ h
    exact ⟨k, hk⟩
theorem numT_len (l : List Int) (bad : Bool) : (numT l bad).2.1.length ≤ l.length := by
  obtain ⟨k, h⟩ := numT_rest l bad
  rw [h, List.length_drop]; omega
theorem numT_bytes (l : List Int) (bad : Bool) (hb : AreBytes l) : AreBytes (numT l bad).2.1 := by
  obtain ⟨k, h⟩ := numT_rest l bad
  rw [h]; exact fun x hx => hb x (List.mem_of_mem_drop hx)
/-- What count answers, and what it leaves. -/
def cntT (l : List Int) (bad : Bool) (least : Nat) : Int × List Int × Bool :=
  let t := numT l bad
  let bad' := t.2.2 || (decide (t.1 < 0) || decide (((t.2.1.length / least : Nat) : Int) < t.1))
  (if bad' then 0 else t.1, t.2.1, bad')
set_option maxHeartbeats 2000000 in
set_option maxRecDepth 100000 in
theorem count_any (rb : Nat) (l : List Int) (bad : Bool) (least : Nat) (w : World) (h : RdAt w rb l bad) (hb : AreBytes l) (hl : l.length ≤ 1000000) (h0 : 0 < least) (h1 : least ≤ 4) :
    Calls Tryz.prog 72 #[.pointer (some ⟨rb, 0, none⟩), .int .i64 least] w (NumOk rb (cntT l bad least) w) := by
  have HN := Lib.hid (number_any rb l bad w h hb hl)
  obtain ⟨n, l', b', ht⟩ : ∃ n l' b', numT l bad = (n, l', b') := ⟨_, _, _, rfl⟩
  have Hc : Hid (cntT l bad least = (if b' || (decide (n < 0) || decide (((l'.length / least : Nat) : Int) < n)) then 0 else n, l', b' || (decide (n < 0) || decide (((l'.length / least : Nat) : Int) < n)))) := by
    show _ = _; unfold cntT; rw [ht]
  have hll : l'.length ≤ 1000000 := by have := numT_len l bad; rw [ht] at this; simp only at this; omega
  have HT := Lib.hid ht
  clear h ht
  go_enter Tryz.func72, Tryz.ntmps72
  go_wp2_with fail
  refine HN.out.mono ?_
  rintro e w1 ⟨rfl, hr1, hO1⟩
  rw [HT.out] at hr1 ⊢
  obtain ⟨a, c, hr, hlc, hx⟩ := hr1
  have Hr := Lib.hid hr
  have HX := Lib.hid hx
  obtain ⟨r0, r1⟩ := two_cells hr
  have fz1 : w1.frozen? ⟨rb, 1, none⟩ = false := Lib.frozen_of_heap hr 1
  simp only at hr r0 r1 hlc
  clear hx hr HN HT
  have hlz : (least : Int) ≠ 0 := by omega
  have hkeep : RdAt w1 rb l' b' := ⟨a, c, Hr.out, hlc, HX.out⟩
  have hset : RdAt (w1.setCell ⟨rb, 1, none⟩ (.bool true)) rb l' true := by
    refine ⟨a, c, by rw [heap_set_same Hr.out]; rfl, hlc, fun h => ?_⟩
    obtain ⟨b, off, ha, hbr, hcx⟩ := HX.out h
    exact ⟨b, off, ha, hbr, fun j hj => by rw [(OnlyAt.set w1 rb 1 _).cell (a := ⟨b, off + j, none⟩) (Nat.ne_of_lt hbr)]; exact hcx j hj⟩
  have hOs : OnlyAt rb w (w1.setCell ⟨rb, 1, none⟩ (.bool true)) := hO1.trans (OnlyAt.set _ _ _ _)
  have hq : (l'.length : Int) / (least : Int) = ((l'.length / least : Nat) : Int) := by simp
  have hq1 : l'.length / least ≤ 1000000 := Nat.le_trans (Nat.div_le_self _ _) hll
  generalize l'.length / least = q at *
  by_cases hn : n < 0
  · have hD : Hid (cntT l bad least = (0, l', true)) := by show _ = _; rw [Hc.out, decide_eq_true hn]; simp
    go_wp2_with fail
    go_ret
    exact ⟨by rw [hD.out]; rfl, by rw [hD.out]; exact hset, hOs⟩
  · by_cases hm : (q : Int) < n
    · have hD : Hid (cntT l bad least = (0, l', true)) := by show _ = _; rw [Hc.out, decide_eq_true hm]; simp
      have hm' : ((q : Int) < n) = True := eq_true hm
      go_wp2_with fail
      go_ret
      exact ⟨by rw [hD.out]; rfl, by rw [hD.out]; exact hset, hOs⟩
    · have hm' : ((q : Int) < n) = False := eq_false hm
      cases b'
      · have hD : Hid (cntT l bad least = (n, l', false)) := by show _ = _; rw [Hc.out, decide_eq_false hn, decide_eq_false hm]; rfl
        clear hm
        go_wp2_with fail
        go_ret
        exact ⟨by rw [hD.out]; rfl, by rw [hD.out]; exact hkeep, hO1⟩
      · have hD : Hid (cntT l bad least = (0, l', true)) := by show _ = _; rw [Hc.out]; rfl
        clear hm
        go_wp2_with fail
        go_ret
        exact ⟨by rw [hD.out]; rfl, by rw [hD.out]; exact hkeep, hO1⟩


/-- A function without the value of its code. -/
structure FunS where
  c : Int
  l : Int
  d : Int
  code : List Ins
  deriving DecidableEq, Inhabited
structure ProgS where
  funs : List FunS
  texts : List ByteArray
  main : Int
  deriving Inhabited
def stripF (f : FunD) : FunS := ⟨f.c, f.l, f.d, f.code⟩
def strip (p : ProgD) : ProgS := ⟨p.funs.map stripF, p.texts, p.main⟩

def readN (l : List Int) : Option (Int × List Int) :=
  match rawGet l with
  | none => none
  | some (n, l') => if fitB n = true then some (n, l') else none
/-- A count: not below zero. -/
def readC (l : List Int) : Option (Nat × List Int) :=
  match readN l with
  | none => none
  | some (n, l') => if 0 ≤ n then some (n.toNat, l') else none
def strOf (l : List Int) : ByteArray := ⟨(l.map fun x => UInt8.ofNat x.toNat).toArray⟩
def pText (l : List Int) : Option (ByteArray × List Int) :=
  match readC l with
  | none => none
  | some (n, l1) => if n ≤ l1.length then (if quotedB (strOf (l1.take n)) = true then some (strOf (l1.take n), l1.drop n) else none) else none
def pTexts : Nat → List Int → Option (List ByteArray × List Int)
  | 0, l => some ([], l)
  | m + 1, l => match pText l with
    | none => none
    | some (s, l1) => match pTexts m l1 with
      | none => none
      | some (ts, l2) => some (s :: ts, l2)
def pIns (l : List Int) : Option (Ins × List Int) :=
  match readN l with
  | none => none
  | some (o, l1) => match readN l1 with
    | none => none
    | some (a, l2) => match readN l2 with
      | none => none
      | some (b, l3) => some (⟨o, a, b⟩, l3)
def pCode : Nat → List Int → Option (List Ins × List Int)
  | 0, l => some ([], l)
  | m + 1, l => match pIns l with
    | none => none
    | some (i, l1) => match pCode m l1 with
      | none => none
      | some (is, l2) => some (i :: is, l2)
def pFun (l : List Int) : Option (FunS × List Int) :=
  match readN l with
  | none => none
  | some (c, l1) => match readN l1 with
    | none => none
    | some (lc, l2) => match readN l2 with
      | none => none
      | some (d, l3) => match readC l3 with
        | none => none
        | some (n, l4) => match pCode n l4 with
          | none => none
          | some (is, l5) => some (⟨c, lc, d, is⟩, l5)
def pFuns : Nat → List Int → Option (List FunS × List Int)
  | 0, l => some ([], l)
  | m + 1, l => match pFun l with
    | none => none
    | some (f, l1) => match pFuns m l1 with
      | none => none
      | some (fs, l2) => some (f :: fs, l2)
def pBody (l : List Int) : Option ProgS :=
  match readN l with
  | none => none
  | some (main, l1) => match readC l1 with
    | none => none
    | some (nt, l2) => match pTexts nt l2 with
      | none => none
      | some (ts, l3) => match readC l3 with
        | none => none
        | some (nf, l4) => match pFuns nf l4 with
          | none => none
          | some (fs, l5) => if l5 = [] then some ⟨fs, ts, main⟩ else none
/-! Each element takes its bytes. -/
theorem readN_len (l : List Int) (n : Int) (l' : List Int) (h : readN l = some (n, l')) : l'.length + 1 ≤ l.length := by
  unfold readN at h
  split at h
  · cases h
  · rename_i m l2 hr
    split at h
    · simp only [Option.some.injEq, Prod.mk.injEq] at h
      obtain ⟨k, h1, h2, h3⟩ := getF_rest _ _ _ _ _ _ _ hr
      rw [← h.2, h3, List.length_drop]; omega
    · cases h
theorem readC_len (l : List Int) (n : Nat) (l' : List Int) (h : readC l = some (n, l')) : l'.length + 1 ≤ l.length := by
  unfold readC at h
  split at h
  · cases h
  · rename_i m l2 hr
    split at h
    · simp only [Option.some.injEq, Prod.mk.injEq] at h
      have := readN_len _ _ _ hr
      rw [← h.2]; exact this
    · cases h
theorem pText_len (l : List Int) (s : ByteArray) (l' : List Int) (h : pText l = some (s, l')) : l'.length + 1 ≤ l.length := by
  unfold pText at h
  split at h
  · cases h
  · rename_i n l1 hr
    have := readC_len _ _ _ hr
    split at h
    · split at h
      · simp only [Option.some.injEq, Prod.mk.injEq] at h
        rw [← h.2, List.length_drop]; omega
      · cases h
    · cases h
theorem pTexts_len : ∀ (m : Nat) (l : List Int) (ts : List ByteArray) (l' : List Int), pTexts m l = some (ts, l') → l'.length + m ≤ l.length
  | 0, l, ts, l', h => by simp only [pTexts, Option.some.injEq, Prod.mk.injEq] at h; rw [h.2]; omega
  | m + 1, l, ts, l', h => by
    rw [pTexts] at h
    split at h
    · cases h
    · rename_i s l1 hr
      have h1 := pText_len _ _ _ hr
      split at h
      · cases h
      · rename_i ts' l2 hr2
        have h2 := pTexts_len m l1 ts' l2 hr2
        simp only [Option.some.injEq, Prod.mk.injEq] at h
        rw [← h.2]; omega
theorem pIns_len (l : List Int) (i : Ins) (l' : List Int) (h : pIns l = some (i, l')) : l'.length + 3 ≤ l.length := by
  unfold pIns at h
  split at h
  · cases h
  · rename_i o l1 hr
    have h1 := readN_len _ _ _ hr
    split at h
    · cases h
    · rename_i a l2 hr2
      have h2 := readN_len _ _ _ hr2
      split at h
      · cases h
      · rename_i b l3 hr3
        have h3 := readN_len _ _ _ hr3
        simp only [Option.some.injEq, Prod.mk.injEq] at h
        rw [← h.2]; omega
theorem pCode_len : ∀ (m : Nat) (l : List Int) (is : List Ins) (l' : List Int), pCode m l = some (is, l') → l'.length + 3 * m ≤ l.length
  | 0, l, is, l', h => by simp only [pCode, Option.some.injEq, Prod.mk.injEq] at h; rw [h.2]; omega
  | m + 1, l, is, l', h => by
    rw [pCode] at h
    split at h
    · cases h
    · rename_i i l1 hr
      have h1 := pIns_len _ _ _ hr
      split at h
      · cases h
      · rename_i is' l2 hr2
        have h2 := pCode_len m l1 is' l2 hr2
        simp only [Option.some.injEq, Prod.mk.injEq] at h
        rw [← h.2]; omega
theorem pFun_len (l : List Int) (f : FunS) (l' : List Int) (h : pFun l = some (f, l')) : l'.length + 4 ≤ l.length := by
  unfold pFun at h
  split at h
  · cases h
  · rename_i c l1 hr
    have h1 := readN_len _ _ _ hr
    split at h
    · cases h
    · rename_i lc l2 hr2
      have h2 := readN_len _ _ _ hr2
      split at h
      · cases h
      · rename_i d l3 hr3
        have h3 := readN_len _ _ _ hr3
        split at h
        · cases h
        · rename_i n l4 hr4
          have h4 := readC_len _ _ _ hr4
          split at h
          · cases h
          · rename_i is l5 hr5
            have h5 := pCode_len _ _ _ _ hr5
            simp only [Option.some.injEq, Prod.mk.injEq] at h
            rw [← h.2]; omega
theorem pFuns_len : ∀ (m : Nat) (l : List Int) (fs : List FunS) (l' : List Int), pFuns m l = some (fs, l') → l'.length + 4 * m ≤ l.length
  | 0, l, fs, l', h => by simp only [pFuns, Option.some.injEq, Prod.mk.injEq] at h; rw [h.2]; omega
  | m + 1, l, fs, l', h => by
    rw [pFuns] at h
    split at h
    · cases h
    · rename_i f l1 hr
      have h1 := pFun_len _ _ _ hr
      split at h
      · cases h
      · rename_i fs' l2 hr2
        have h2 := pFuns_len m l1 fs' l2 hr2
        simp only [Option.some.injEq, Prod.mk.injEq] at h
        rw [← h.2]; omega
end Go.Proofs.YtidffjlpldalpaaGreatDoor
