/- Codes of programs: what is encoded is decoded, and what is decoded was so encoded. -/
import Derived.Test.YtidffjlpldalpaaGreatDoorP32
set_option linter.unusedVariables false
set_option linter.unusedSimpArgs false
namespace Go.Proofs.YtidffjlpldalpaaGreatDoor
open Go Go.RowKit

theorem put_cons (k v : Nat) : putF (k + 1) v = if v < 128 then [(v : Int)] else ((v : Int) % 128 + 128) :: putF k (v / 128) := rfl
theorem get_put : ∀ (k v : Nat) (z p : Int) (first : Bool) (l : List Int), v < 128 ^ (k + 1) → (v ≠ 0 ∨ first = true) → getF (k + 1) z p first (putF (k + 1) v ++ l) = some (unzig (z + v * p), l)
  | k, v, z, p, first, l, hv, h0 => by
    rw [put_cons]
    by_cases h : v < 128
    · rw [if_pos h]
      show getF (k + 1) z p first ((v : Int) :: l) = _
      rw [getF_last _ _ _ _ _ _ (by omega) (by rintro ⟨h1, h2⟩; rcases h0 with h0 | h0; exact h0 (by omega); rw [h0] at h2; cases h2), Int.emod_eq_of_lt (by omega) (by omega)]
    · rw [if_neg h]
      show getF (k + 1) z p first (((v : Int) % 128 + 128) :: (putF k (v / 128) ++ l)) = _
      rw [getF_more _ _ _ _ _ _ (by omega)]
      match k, hv with
      | 0, hv => exact absurd hv (by rw [Nat.pow_one]; omega)
      | k + 1, hv =>
        have hlt : v / 128 < 128 ^ (k + 1) := by rw [Nat.pow_succ] at hv; omega
        rw [get_put k (v / 128) _ _ false l hlt (.inl (by omega))]
        have e1 : ((v : Int) % 128 + 128) % 128 = (v : Int) % 128 := by omega
        have e2 : ((v / 128 : Nat) : Int) = (v : Int) / 128 := by omega
        rw [e1, e2]
        congr 3
        have e3 : (v : Int) = (v : Int) % 128 + 128 * ((v : Int) / 128) := by omega
        generalize (v : Int) % 128 = a at *
        generalize (v : Int) / 128 = b at *
        rw [e3, Int.add_mul, Int.add_assoc]
        congr 1
        simp only [Int.mul_comm, Int.mul_left_comm, Int.mul_assoc]
theorem get_inv : ∀ (k : Nat) (z p : Int) (first : Bool) (l : List Int) (n : Int) (l' : List Int), AreBytes l → getF k z p first l = some (n, l') → ∃ v : Nat, v < 128 ^ k ∧ l = putF k v ++ l' ∧ n = unzig (z + v * p) ∧ (v ≠ 0 ∨ first = true)
  | 0, _, _, _, _, _, _, _, h => by cases h
  | k + 1, z, p, first, [], n, l', _, h => by cases h
  | k + 1, z, p, first, c :: l, n, l', hb, h => by
    have hc := hb c (by simp)
    have hbl : AreBytes l := fun x hx => hb x (by simp [hx])
    by_cases h1 : 128 ≤ c
    · rw [getF_more _ _ _ _ _ _ h1] at h
      obtain ⟨v, v1, v2, v3, v4⟩ := get_inv k _ _ false l n l' hbl h
      have hv0 : v ≠ 0 := by rcases v4 with v4 | v4; exact v4; cases v4
      refine ⟨(c % 128).toNat + 128 * v, ?_, ?_, ?_, .inl (by omega)⟩
      · rw [Nat.pow_succ]; omega
      · rw [put_cons, if_neg (by omega), v2, show ((c % 128).toNat + 128 * v) / 128 = v by omega]
        show c :: (putF k v ++ l') = _ :: (putF k v ++ l')
        congr 1
        omega
      · rw [v3]
        congr 1
        have e : (((c % 128).toNat + 128 * v : Nat) : Int) = c % 128 + 128 * (v : Int) := by omega
        rw [e, Int.add_mul, Int.add_assoc]
        congr 2
        simp only [Int.mul_comm, Int.mul_left_comm, Int.mul_assoc]
    · by_cases h2 : c = 0 ∧ first = false
      · obtain ⟨rfl, rfl⟩ := h2
        rw [getF_zero] at h; cases h
      · rw [getF_last _ _ _ _ _ _ h1 h2] at h
        cases h
        refine ⟨c.toNat, ?_, ?_, ?_, ?_⟩
        · have : 1 ≤ 128 ^ k := Nat.one_le_pow _ _ (by decide)
          rw [Nat.pow_succ]; omega
        · rw [put_cons, if_pos (by omega)]
          show c :: l = (c.toNat : Int) :: l
          congr 1; omega
        · congr 2
          rw [Int.emod_eq_of_lt (by omega) (by omega)]
          congr 1; omega
        · by_cases h0 : c = 0
          · right; cases first
            · exact absurd ⟨h0, rfl⟩ h2
            · rfl
          · left; omega
theorem unzig_zig (n : Int) : unzig (zig n : Nat) = n := by
  unfold unzig zig
  by_cases h : n < 0
  · rw [if_pos h, if_pos (by omega)]; omega
  · rw [if_neg h, if_neg (by omega)]; omega
theorem zig_unzig (v : Nat) : zig (unzig (v : Int)) = v := by
  unfold unzig zig
  by_cases h : (v : Int) % 2 = 1
  · rw [if_pos h, if_pos (by omega)]; omega
  · rw [if_neg h, if_neg (by omega)]; omega
theorem fit_zig {n : Int} (h : fitB n = true) : zig n < 128 ^ 8 := by
  unfold fitB inB at h
  simp at h
  have e : 128 ^ 8 = 72057594037927936 := by decide
  rw [e]
  unfold zig
  split <;> omega
theorem read_put {n : Int} (h : fitB n = true) (l : List Int) : readN (putL n ++ l) = some (n, l) := by
  have e : rawGet (putL n ++ l) = some (n, l) := by
    show getF (7 + 1) 0 1 true (putF (7 + 1) (zig n) ++ l) = _
    rw [get_put 7 (zig n) 0 1 true l (fit_zig h) (.inr rfl), Int.zero_add, Int.mul_one, unzig_zig]
  unfold readN
  rw [e]
  exact if_pos h
theorem readN_inv {l l' : List Int} {n : Int} (hb : AreBytes l) (h : readN l = some (n, l')) : l = putL n ++ l' ∧ fitB n = true ∧ AreBytes l' := by
  unfold readN at h
  cases hr : rawGet l with
  | none => rw [hr] at h; cases h
  | some x =>
    obtain ⟨m, l1⟩ := x
    rw [hr] at h
    replace h : (if fitB m = true then some (m, l1) else none) = some (n, l') := h
    by_cases hf : fitB m = true
    · rw [if_pos hf] at h
      cases h
      obtain ⟨v, _, v2, v3, _⟩ := get_inv 8 0 1 true l n l' hb hr
      rw [Int.zero_add, Int.mul_one] at v3
      have e : l = putL n ++ l' := by
        show l = putF 8 (zig n) ++ l'
        rw [v3, zig_unzig]; exact v2
      exact ⟨e, hf, fun x hx => hb x (by rw [e]; exact List.mem_append_right _ hx)⟩
    · rw [if_neg hf] at h; cases h
theorem readC_put {n : Nat} (h : fitB (n : Int) = true) (l : List Int) : readC (putL (n : Int) ++ l) = some (n, l) := by
  unfold readC
  rw [read_put h]
  show (if (0 : Int) ≤ (n : Int) then some ((n : Int).toNat, l) else none) = _
  rw [if_pos (by omega), Int.toNat_natCast]
theorem readC_inv {l l' : List Int} {n : Nat} (hb : AreBytes l) (h : readC l = some (n, l')) : l = putL (n : Int) ++ l' ∧ AreBytes l' := by
  unfold readC at h
  cases hr : readN l with
  | none => rw [hr] at h; cases h
  | some x =>
    obtain ⟨m, l1⟩ := x
    rw [hr] at h
    replace h : (if 0 ≤ m then some (m.toNat, l1) else none) = some (n, l') := h
    by_cases hm : 0 ≤ m
    · rw [if_pos hm] at h
      cases h
      obtain ⟨a, _, c⟩ := readN_inv hb hr
      exact ⟨by rw [a]; congr 2; omega, c⟩
    · rw [if_neg hm] at h; cases h
theorem strOf_bytes (s : ByteArray) : strOf (bytesL s) = s := by
  unfold strOf bytesL
  rw [List.map_map]
  have : ((fun x : Int => UInt8.ofNat x.toNat) ∘ fun b : UInt8 => (b.toNat : Int)) = id := by
    funext b
    simp
  rw [this, List.map_id]
theorem bytes_strOf {l : List Int} (h : AreBytes l) : bytesL (strOf l) = l := by
  unfold strOf bytesL
  simp only [List.map_map]
  conv => rhs; rw [← List.map_id l]
  apply List.map_congr_left
  intro x hx
  have := h x hx
  simp only [Function.comp, id]
  rw [UInt8.toNat_ofNat']
  omega
theorem strOf_size (l : List Int) : (strOf l).size = l.length := by
  show (l.map fun x : Int => UInt8.ofNat x.toNat).toArray.size = l.length
  simp
def funLS (f : FunS) : List Int := [f.c, f.l, f.d, (f.code.length : Int)].flatMap putL ++ f.code.flatMap insL
def bodyLS (p : ProgS) : List Int := putL p.main ++ (putL p.texts.length ++ (p.texts.flatMap textL ++ (putL p.funs.length ++ p.funs.flatMap funLS)))
theorem bodyL_strip (p : ProgD) : bodyL p = bodyLS (strip p) := by
  unfold bodyL bodyLS strip
  simp only [List.length_map, List.flatMap_map]
  rfl
structure CodesOk (p : ProgS) : Prop where
  main : fitB p.main = true
  ts : fitB (p.texts.length : Int) = true
  fs : fitB (p.funs.length : Int) = true
  texts : ∀ s ∈ p.texts, quotedB s = true
  heads : ∀ f ∈ p.funs, fitB f.c = true ∧ fitB f.l = true ∧ fitB f.d = true ∧ fitB (f.code.length : Int) = true
  codes : ∀ f ∈ p.funs, ∀ i ∈ f.code, fitB i.op = true ∧ fitB i.a = true ∧ fitB i.b = true
theorem pText_put {s : ByteArray} (h : quotedB s = true) (l : List Int) : pText (textL s ++ l) = some (s, l) := by
  have hs : s.size ≤ 16384 := by unfold quotedB at h; simp at h; exact h.1
  unfold pText textL
  rw [List.append_assoc, readC_put (by unfold fitB inB; simp; omega)]
  have hl := bytesL_length s
  show (if s.size ≤ (bytesL s ++ l).length then (if quotedB (strOf ((bytesL s ++ l).take s.size)) = true then some (strOf ((bytesL s ++ l).take s.size), (bytesL s ++ l).drop s.size) else none) else none) = _
  rw [if_pos (by rw [List.length_append]; omega), ← hl, List.take_left, List.drop_left, strOf_bytes, if_pos h]
theorem pTexts_put : ∀ (ts : List ByteArray) (l : List Int), (∀ s ∈ ts, quotedB s = true) → pTexts ts.length (ts.flatMap textL ++ l) = some (ts, l)
  | [], l, _ => rfl
  | s :: ts, l, h => by
    rw [List.length_cons, pTexts, List.flatMap_cons, List.append_assoc, pText_put (h s (by simp))]
    simp only
    rw [pTexts_put ts l fun t ht => h t (by simp [ht])]
theorem pIns_put {i : Ins} (h : fitB i.op = true ∧ fitB i.a = true ∧ fitB i.b = true) (l : List Int) : pIns (insL i ++ l) = some (i, l) := by
  unfold pIns insL
  rw [List.append_assoc, List.append_assoc, read_put h.1]
  simp only
  rw [read_put h.2.1]
  simp only
  rw [read_put h.2.2]
theorem pCode_put : ∀ (is : List Ins) (l : List Int), (∀ i ∈ is, fitB i.op = true ∧ fitB i.a = true ∧ fitB i.b = true) → pCode is.length (is.flatMap insL ++ l) = some (is, l)
  | [], l, _ => rfl
  | i :: is, l, h => by
    rw [List.length_cons, pCode, List.flatMap_cons, List.append_assoc, pIns_put (h i (by simp))]
    simp only
    rw [pCode_put is l fun t ht => h t (by simp [ht])]
theorem pFun_put {f : FunS} (h : fitB f.c = true ∧ fitB f.l = true ∧ fitB f.d = true ∧ fitB (f.code.length : Int) = true) (hc : ∀ i ∈ f.code, fitB i.op = true ∧ fitB i.a = true ∧ fitB i.b = true) (l : List Int) : pFun (funLS f ++ l) = some (f, l) := by
  unfold pFun funLS
  simp only [List.flatMap_cons, List.flatMap_nil, List.append_nil, List.append_assoc]
  rw [read_put h.1]
  simp only
  rw [read_put h.2.1]
  simp only
  rw [read_put h.2.2.1]
  simp only
  rw [readC_put h.2.2.2]
  simp only
  rw [pCode_put f.code l hc]
theorem pFuns_put : ∀ (fs : List FunS) (l : List Int), (∀ f ∈ fs, fitB f.c = true ∧ fitB f.l = true ∧ fitB f.d = true ∧ fitB (f.code.length : Int) = true) → (∀ f ∈ fs, ∀ i ∈ f.code, fitB i.op = true ∧ fitB i.a = true ∧ fitB i.b = true) → pFuns fs.length (fs.flatMap funLS ++ l) = some (fs, l)
  | [], l, _, _ => rfl
  | f :: fs, l, h, hc => by
    rw [List.length_cons, pFuns, List.flatMap_cons, List.append_assoc, pFun_put (h f (by simp)) (hc f (by simp))]
    simp only
    rw [pFuns_put fs l (fun g hg => h g (by simp [hg])) (fun g hg => hc g (by simp [hg]))]
/-- What is encoded is decoded. -/
theorem body_put {p : ProgS} (h : CodesOk p) : pBody (bodyLS p) = some p := by
  unfold pBody bodyLS
  rw [read_put h.main]
  simp only
  rw [readC_put h.ts]
  simp only
  rw [pTexts_put _ _ h.texts]
  simp only
  rw [readC_put h.fs]
  simp only
  have := pFuns_put p.funs [] h.heads h.codes
  rw [List.append_nil] at this
  rw [this]
  exact if_pos rfl
theorem pText_inv {l l' : List Int} {s : ByteArray} (hb : AreBytes l) (h : pText l = some (s, l')) : l = textL s ++ l' ∧ AreBytes l' := by
  unfold pText at h
  cases hr : readC l with
  | none => rw [hr] at h; cases h
  | some x =>
    obtain ⟨n, l1⟩ := x
    rw [hr] at h
    obtain ⟨e, hb1⟩ := readC_inv hb hr
    replace h : (if n ≤ l1.length then (if quotedB (strOf (l1.take n)) = true then some (strOf (l1.take n), l1.drop n) else none) else none) = some (s, l') := h
    by_cases hn : n ≤ l1.length
    · rw [if_pos hn] at h
      by_cases hq : quotedB (strOf (l1.take n)) = true
      · rw [if_pos hq] at h
        cases h
        have ht : AreBytes (l1.take n) := fun x hx => hb1 x (List.mem_of_mem_take hx)
        refine ⟨?_, fun x hx => hb1 x (List.mem_of_mem_drop hx)⟩
        unfold textL
        rw [bytes_strOf ht, strOf_size, List.length_take, Nat.min_eq_left hn, List.append_assoc, List.take_append_drop, e]
      · rw [if_neg hq] at h; cases h
    · rw [if_neg hn] at h; cases h
theorem pTexts_inv : ∀ (m : Nat) (l l' : List Int) (ts : List ByteArray), AreBytes l → pTexts m l = some (ts, l') → l = ts.flatMap textL ++ l' ∧ ts.length = m ∧ AreBytes l'
  | 0, l, l', ts, hb, h => by cases h; exact ⟨rfl, rfl, hb⟩
  | m + 1, l, l', ts, hb, h => by
    rw [pTexts] at h
    cases h1 : pText l with
    | none => rw [h1] at h; cases h
    | some x =>
      obtain ⟨s, l1⟩ := x
      rw [h1] at h
      obtain ⟨e1, b1⟩ := pText_inv hb h1
      simp only at h
      cases h2 : pTexts m l1 with
      | none => rw [h2] at h; cases h
      | some y =>
        obtain ⟨ts', l2⟩ := y
        rw [h2] at h
        cases h
        obtain ⟨e2, c2, b2⟩ := pTexts_inv m l1 l' ts' b1 h2
        exact ⟨by rw [List.flatMap_cons, List.append_assoc, ← e2]; exact e1, by simp [c2], b2⟩
theorem pIns_inv {l l' : List Int} {i : Ins} (hb : AreBytes l) (h : pIns l = some (i, l')) : l = insL i ++ l' ∧ AreBytes l' := by
  unfold pIns at h
  cases h1 : readN l with
  | none => rw [h1] at h; cases h
  | some x =>
    obtain ⟨o, l1⟩ := x
    rw [h1] at h
    obtain ⟨e1, _, b1⟩ := readN_inv hb h1
    simp only at h
    cases h2 : readN l1 with
    | none => rw [h2] at h; cases h
    | some y =>
      obtain ⟨a, l2⟩ := y
      rw [h2] at h
      obtain ⟨e2, _, b2⟩ := readN_inv b1 h2
      simp only at h
      cases h3 : readN l2 with
      | none => rw [h3] at h; cases h
      | some z =>
        obtain ⟨b, l3⟩ := z
        rw [h3] at h
        obtain ⟨e3, _, b3⟩ := readN_inv b2 h3
        cases h
        refine ⟨?_, b3⟩
        unfold insL
        rw [List.append_assoc, List.append_assoc, ← e3, ← e2]; exact e1
theorem pCode_inv : ∀ (m : Nat) (l l' : List Int) (is : List Ins), AreBytes l → pCode m l = some (is, l') → l = is.flatMap insL ++ l' ∧ is.length = m ∧ AreBytes l'
  | 0, l, l', is, hb, h => by cases h; exact ⟨rfl, rfl, hb⟩
  | m + 1, l, l', is, hb, h => by
    rw [pCode] at h
    cases h1 : pIns l with
    | none => rw [h1] at h; cases h
    | some x =>
      obtain ⟨i, l1⟩ := x
      rw [h1] at h
      obtain ⟨e1, b1⟩ := pIns_inv hb h1
      simp only at h
      cases h2 : pCode m l1 with
      | none => rw [h2] at h; cases h
      | some y =>
        obtain ⟨is', l2⟩ := y
        rw [h2] at h
        cases h
        obtain ⟨e2, c2, b2⟩ := pCode_inv m l1 l' is' b1 h2
        exact ⟨by rw [List.flatMap_cons, List.append_assoc, ← e2]; exact e1, by simp [c2], b2⟩
theorem pFun_inv {l l' : List Int} {f : FunS} (hb : AreBytes l) (h : pFun l = some (f, l')) : l = funLS f ++ l' ∧ AreBytes l' := by
  unfold pFun at h
  cases h1 : readN l with
  | none => rw [h1] at h; cases h
  | some x1 =>
    obtain ⟨c, l1⟩ := x1
    rw [h1] at h
    obtain ⟨e1, _, b1⟩ := readN_inv hb h1
    simp only at h
    cases h2 : readN l1 with
    | none => rw [h2] at h; cases h
    | some x2 =>
      obtain ⟨lc, l2⟩ := x2
      rw [h2] at h
      obtain ⟨e2, _, b2⟩ := readN_inv b1 h2
      simp only at h
      cases h3 : readN l2 with
      | none => rw [h3] at h; cases h
      | some x3 =>
        obtain ⟨d, l3⟩ := x3
        rw [h3] at h
        obtain ⟨e3, _, b3⟩ := readN_inv b2 h3
        simp only at h
        cases h4 : readC l3 with
        | none => rw [h4] at h; cases h
        | some x4 =>
          obtain ⟨n, l4⟩ := x4
          rw [h4] at h
          obtain ⟨e4, b4⟩ := readC_inv b3 h4
          simp only at h
          cases h5 : pCode n l4 with
          | none => rw [h5] at h; cases h
          | some x5 =>
            obtain ⟨is, l5⟩ := x5
            rw [h5] at h
            obtain ⟨e5, c5, b5⟩ := pCode_inv n l4 l5 is b4 h5
            cases h
            refine ⟨?_, b5⟩
            unfold funLS
            simp only [List.flatMap_cons, List.flatMap_nil, List.append_nil, List.append_assoc]
            rw [← e5, c5, ← e4, ← e3, ← e2]; exact e1
theorem pFuns_inv : ∀ (m : Nat) (l l' : List Int) (fs : List FunS), AreBytes l → pFuns m l = some (fs, l') → l = fs.flatMap funLS ++ l' ∧ fs.length = m ∧ AreBytes l'
  | 0, l, l', fs, hb, h => by cases h; exact ⟨rfl, rfl, hb⟩
  | m + 1, l, l', fs, hb, h => by
    rw [pFuns] at h
    cases h1 : pFun l with
    | none => rw [h1] at h; cases h
    | some x =>
      obtain ⟨f, l1⟩ := x
      rw [h1] at h
      obtain ⟨e1, b1⟩ := pFun_inv hb h1
      simp only at h
      cases h2 : pFuns m l1 with
      | none => rw [h2] at h; cases h
      | some y =>
        obtain ⟨fs', l2⟩ := y
        rw [h2] at h
        cases h
        obtain ⟨e2, c2, b2⟩ := pFuns_inv m l1 l' fs' b1 h2
        exact ⟨by rw [List.flatMap_cons, List.append_assoc, ← e2]; exact e1, by simp [c2], b2⟩
/-- What is decoded was so encoded. -/
theorem body_inv {l : List Int} {p : ProgS} (hb : AreBytes l) (h : pBody l = some p) : l = bodyLS p := by
  unfold pBody at h
  cases h1 : readN l with
  | none => rw [h1] at h; cases h
  | some x1 =>
    obtain ⟨m, l1⟩ := x1
    rw [h1] at h
    obtain ⟨e1, _, b1⟩ := readN_inv hb h1
    simp only at h
    cases h2 : readC l1 with
    | none => rw [h2] at h; cases h
    | some x2 =>
      obtain ⟨nt, l2⟩ := x2
      rw [h2] at h
      obtain ⟨e2, b2⟩ := readC_inv b1 h2
      simp only at h
      cases h3 : pTexts nt l2 with
      | none => rw [h3] at h; cases h
      | some x3 =>
        obtain ⟨ts, l3⟩ := x3
        rw [h3] at h
        obtain ⟨e3, c3, b3⟩ := pTexts_inv nt l2 l3 ts b2 h3
        simp only at h
        cases h4 : readC l3 with
        | none => rw [h4] at h; cases h
        | some x4 =>
          obtain ⟨nf, l4⟩ := x4
          rw [h4] at h
          obtain ⟨e4, b4⟩ := readC_inv b3 h4
          simp only at h
          cases h5 : pFuns nf l4 with
          | none => rw [h5] at h; cases h
          | some x5 =>
            obtain ⟨fs, l5⟩ := x5
            rw [h5] at h
            obtain ⟨e5, c5, _⟩ := pFuns_inv nf l4 l5 fs b4 h5
            replace h : (if l5 = [] then some (⟨fs, ts, m⟩ : ProgS) else none) = some p := h
            by_cases h6 : l5 = []
            · rw [if_pos h6] at h
              cases h
              subst h6
              rw [List.append_nil] at e5
              unfold bodyLS
              simp only
              rw [c3, c5, ← e5, ← e4, ← e3, ← e2]; exact e1
            · rw [if_neg h6] at h; cases h
end Go.Proofs.YtidffjlpldalpaaGreatDoor
