/- Functions, programs, what is right, as plain data (the definitions of law 46). -/
import Derived.Test.YtidolpcbbbakmaaDp2
import Derived.Deep.DeepCutAuto
import Derived.Deep.RegionHeld3
namespace Go.Proofs.Ytidolpcbbbakmaa
open Go Go.RowKit


structure FunD where
  c : Int
  l : Int
  d : Int
  v : Value
  code : List Ins
  deriving Inhabited
def funCells (l : List FunD) : List Value := l.flatMap fun f => [.int .i64 f.c, .int .i64 f.l, .int .i64 f.d, f.v]
/-- The functions of a program read as a list. -/
def IsFuns (w : World) (v : Value) (l : List FunD) : Prop := IsRow w v l.length (funCells l) ∧ ∀ f ∈ l, IsCode w f.v f.code
theorem IsFuns.below {w w' : World} {v : Value} {l : List FunD} (h : IsFuns w v l) (hb : Below w.heap.size w w') : IsFuns w' v l :=
  ⟨h.1.below hb, fun f hf => (h.2 f hf).below hb⟩
def AnyW (b : Bool) (w : World) (e : Ending) (w' : World) : Prop := ∃ r : Int, e = .returned (.int .i64 r) ∧ decide (0 ≤ r) = b ∧ Below w.heap.size w w'

def opnds (op : Int) : Int := if op = 6 ∨ op = 8 ∨ op = 9 then 0 else if op = 7 ∨ op = 13 then 2 else 1
def rightI (nt : Nat) (fs : List FunD) (c l : Int) (code : List Ins) (k : Nat) (i : Ins) : Bool :=
  if knownB i.op = false then false
  else if opnds i.op < 1 ∧ i.a ≠ 0 ∨ opnds i.op < 2 ∧ i.b ≠ 0 then false
  else if i.op = 1 then inB i.a (-4503599627370496) 4503599627370496
  else if i.op = 2 then inB i.a 0 ((nt : Int) - 1)
  else if i.op = 3 ∨ i.op = 4 then inB i.a 0 (l - 1)
  else if i.op = 5 then inB i.a 0 (c - 1)
  else if i.op = 7 then inB i.a 0 ((fs.length : Int) - 1) && decide (i.b = (fs.getD i.a.toNat default).c)
  else if i.op = 10 then inB i.a 0 1000
  else if i.op = 11 ∨ i.op = 12 then inB i.a 0 999
  else if i.op = 13 then inB i.a 0 (l - 1) && (inB i.b 1 1000 && (decide ((k : Int) + i.b < code.length) && ((code.drop (k + 1)).take i.b.toNat).all (·.op == 14)))
  else if i.op = 14 then inB i.a 0 ((code.length : Int) - 1)
  else if i.op = 15 then inB i.a 1 14
  else if i.op = 16 then inB i.a 1 1000000
  else true
def rightB (nt : Nat) (fs : List FunD) (c l : Int) (code : List Ins) (k : Nat) : Bool := rightI nt fs c l code k (code.getD k default)
theorem rightB_eq (nt : Nat) (fs : List FunD) (c l : Int) (code : List Ins) (k : Nat) : rightB nt fs c l code k = rightI nt fs c l code k (code.getD k default) := rfl
theorem funCells_length (l : List FunD) : (funCells l).length = l.length * 4 := by
  induction l with
  | nil => rfl
  | cons x l ih => simp [funCells] at ih ⊢; omega
theorem funCells_at : ∀ (l : List FunD) (k : Nat), k < l.length → (funCells l).getD (k * 4) undef = .int .i64 (l.getD k default).c ∧ (funCells l).getD (k * 4 + 1) undef = .int .i64 (l.getD k default).l ∧ (funCells l).getD (k * 4 + 2) undef = .int .i64 (l.getD k default).d ∧ (funCells l).getD (k * 4 + 3) undef = (l.getD k default).v
  | [], k, h => by simp at h
  | x :: l, 0, _ => by simp [funCells]
  | x :: l, k + 1, h => by
    have ih := funCells_at l k (by simpa using h)
    have e : funCells (x :: l) = [.int .i64 x.c, .int .i64 x.l, .int .i64 x.d, x.v] ++ funCells l := rfl
    have g : ∀ j, (funCells (x :: l)).getD (j + 4) undef = (funCells l).getD j undef := fun j => by
      rw [e]; simp [List.getD]
    have e1 : (k + 1) * 4 = k * 4 + 4 := by omega
    refine ⟨?_, ?_, ?_, ?_⟩
    · rw [e1, g]; exact ih.1
    · rw [show (k + 1) * 4 + 1 = k * 4 + 1 + 4 by omega, g]; exact ih.2.1
    · rw [show (k + 1) * 4 + 2 = k * 4 + 2 + 4 by omega, g]; exact ih.2.2.1
    · rw [show (k + 1) * 4 + 3 = k * 4 + 3 + 4 by omega, g]; exact ih.2.2.2
theorem IsFuns.at' {w : World} {v : Value} {fs : List FunD} (h : IsFuns w v fs) (n : Nat) (hn : n < fs.length) :
    ∃ b off c, v = .slice (some ⟨b, off, none⟩) fs.length c ∧ fs.length ≤ c ∧ b < w.heap.size ∧ w.cell? ⟨b, off + n * 4, none⟩ = some (.int .i64 (fs.getD n default).c) ∧ w.cell? ⟨b, off + n * 4 + 1, none⟩ = some (.int .i64 (fs.getD n default).l) ∧ w.cell? ⟨b, off + n * 4 + 2, none⟩ = some (.int .i64 (fs.getD n default).d) ∧ w.cell? ⟨b, off + n * 4 + 3, none⟩ = some (fs.getD n default).v := by
  obtain ⟨⟨a, c, rfl, hlc, hcell⟩, _⟩ := h
  obtain ⟨b, off, rfl, hlt, hc⟩ := hcell (by omega)
  obtain ⟨c0, c1, c2, c3⟩ := funCells_at fs n hn
  have hlen := funCells_length fs
  refine ⟨b, off, c, rfl, hlc, hlt, ?_, ?_, ?_, ?_⟩
  · rw [hc (n * 4) (by omega), c0]
  · rw [Nat.add_assoc, hc (n * 4 + 1) (by omega), c1]
  · rw [Nat.add_assoc, hc (n * 4 + 2) (by omega), c2]
  · rw [Nat.add_assoc, hc (n * 4 + 3) (by omega), c3]
theorem beq_dec (a b : Int) : (a == b) = decide (a = b) := by by_cases h : a = b <;> simp [h]
theorem isCode_sub {w : World} {b off c : Nat} {code : List Ins} {k m : Nat} (h : ∀ j, j < (insCells code).length → w.cell? ⟨b, off + j, none⟩ = some ((insCells code).getD j undef)) (hlt : b < w.heap.size) (hc : code.length ≤ c) (hk : k + m ≤ code.length) :
    IsCode w (.slice (some ⟨b, off + k * 3, none⟩) m (c - k)) ((code.drop k).take m) := by
  have hlen := insCells_length code
  have hl : ((code.drop k).take m).length = m := by simp; omega
  refine ⟨_, _, by rw [hl], by omega, fun _ => ⟨b, off + k * 3, rfl, hlt, fun j hj => ?_⟩⟩
  rw [insCells_length, hl] at hj
  have e : (insCells ((code.drop k).take m)).getD j undef = (insCells code).getD (k * 3 + j) undef := by
    have e0 : insCells code = insCells (code.take k) ++ (insCells ((code.drop k).take m) ++ insCells ((code.drop k).drop m)) := by
      rw [show insCells ((code.drop k).take m) ++ insCells ((code.drop k).drop m) = insCells ((code.drop k).take m ++ (code.drop k).drop m) from (List.flatMap_append).symm, List.take_append_drop]
      rw [show insCells (code.take k) ++ insCells (code.drop k) = insCells (code.take k ++ code.drop k) from (List.flatMap_append).symm, List.take_append_drop]
    have l0 : (insCells (code.take k)).length = k * 3 := by rw [insCells_length]; simp; omega
    have l1 : (insCells ((code.drop k).take m)).length = m * 3 := by rw [insCells_length, hl]
    rw [e0]
    simp only [List.getD_eq_getElem?_getD]
    rw [List.getElem?_append_right (by omega), l0, show k * 3 + j - k * 3 = j by omega, List.getElem?_append_left (by omega)]
  rw [e, Nat.add_assoc, h _ (by omega)]
def RightOk (b : Bool) (w : World) (e : Ending) (w' : World) : Prop := e = .returned (.bool b) ∧ Below w.heap.size w w'
theorem getD_mem {α : Type} (d : α) (l : List α) (k : Nat) (h : k < l.length) : l.getD k d ∈ l := by
  have : l.getD k d = l[k] := by simp [List.getD, h]
  rw [this]; exact List.getElem_mem h

def visB (b : UInt8) : Bool := b == 10 || (decide (32 ≤ b.toNat) && decide (b.toNat ≤ 126))
def quotedB (s : ByteArray) : Bool := decide (s.size ≤ 16384) && s.data.toList.all visB
def notQ (s : ByteArray) : Bool := !quotedB s
def strCells (l : List ByteArray) : List Value := l.map Value.string
theorem strCells_length (l : List ByteArray) : (strCells l).length = l.length := by simp [strCells]
theorem strCells_at (l : List ByteArray) (k : Nat) (h : k < l.length) : (strCells l).getD k undef = .string (l.getD k default) := by simp [strCells, List.getD, h]
def IsTexts (w : World) (v : Value) (l : List ByteArray) : Prop := IsRow w v l.length (strCells l)
structure ProgD where
  funs : List FunD
  texts : List ByteArray
  main : Int
def IsProg (w : World) (fv tv : Value) (p : ProgD) : Prop := IsFuns w fv p.funs ∧ IsTexts w tv p.texts
theorem IsProg.below {w w' : World} {fv tv : Value} {p : ProgD} (h : IsProg w fv tv p) (hb : Below w.heap.size w w') : IsProg w' fv tv p := ⟨h.1.below hb, IsRow.below h.2 hb⟩
def headB (f : FunD) : Bool := inB f.c 0 1000 && (inB f.l 1 4096 && (inB f.d 0 4096 && inB (f.code.length : Int) 1 16384))
def rightsB (p : ProgD) (f : FunD) : Bool := (List.range f.code.length).all fun k => rightB p.texts.length p.funs f.c f.l f.code k
def mainB (p : ProgD) : Bool := inB p.main 0 ((p.funs.length : Int) - 1) && decide ((p.funs.getD p.main.toNat default).c = 0)
def validB (p : ProgD) : Bool := inB (p.funs.length : Int) 1 4096 && (decide (p.texts.length ≤ 1000) && (!p.texts.any notQ && (p.funs.all headB && (p.funs.all (rightsB p) && mainB p))))
def ValidOk (p : ProgD) (w : World) (e : Ending) (w' : World) : Prop := e = .returned (.bool (validB p)) ∧ Below w.heap.size w w'
def badHead (f : FunD) : Bool := !headB f
def badRights (p : ProgD) (f : FunD) : Bool := !rightsB p f
theorem all_of {α : Type} (l : List α) (p : α → Bool) : l.all p = !l.any (fun x => !p x) := by
  induction l with
  | nil => rfl
  | cons x l ih => simp [ih]
theorem valid_c0 (p : ProgD) (h : inB (p.funs.length : Int) 1 4096 = false) : validB p = false := by unfold validB; rw [h]; rfl
theorem valid_c1 (p : ProgD) (h : ¬ p.texts.length ≤ 1000) : validB p = false := by unfold validB; simp [h]
theorem valid_c2 (p : ProgD) (h : p.texts.any notQ = true) : validB p = false := by unfold validB; simp [h]
theorem valid_c3 (p : ProgD) (h : p.funs.any badHead = true) : validB p = false := by unfold validB; rw [all_of p.funs headB]; rw [show p.funs.any (fun x => !headB x) = true from h]; simp
theorem valid_c4 (p : ProgD) (h : p.funs.any (badRights p) = true) : validB p = false := by unfold validB; rw [all_of p.funs (rightsB p)]; rw [show p.funs.any (fun x => !rightsB p x) = true from h]; simp
theorem valid_ok (p : ProgD) (h0 : inB (p.funs.length : Int) 1 4096 = true) (h1 : p.texts.length ≤ 1000) (h2 : p.texts.any notQ = false) (h3 : p.funs.any badHead = false) (h4 : p.funs.any (badRights p) = false) : validB p = mainB p := by
  unfold validB; rw [all_of p.funs headB, all_of p.funs (rightsB p), show p.funs.any (fun x => !headB x) = false from h3, show p.funs.any (fun x => !rightsB p x) = false from h4, h0, h2]; simp [h1]
def showB (c : Int) : Bool := decide (32 ≤ c) && decide (c ≤ 126)
theorem ub (c : UInt8) : 0 ≤ (c.toNat : Int) ∧ (c.toNat : Int) ≤ 255 := ⟨by omega, by have := c.toNat_lt; omega⟩
theorem u8_of (b : UInt8) (n : Nat) (hn : n < 256) : ((b.toNat : Int) == (n : Int)) = (b == UInt8.ofNat n) := by
  by_cases h : b = UInt8.ofNat n
  · subst h
    have : (UInt8.ofNat n).toNat = n := by simp [Nat.mod_eq_of_lt hn]
    rw [this]; simp
  · have h2 : b.toNat ≠ n := fun e => h (by rw [← e]; simp)
    have h3 : ¬ ((b.toNat : Int) = (n : Int)) := by omega
    rw [beq_eq_false_iff_ne.2 h3, beq_eq_false_iff_ne.2 h]
theorem take_next (s : ByteArray) (k : Nat) (h : k < s.size) : s.data.toList.take (k + 1) = s.data.toList.take k ++ [s[k]] := by
  rw [List.take_succ_eq_append_getElem (by simpa using h)]; rfl
end Go.Proofs.Ytidolpcbbbakmaa
