/- Constructors: kinds, nodes, size, depth, substitution, the normal form; plain. The normal form of a well-formed constructor is well-formed; plain. What all texts of law 11 lean on: worlds, rows, strings. Constructors and kinds in memory. kind.size and kind.Valid; the reference's count and Valid. -/
import Derived.Test.YtkiffgdinmpljaaGreatDoorLaw
import Derived.WalkKit
import Derived.WalkLawsBesides
import Derived.WalkSpells
import Derived.Outline
import Derived.BigQuiet
import Derived.Deep.QuietTactic
import Derived.Lib.Hide
import Derived.StillTailTactics
import Derived.Deep.WholeRow
import Derived.Maps.AppendAt
import Derived.Lib.ItoaLen
import Derived.Deep.DeepCutAuto
import Derived.Deep.RegionHeld3
import Derived.Laws.BitsAllLaws
import Derived.Laws.ResultCell
import Derived.Lib.SliceRun
import Derived.Lib.ConvBytes
import Derived.Deep.AppendLies
import Derived.Shelf.Bytes.SlEqualAll
import Derived.Test.YtkiffgdinmpljaaGreatDoorChecked
set_option linter.unusedVariables false
set_option linter.unusedSimpArgs false
namespace Go.Proofs.YtkiffgdinmpljaaGreatDoor
open Go Go.RowKit
theorem l1Q {α : Type _} {l : List α} {i : Nat} {a : α} : l.toArray.setIfInBounds i a = (l.set i a).toArray := List.setIfInBounds_toArray _ _ _
theorem l2Q {α : Type _} {a b : α} {l : List α} : (a :: l).set 0 b = b :: l := List.set_cons_zero
theorem l3Q {α : Type _} {a b : α} {l : List α} {n : Nat} : (a :: l).set (n + 1) b = a :: l.set n b := List.set_cons_succ
theorem bFQ {b : Bool} (h : b ≠ true) : b = false := Bool.eq_false_iff.2 h
theorem nEQ {α : Type _} [BEq α] [LawfulBEq α] {a b : α} (h : a ≠ b) : (a == b) = false := beq_eq_false_iff_ne.2 h
theorem nNQ {α : Type _} [BEq α] [LawfulBEq α] {a b : α} (h : a ≠ b) : (a != b) = true := bne_iff_ne.2 h
theorem nLQ (n : Nat) : n<=n := Nat.le_refl n
theorem oJQ {α : Type _} {a b : α} (h : some a = some b) : a = b := Option.some.inj h
theorem hJQ {p : Prop} (h : p) : Hid p := Lib.hid h
set_option maxHeartbeats 8000000
set_option maxRecDepth 100000
inductive Kd where
 | mk (l : List Kd)
 deriving Inhabited
inductive Cn where
 | mk (op n : Int) (s : ByteArray) (k : Kd) (ns : List ByteArray) (l : List Cn)
 deriving Inhabited
def Kd.l : Kd->List Kd | .mk l => l
def Cn.op : Cn->Int | .mk op _ _ _ _ _ => op
def Cn.n : Cn->Int | .mk _ n _ _ _ _ => n
def Cn.s : Cn->ByteArray | .mk _ _ s _ _ _ => s
def Cn.k : Cn->Kd | .mk _ _ _ k _ _ => k
def Cn.ns : Cn->List ByteArray | .mk _ _ _ _ ns _ => ns
def Cn.l : Cn->List Cn | .mk _ _ _ _ _ l => l
mutual
def sizeK : Kd->Nat
 | .mk l => sizeKL l + 1
def sizeKL : List Kd->Nat
 | [] => 0
 | x :: r => sizeK x + sizeKL r
end
mutual
def depthK : Kd->Nat
 | .mk l => depthKL l + 1
def depthKL : List Kd->Nat
 | [] => 0
 | x :: r => max (depthK x) (depthKL r)
end
mutual
def formK : Kd->Bool
 | .mk l => (l.length == 0 || l.length == 2) && formKL l
def formKL : List Kd->Bool
 | [] => true
 | x :: r => formK x && formKL r
end
def validK (k : Kd) : Bool := formK k && decide (sizeK k<=20000) && decide (depthK k<=400)
mutual
def sizeC : Cn->Nat
 | .mk _ _ _ _ _ l => sizeCL l + 1
def sizeCL : List Cn->Nat
 | [] => 0
 | x :: r => sizeC x + sizeCL r
end
mutual
def dCQ : Cn->Nat
 | .mk _ _ _ _ _ l => depthCL l + 1
def depthCL : List Cn->Nat
 | [] => 0
 | x :: r => max (dCQ x) (depthCL r)
end
def binderB (op : Int) : Bool := op == 9 || op == 10 || op == 11 || op == 13
def labelledB (op : Int) : Bool := op == 7 || op == 8
def deepC (op : Int) (d : Nat) : Nat := if binderB op = true then d + 1 else d
def partsC (op : Int) (ns : Nat) : Int := if op < 1 ∨ 13 < op then -1 else if labelledB op = true then ns else if binderB op = true then 1 else if op = 6 ∨ op = 12 then 2 else 0
section
variable (cst : ByteArray->Bool) (lab : List ByteArray->Bool)
def nodeC (op n : Int) (s : ByteArray) (k : Kd) (ns : List ByteArray) (m : Nat) : Bool :=
 decide ((m : Int) = partsC op ns.length) && (if op = 1 ∨ op = 3 then decide (0<=n) && decide (n<=20000) else n == 0) && (if op = 2 then cst s else s.size == 0) && (if binderB op || op == 2 then validK k else k.l.isEmpty) && (if labelledB op = true then lab ns else ns.isEmpty)
mutual
def formC : Cn->Bool
 | .mk op n s k ns l => nodeC cst lab op n s k ns l.length && formCL l
def formCL : List Cn->Bool
 | [] => true
 | x :: r => formC x && formCL r
end
def smallC (c : Cn) : Bool := decide (sizeC c<=20000) && decide (dCQ c<=400)
def validC (c : Cn) : Bool := smallC c && formC cst lab c
end
def varC (n : Int) : Cn := .mk 1 n ⟨#[]⟩ (.mk []) [] []
mutual
def shiftC (by' : Int) (from' : Nat) : Cn->Cn
 | .mk op n s k ns l => if op = 1 then (if (from' : Int)<=n then varC (n + by') else .mk op n s k ns l) else .mk op n s k ns (shiftCL by' (deepC op from') l)
def shiftCL (by' : Int) (from' : Nat) : List Cn->List Cn
 | [] => []
 | x :: r => shiftC by' from' x :: shiftCL by' from' r
end
mutual
def sC9 (a : List Cn) (d : Nat) : Cn->Cn
 | .mk op n s k ns l => if op = 1 then (if n < d then .mk op n s k ns l else if n - d < a.length then shiftC d 0 (a.getD (n - d).toNat default) else varC (n - a.length)) else .mk op n s k ns (substCL a (deepC op d) l)
def substCL (a : List Cn) (d : Nat) : List Cn->List Cn
 | [] => []
 | x :: r => sC9 a d x :: substCL a d r
end
mutual
def occC (i : Int) : Cn->Bool
 | .mk op n _ _ _ l => if op = 1 then n == i else occCL (if binderB op = true then i + 1 else i) l
def occCL (i : Int) : List Cn->Bool
 | [] => false
 | x :: r => occC i x || occCL i r
end
def etaC (c : Cn) : Bool :=
 c.op == 11 && (c.l.getD 0 default).op == 12 && ((c.l.getD 0 default).l.getD 1 default).op == 1 && ((c.l.getD 0 default).l.getD 1 default).n == 0 && !occC 0 ((c.l.getD 0 default).l.getD 0 default)
def normL (f : Cn->Nat->Option (Cn × Nat)) : List Cn->Nat->Option (List Cn × Nat)
 | [], left => some ([], left)
 | x :: r, left => match f x left with
   | none => none
   | some (y, m) => (normL f r m).map fun z => (y :: z.1, z.2)
def hNQ (cst : ByteArray->Bool) (lab : List ByteArray->Bool) (g : Cn->Nat->Option (Cn × Nat)) (out : Cn) (left : Nat) : Option (Cn × Nat) :=
 if smallC out = false then none
 else if out.op = 12/\(out.l.getD 0 default).op = 11 then
  match left with
  | 0 => none
  | m + 1 => if validC cst lab (sC9 [out.l.getD 1 default] 0 ((out.l.getD 0 default).l.getD 0 default)) = true then g (sC9 [out.l.getD 1 default] 0 ((out.l.getD 0 default).l.getD 0 default)) m else none
 else if etaC out = true then some (shiftC (-1) 0 ((out.l.getD 0 default).l.getD 0 default), left)
 else some (out, left)
def normN (cst : ByteArray->Bool) (lab : List ByteArray->Bool) : Nat->Cn->Nat->Option (Cn × Nat)
 | 0, _, _ => none
 | F + 1, .mk op n s k ns l, left => match normL (normN cst lab F) l left with
   | none => none
   | some (l', m) => hNQ cst lab (normN cst lab F) (.mk op n s k ns l') m
def redexC (c : Cn) : Bool := (c.op == 12 && (c.l.getD 0 default).op == 11) || etaC c
mutual
def normalC : Cn->Bool
 | .mk op n s k ns l => !redexC (.mk op n s k ns l) && normalCL l
def normalCL : List Cn->Bool
 | [] => true
 | x :: r => normalC x && normalCL r
end
theorem formC_mk (cst : ByteArray->Bool) (lab : List ByteArray->Bool) (op n : Int) (s : ByteArray) (k : Kd) (ns : List ByteArray) (l : List Cn) : formC cst lab (.mk op n s k ns l) = (nodeC cst lab op n s k ns l.length && formCL cst lab l) := by rw [formC]
theorem formCL_all (cst : ByteArray->Bool) (lab : List ByteArray->Bool) : ∀ l : List Cn, formCL cst lab l = l.all (formC cst lab)
 | [] => by rw [formCL]; rfl
 | x :: r => by rw [formCL, formCL_all cst lab r, List.all_cons]
theorem shiftCL_map (b : Int) (f : Nat) : ∀ l : List Cn, shiftCL b f l = l.map (shiftC b f)
 | [] => by rw [shiftCL]; rfl
 | x :: r => by rw [shiftCL, shiftCL_map b f r, List.map_cons]
theorem substCL_map (a : List Cn) (d : Nat) : ∀ l : List Cn, substCL a d l = l.map (sC9 a d)
 | [] => by rw [substCL]; rfl
 | x :: r => by rw [substCL, substCL_map a d r, List.map_cons]
theorem occCL_any (i : Int) : ∀ l : List Cn, occCL i l = l.any (occC i)
 | [] => by rw [occCL]; rfl
 | x :: r => by rw [occCL, occCL_any i r, List.any_cons]
theorem normalCL_all : ∀ l : List Cn, normalCL l = l.all normalC
 | [] => by rw [normalCL]; rfl
 | x :: r => by rw [normalCL, normalCL_all r, List.all_cons]
theorem shiftC_mk (b : Int) (f : Nat) (op n : Int) (s : ByteArray) (k : Kd) (ns : List ByteArray) (l : List Cn) : shiftC b f (.mk op n s k ns l) = if op = 1 then (if (f : Int)<=n then varC (n + b) else .mk op n s k ns l) else .mk op n s k ns (l.map (shiftC b (deepC op f))) := by rw [shiftC, shiftCL_map]
theorem substC_mk (a : List Cn) (d : Nat) (op n : Int) (s : ByteArray) (k : Kd) (ns : List ByteArray) (l : List Cn) : sC9 a d (.mk op n s k ns l) = if op = 1 then (if n < d then .mk op n s k ns l else if n - d < a.length then shiftC d 0 (a.getD (n - d).toNat default) else varC (n - a.length)) else .mk op n s k ns (l.map (sC9 a (deepC op d))) := by rw [sC9, substCL_map]
theorem occC_mk (i : Int) (op n : Int) (s : ByteArray) (k : Kd) (ns : List ByteArray) (l : List Cn) : occC i (.mk op n s k ns l) = if op = 1 then n == i else l.any (occC (if binderB op = true then i + 1 else i)) := by rw [occC, occCL_any]
theorem normalC_mk (op n : Int) (s : ByteArray) (k : Kd) (ns : List ByteArray) (l : List Cn) : normalC (.mk op n s k ns l) = (!redexC (.mk op n s k ns l) && l.all normalC) := by rw [normalC, normalCL_all]
theorem sMQ (op n : Int) (s : ByteArray) (k : Kd) (ns : List ByteArray) (l : List Cn) : sizeC (.mk op n s k ns l) = sizeCL l + 1 := by rw [sizeC]
theorem depthC_mk (op n : Int) (s : ByteArray) (k : Kd) (ns : List ByteArray) (l : List Cn) : dCQ (.mk op n s k ns l) = depthCL l + 1 := by rw [dCQ]
theorem normN_mk (cst : ByteArray->Bool) (lab : List ByteArray->Bool) (F : Nat) (op n : Int) (s : ByteArray) (k : Kd) (ns : List ByteArray) (l : List Cn) (left : Nat) : normN cst lab (F + 1) (.mk op n s k ns l) left = match normL (normN cst lab F) l left with | none => none | some (l', m) => hNQ cst lab (normN cst lab F) (.mk op n s k ns l') m := rfl
theorem Cn.ind {P : Cn->Prop} (h : ∀ op n s k ns l, (∀ x ∈ l, P x)->P (.mk op n s k ns l)) : ∀ c, P c := fun c => by
 refine Cn.rec (motive_1 := P) (motive_2 := fun l => ∀ x ∈ l, P x) ?_ ?_ ?_ c
 ·intro op n s k ns l ih; exact h op n s k ns l ih
 ·intro x hx; cases hx
 ·intro a l h1 h2 x hx
  rcases List.mem_cons.1 hx with rfl | hx
  ·exact h1
  ·exact h2 x hx
variable (cst : ByteArray->Bool) (lab : List ByteArray->Bool)
theorem formC_iff (op n : Int) (s : ByteArray) (k : Kd) (ns : List ByteArray) (l : List Cn) : formC cst lab (.mk op n s k ns l) = true ↔ nodeC cst lab op n s k ns l.length = true/\∀ x ∈ l, formC cst lab x = true := by
 rw [formC_mk, formCL_all, Bool.and_eq_true, List.all_eq_true]
theorem node_op {op n : Int} {s : ByteArray} {k : Kd} {ns : List ByteArray} {m : Nat} (h : nodeC cst lab op n s k ns m = true) : (m : Int) = partsC op ns.length/\((op = 1 ∨ op = 3)->0<=n/\n<=20000) := by
 unfold nodeC at h
 simp only [Bool.and_eq_true, decide_eq_true_eq] at h
 obtain ⟨⟨⟨⟨h1, h2⟩, _⟩, _⟩, _⟩ := h
 refine ⟨h1, fun ho => ?_⟩
 rw [if_pos ho] at h2
 simpa using h2
theorem parts_two {op : Int} {ns : Nat} (h : op = 6 ∨ op = 12) : partsC op ns = 2 := by rcases h with rfl | rfl <;> rfl
theorem parts_one {op : Int} {ns : Nat} (h : binderB op = true) : partsC op ns = 1 := by
 unfold binderB at h
 simp only [Bool.or_eq_true, beq_iff_eq] at h
 rcases h with ((rfl | rfl) | rfl) | rfl <;> rfl
theorem form_app {n : Int} {s : ByteArray} {k : Kd} {ns : List ByteArray} {l : List Cn} (h : formC cst lab (.mk 12 n s k ns l) = true) : ∃ f a, l = [f, a]/\formC cst lab f = true/\formC cst lab a = true := by
 obtain ⟨h1, h2⟩ := (formC_iff cst lab ..).1 h
 have h3 := (node_op cst lab h1).1
 rw [parts_two (.inr rfl)] at h3
 match l, h3, h2 with
 | [f, a], _, h2 => exact ⟨f, a, rfl, h2 f (by simp), h2 a (by simp)⟩
theorem form_bind {op n : Int} {s : ByteArray} {k : Kd} {ns : List ByteArray} {l : List Cn} (hb : binderB op = true) (h : formC cst lab (.mk op n s k ns l) = true) : ∃ f, l = [f]/\formC cst lab f = true := by
 obtain ⟨h1, h2⟩ := (formC_iff cst lab ..).1 h
 have h3 := (node_op cst lab h1).1
 rw [parts_one hb] at h3
 match l, h3, h2 with
 | [f], _, h2 => exact ⟨f, rfl, h2 f (by simp)⟩
theorem var_form {n : Int} (h0 : 0<=n) (h1 : n<=20000) : formC cst lab (varC n) = true := by
 unfold varC
 refine (formC_iff cst lab ..).2 ⟨?_, fun x hx => by cases hx⟩
 unfold nodeC
 have : (⟨#[]⟩ : ByteArray).size = 0 := rfl
 simp [h0, h1, Kd.l, partsC, binderB, labelledB, this]
theorem shift_form : ∀ (c : Cn) (d : Nat), formC cst lab c = true->occC d c = false->formC cst lab (shiftC (-1) d c) = true := by
 refine Cn.ind (fun op n s k ns l ih d h ho => ?_)
 obtain ⟨h1, h2⟩ := (formC_iff cst lab ..).1 h
 rw [shiftC_mk]
 rw [occC_mk] at ho
 by_cases hop : op = 1
 ·rw [if_pos hop]
  rw [if_pos hop] at ho
  have hn := (node_op cst lab h1).2 (.inl hop)
  have hne : n ≠ d := by simpa using ho
  by_cases hd : (d : Int)<=n
  ·rw [if_pos hd]; exact var_form cst lab (by omega) (by omega)
  ·rw [if_neg hd]; exact h
 ·rw [if_neg hop]
  rw [if_neg hop, List.any_eq_false] at ho
  refine (formC_iff cst lab ..).2 ⟨by rw [List.length_map]; exact h1, fun x hx => ?_⟩
  obtain ⟨y, hy, rfl⟩ := List.mem_map.1 hx
  refine ih y hy _ (h2 y hy) ?_
  have := ho y hy
  unfold deepC
  by_cases hb : binderB op = true
  ·rw [if_pos hb] at this ⊢; simpa using this
  ·rw [if_neg hb] at this ⊢; simpa using this
theorem eta_shape {c : Cn} (hf : formC cst lab c = true) (h : etaC c = true) : ∃ n s k ns n' s' k' ns' f a, c = .mk 11 n s k ns [.mk 12 n' s' k' ns' [f, a]]/\a.op = 1/\a.n = 0/\occC 0 f = false/\formC cst lab f = true := by
 obtain ⟨op, n, s, k, ns, l⟩ := c
 unfold etaC at h
 simp only [Bool.and_eq_true, beq_iff_eq, Bool.not_eq_true', Cn.op, Cn.l] at h
 obtain ⟨⟨⟨⟨h1, h2⟩, h3⟩, h4⟩, h5⟩ := h
 have h1' : op = 11 := h1
 subst h1'
 obtain ⟨b, rfl, hb⟩ := form_bind cst lab rfl hf
 obtain ⟨op', n', s', k', ns', l'⟩ := b
 have h2' : op' = 12 := h2
 subst h2'
 obtain ⟨f, a, rfl, hff, _⟩ := form_app cst lab hb
 exact ⟨n, s, k, ns, n', s', k', ns', f, a, rfl, h3, h4, h5, hff⟩
theorem normL_form {g : Cn->Nat->Option (Cn × Nat)} (hg : ∀ c left c' m, formC cst lab c = true->g c left = some (c', m)->formC cst lab c' = true/\m<=left) : ∀ (l : List Cn) (left : Nat) (l' : List Cn) (m : Nat), (∀ x ∈ l, formC cst lab x = true)->normL g l left = some (l', m)->l'.length = l.length/\(∀ x ∈ l', formC cst lab x = true)/\m<=left
 | [], left, l', m, _, h => by
   simp only [normL, Option.some.injEq, Prod.mk.injEq] at h
   obtain ⟨rfl, rfl⟩ := h
   exact ⟨rfl, (fun x hx => by cases hx), Nat.le_refl _⟩
 | x :: r, left, l', m, hl, h => by
   rw [normL] at h
   split at h
   ·cases h
   ·rename_i y m1 hy
    obtain ⟨⟨r', m2⟩, hr, he⟩ := Option.map_eq_some_iff.1 h
    simp only [Prod.mk.injEq] at he
    obtain ⟨rfl, rfl⟩ := he
    obtain ⟨g1, g2⟩ := hg x left y m1 (hl x (by simp)) hy
    obtain ⟨i1, i2, i3⟩ := normL_form hg r m1 r' m2 (fun z hz => hl z (by simp [hz])) hr
    refine ⟨by simp [i1], fun z hz => ?_, by omega⟩
    rcases List.mem_cons.1 hz with rfl | hz
    ·exact g1
    ·exact i2 z hz
theorem norm_form : ∀ (F : Nat) (c : Cn) (left : Nat) (c' : Cn) (m : Nat), formC cst lab c = true->normN cst lab F c left = some (c', m)->formC cst lab c' = true/\m<=left
 | 0, c, left, c', m, _, h => by cases h
 | F + 1, .mk op n s k ns l, left, c', m, hf, h => by
   rw [normN_mk] at h
   split at h
   ·cases h
   ·rename_i l' m1 hl
    obtain ⟨h1, h2⟩ := (formC_iff cst lab ..).1 hf
    obtain ⟨e1, e2, e3⟩ := normL_form cst lab (fun c left c' m hc h => norm_form F c left c' m hc h) l left l' m1 h2 hl
    have ho : formC cst lab (.mk op n s k ns l') = true := (formC_iff cst lab ..).2 ⟨by rw [e1]; exact h1, e2⟩
    unfold hNQ at h
    split at h
    ·cases h
    ·split at h
     ·cases m1 with
      | zero => cases h
      | succ m2 =>
        simp only at h
        split at h
        ·rename_i hv
         unfold validC at hv
         rw [Bool.and_eq_true] at hv
         obtain ⟨i1, i2⟩ := norm_form F _ m2 c' m hv.2 h
         exact ⟨i1, by omega⟩
        ·cases h
     ·split at h
      ·rename_i he
       obtain ⟨_, _, _, _, _, _, _, _, f, a, hc, _, _, hocc, hff⟩ := eta_shape cst lab ho he
       rw [hc] at h
       simp only [Cn.l, List.getD_cons_zero, Option.some.injEq, Prod.mk.injEq] at h
       obtain ⟨rfl, rfl⟩ := h
       exact ⟨shift_form cst lab f 0 hff hocc, e3⟩
      ·simp only [Option.some.injEq, Prod.mk.injEq] at h
       obtain ⟨rfl, rfl⟩ := h
       exact ⟨ho, e3⟩
theorem nHQ (w : World) (o : Obj) : (w.alloc o).heap[w.heap.size]? = some o := by simp [World.alloc, -World.alloc_eq]
theorem hLQ {w : World} {k : Nat} {o : Obj} (h : w.heap[k]? = some o) : k < w.heap.size := by
 rcases Nat.lt_or_ge k w.heap.size with h' | h'
 ·exact h'
 ·simp [Array.getElem?_eq_none h'] at h
def strCells (l : List ByteArray) : List Value := l.map Value.string
def RowP (P : Nat->Prop) (w : World) (v : Value) (len : Nat) (xs : List Value) : Prop :=
 ∃ (a : Option Addr) (c : Nat), v = .slice a len c/\len<=c/\(0 < len->∃ b off, a = some ⟨b, off, none⟩/\P b/\b < w.heap.size/\∀ j, j < xs.length->w.cell? ⟨b, off + j, none⟩ = some (xs.getD j undef))
theorem RowP.keep {P : Nat->Prop} {w w' : World} {v : Value} {n : Nat} {xs : List Value} (h : RowP P w v n xs) (hs : w.heap.size<=w'.heap.size) (hb : ∀ b, P b->b < w.heap.size->w'.heap[b]? = w.heap[b]?) : RowP P w' v n xs := by
 obtain ⟨a, c, hv, hlc, hl⟩ := h
 refine ⟨a, c, hv, hlc, fun hne => ?_⟩
 obtain ⟨b, off, ha, hp, hlt, hc⟩ := hl hne
 exact ⟨b, off, ha, hp, Nat.lt_of_lt_of_le hlt hs, fun j hj => by rw [← hc j hj]; unfold World.cell?; rw [hb b hp hlt]⟩
theorem RowP.mono {P Q : Nat->Prop} {w : World} {v : Value} {n : Nat} {xs : List Value} (h : RowP P w v n xs) (hb : ∀ b, P b->b < w.heap.size->Q b) : RowP Q w v n xs := by
 obtain ⟨a, c, hv, hlc, hl⟩ := h
 refine ⟨a, c, hv, hlc, fun hne => ?_⟩
 obtain ⟨b, off, ha, hp, hlt, hc⟩ := hl hne
 exact ⟨b, off, ha, hb b hp hlt, hlt, hc⟩
theorem RowP.nil (P : Nat->Prop) (w : World) : RowP P w (.slice none 0 0) 0 [] := ⟨none, 0, rfl, Nat.le_refl _, fun h => absurd h (Nat.lt_irrefl _)⟩
inductive KindD where
 | mk (v : Value) (l : List KindD)
 deriving Inhabited
def KindD.v : KindD->Value | .mk v _ => v
def KindD.l : KindD->List KindD | .mk _ l => l
mutual
def pK : KindD->Kd
 | .mk _ l => .mk (pureKL l)
def pureKL : List KindD->List Kd
 | [] => []
 | x :: r => pK x :: pureKL r
end
theorem pureKL_map : ∀ l : List KindD, pureKL l = l.map pK
 | [] => by rw [pureKL]; rfl
 | x :: r => by rw [pureKL, pureKL_map r, List.map_cons]
theorem pureK_mk (v : Value) (l : List KindD) : pK (.mk v l) = .mk (l.map pK) := by rw [pK, pureKL_map]
def kindCells (l : List KindD) : List Value := l.map KindD.v
def kindV (k : KindD) : Value := .agg #[k.v]
inductive IsKind (P : Nat->Prop) (w : World) : KindD->Prop
 | mk {v : Value} {l : List KindD} : RowP P w v l.length (kindCells l)->l.length<=maxLen->(∀ y ∈ l, IsKind P w y)->IsKind P w (.mk v l)
theorem IsKind.parts {P : Nat->Prop} {w : World} {v : Value} {l : List KindD} (h : IsKind P w (.mk v l)) : RowP P w v l.length (kindCells l)/\l.length<=maxLen/\∀ y ∈ l, IsKind P w y := by
 cases h with
 | mk h1 h2 h3 => exact ⟨h1, h2, h3⟩
theorem IsKind.keep {P : Nat->Prop} {w w' : World} (hs : w.heap.size<=w'.heap.size) (hb : ∀ b, P b->b < w.heap.size->w'.heap[b]? = w.heap[b]?) {k : KindD} (h : IsKind P w k) : IsKind P w' k := by
 induction h with
 | mk h1 h2 _ ih => exact .mk (h1.keep hs hb) h2 ih
theorem IsKind.mono {P Q : Nat->Prop} {w : World} (hb : ∀ b, P b->b < w.heap.size->Q b) {k : KindD} (h : IsKind P w k) : IsKind Q w k := by
 induction h with
 | mk h1 h2 _ ih => exact .mk (h1.mono hb) h2 ih
inductive ConD where
 | mk (op n : Int) (s : ByteArray) (k : KindD) (nv : Value) (ns : List ByteArray) (lv : Value) (l : List ConD)
 deriving Inhabited
def ConD.op : ConD->Int | .mk op _ _ _ _ _ _ _ => op
def ConD.n : ConD->Int | .mk _ n _ _ _ _ _ _ => n
def ConD.s : ConD->ByteArray | .mk _ _ s _ _ _ _ _ => s
def ConD.k : ConD->KindD | .mk _ _ _ k _ _ _ _ => k
def ConD.nv : ConD->Value | .mk _ _ _ _ nv _ _ _ => nv
def ConD.ns : ConD->List ByteArray | .mk _ _ _ _ _ ns _ _ => ns
def ConD.lv : ConD->Value | .mk _ _ _ _ _ _ lv _ => lv
def ConD.l : ConD->List ConD | .mk _ _ _ _ _ _ _ l => l
mutual
def pC : ConD->Cn
 | .mk op n s k _ ns _ l => .mk op n s (pK k) ns (pureCL l)
def pureCL : List ConD->List Cn
 | [] => []
 | x :: r => pC x :: pureCL r
end
theorem pureCL_map : ∀ l : List ConD, pureCL l = l.map pC
 | [] => by rw [pureCL]; rfl
 | x :: r => by rw [pureCL, pureCL_map r, List.map_cons]
theorem pMQ (op n : Int) (s : ByteArray) (k : KindD) (nv : Value) (ns : List ByteArray) (lv : Value) (l : List ConD) : pC (.mk op n s k nv ns lv l) = .mk op n s (pK k) ns (l.map pC) := by rw [pC, pureCL_map]
def cEQ (c : ConD) : List Value := [.int .i64 c.op, .int .i64 c.n, .string c.s, c.k.v, c.nv, c.lv]
def cCQ (l : List ConD) : List Value := l.flatMap cEQ
def conV (c : ConD) : Value := .agg #[.int .i64 c.op, .int .i64 c.n, .string c.s, c.k.v, c.nv, c.lv]
inductive IsCon (P : Nat->Prop) (w : World) : ConD->Prop
 | mk {op n : Int} {s : ByteArray} {k : KindD} {nv : Value} {ns : List ByteArray} {lv : Value} {l : List ConD} : IsKind P w k->RowP P w nv ns.length (strCells ns)->ns.length<=maxLen->RowP P w lv l.length (cCQ l)->l.length<=maxLen->(∀ y ∈ l, IsCon P w y)->IsCon P w (.mk op n s k nv ns lv l)
structure ConAt (P : Nat->Prop) (w : World) (k : KindD) (nv : Value) (ns : List ByteArray) (lv : Value) (l : List ConD) : Prop where
 kind : IsKind P w k
 names : RowP P w nv ns.length (strCells ns)
 nlen : ns.length<=maxLen
 row : RowP P w lv l.length (cCQ l)
 llen : l.length<=maxLen
 all : ∀ y ∈ l, IsCon P w y
theorem IsCon.parts {P : Nat->Prop} {w : World} {op n : Int} {s : ByteArray} {k : KindD} {nv : Value} {ns : List ByteArray} {lv : Value} {l : List ConD} (h : IsCon P w (.mk op n s k nv ns lv l)) : ConAt P w k nv ns lv l := by
 cases h with
 | mk h1 h2 h3 h4 h5 h6 => exact ⟨h1, h2, h3, h4, h5, h6⟩
theorem IsCon.keep {P : Nat->Prop} {w w' : World} (hs : w.heap.size<=w'.heap.size) (hb : ∀ b, P b->b < w.heap.size->w'.heap[b]? = w.heap[b]?) {c : ConD} (h : IsCon P w c) : IsCon P w' c := by
 induction h with
 | mk h1 h2 h3 h4 h5 _ ih => exact .mk (h1.keep hs hb) (h2.keep hs hb) h3 (h4.keep hs hb) h5 ih
theorem IsCon.mono {P Q : Nat->Prop} {w : World} (hb : ∀ b, P b->b < w.heap.size->Q b) {c : ConD} (h : IsCon P w c) : IsCon Q w c := by
 induction h with
 | mk h1 h2 h3 h4 h5 _ ih => exact .mk (h1.mono hb) (h2.mono hb) h3 (h4.mono hb) h5 ih
theorem IsCon.grown {P : Nat->Prop} {w w' : World} {r : Option Nat} {c : ConD} (h : IsCon P w c) (hg : w.grownBy w' r) (hr : ∀ q, r = some q->¬ P q) : IsCon P w' c :=
 h.keep hg.size fun b hp hlt => hg.block b hlt fun e => hr b e.symm hp
theorem IsKind.grown {P : Nat->Prop} {w w' : World} {r : Option Nat} {k : KindD} (h : IsKind P w k) (hg : w.grownBy w' r) (hr : ∀ q, r = some q->¬ P q) : IsKind P w' k :=
 h.keep hg.size fun b hp hlt => hg.block b hlt fun e => hr b e.symm hp
theorem RowP.grown {P : Nat->Prop} {w w' : World} {r : Option Nat} {v : Value} {n : Nat} {xs : List Value} (h : RowP P w v n xs) (hg : w.grownBy w' r) (hr : ∀ q, r = some q->¬ P q) : RowP P w' v n xs :=
 h.keep hg.size fun b hp hlt => hg.block b hlt fun e => hr b e.symm hp
theorem kindCells_length (l : List KindD) : (kindCells l).length = l.length := by simp [kindCells]
theorem kindCells_at (l : List KindD) (k : Nat) (h : k < l.length) : (kindCells l).getD k undef = (l.getD k default).v := by simp [kindCells, List.getD, h]
theorem kinds_at {P : Nat->Prop} {w : World} {v : Value} {l : List KindD} (h : RowP P w v l.length (kindCells l)) (n : Nat) (hn : n < l.length) :
 ∃ b off c, v = .slice (some ⟨b, off, none⟩) l.length c/\l.length<=c/\P b/\b < w.heap.size/\w.cell? ⟨b, off + n, none⟩ = some (l.getD n default).v := by
 obtain ⟨a, c, rfl, hlc, hcell⟩ := h
 obtain ⟨b, off, rfl, hp, hlt, hc⟩ := hcell (by omega)
 exact ⟨b, off, c, rfl, hlc, hp, hlt, by rw [hc n (by rw [kindCells_length]; exact hn), kindCells_at l n hn]⟩
theorem conCells_length (l : List ConD) : (cCQ l).length = l.length * 6 := by
 induction l with
 | nil => rfl
 | cons x l ih => simp [cCQ, cEQ] at ih ⊢; omega
theorem conCells_at : ∀ (l : List ConD) (k j : Nat), k < l.length->j < 6->(cCQ l).getD (k * 6 + j) undef = (cEQ (l.getD k default)).getD j undef
 | [], k, j, h, _ => by simp at h
 | x :: l, 0, j, _, hj => by
   have e : cCQ (x :: l) = cEQ x ++ cCQ l := rfl
   have hl : (cEQ x).length = 6 := rfl
   rw [e, Nat.zero_mul, Nat.zero_add]
   simp [List.getD, List.getElem?_append_left, hl, hj]
 | x :: l, k + 1, j, h, hj => by
   have ih := conCells_at l k j (by simpa using h) hj
   have e : cCQ (x :: l) = cEQ x ++ cCQ l := rfl
   have hl : (cEQ x).length = 6 := rfl
   have e2 : (k + 1) * 6 + j = 6 + (k * 6 + j) := by omega
   have g : ∀ i, (cCQ (x :: l)).getD (6 + i) undef = (cCQ l).getD i undef := fun i => by
    rw [e, List.getD, List.getD, List.getElem?_append_right (by rw [hl]; omega), hl, Nat.add_sub_cancel_left]
   rw [e2, g]
   simpa using ih
theorem cons_at {P : Nat->Prop} {w : World} {v : Value} {l : List ConD} (h : RowP P w v l.length (cCQ l)) (n : Nat) (hn : n < l.length) :
 ∃ b off c, v = .slice (some ⟨b, off, none⟩) l.length c/\l.length<=c/\P b/\b < w.heap.size/\w.cell? ⟨b, off + n * 6, none⟩ = some (.int .i64 (l.getD n default).op)/\w.cell? ⟨b, off + n * 6 + 1, none⟩ = some (.int .i64 (l.getD n default).n)/\w.cell? ⟨b, off + n * 6 + 2, none⟩ = some (.string (l.getD n default).s)/\w.cell? ⟨b, off + n * 6 + 3, none⟩ = some (l.getD n default).k.v/\w.cell? ⟨b, off + n * 6 + 4, none⟩ = some (l.getD n default).nv/\w.cell? ⟨b, off + n * 6 + 5, none⟩ = some (l.getD n default).lv := by
 obtain ⟨a, c, rfl, hlc, hcell⟩ := h
 obtain ⟨b, off, rfl, hp, hlt, hc⟩ := hcell (by omega)
 have hlen := conCells_length l
 have hx : ∀ j, j < 6->w.cell? ⟨b, off + (n * 6 + j), none⟩ = some ((cEQ (l.getD n default)).getD j undef) := fun j hj => by rw [hc _ (by omega), conCells_at l n j hn hj]
 exact ⟨b, off, c, rfl, hlc, hp, hlt, hx 0 (by decide), hx 1 (by decide), hx 2 (by decide), hx 3 (by decide), hx 4 (by decide), hx 5 (by decide)⟩
theorem ConD.ind {P : ConD->Prop} (h : ∀ op n s k nv ns lv l, (∀ x ∈ l, P x)->P (.mk op n s k nv ns lv l)) : ∀ c, P c := fun c => by
 refine ConD.rec (motive_1 := P) (motive_2 := fun l => ∀ x ∈ l, P x) ?_ ?_ ?_ c
 ·intro op n s k nv ns lv l ih; exact h op n s k nv ns lv l ih
 ·intro x hx; cases hx
 ·intro a l h1 h2 x hx
  rcases List.mem_cons.1 hx with rfl | hx
  ·exact h1
  ·exact h2 x hx
theorem KindD.ind {P : KindD->Prop} (h : ∀ v l, (∀ x ∈ l, P x)->P (.mk v l)) : ∀ c, P c := fun c => by
 refine KindD.rec (motive_1 := P) (motive_2 := fun l => ∀ x ∈ l, P x) ?_ ?_ ?_ c
 ·intro v l ih; exact h v l ih
 ·intro x hx; cases hx
 ·intro a l h1 h2 x hx
  rcases List.mem_cons.1 hx with rfl | hx
  ·exact h1
  ·exact h2 x hx
theorem rowP_owns {P : Nat->Prop} {w : World} {B : Nat} {e : TypeId} {s n : Nat} {v : Value} {xs : List Value} (h : w.ownsRow B e s v n xs) (hP : ∀ b, B<=b->P b) : RowP P w v n xs := by
 obtain ⟨h1, h2⟩ := h
 rcases h2 with ⟨rfl, rfl⟩ | ⟨g, cap, cur, rfl, hb, hh, hn, hc, hs, ht⟩
 ·exact ⟨none, 0, rfl, Nat.le_refl _, fun h => absurd h (Nat.lt_irrefl _)⟩
 ·refine ⟨_, _, rfl, hn, fun _ => ⟨g, 0, rfl, hP g hb, hLQ hh, fun j hj => ?_⟩⟩
  subst ht
  rw [List.length_take] at hj
  have hj1 : j < n * s := by omega
  have hj2 : j < cur.size := by rw [← Array.length_toList]; omega
  rw [Nat.zero_add]
  simp only [World.cell?, hh]
  simp [List.getD, List.getElem?_take, hj1, hj2]
theorem sizeK_mk (l : List Kd) : sizeK (.mk l) = sizeKL l + 1 := by rw [sizeK]
theorem depthK_mk (l : List Kd) : depthK (.mk l) = depthKL l + 1 := by rw [depthK]
theorem formK_mk (l : List Kd) : formK (.mk l) = ((l.length == 0 || l.length == 2) && formKL l) := by rw [formK]
theorem sizeKL_nil : sizeKL [] = 0 := by rw [sizeKL]
theorem depthKL_nil : depthKL [] = 0 := by rw [depthKL]
theorem formKL_nil : formKL [] = true := by rw [formKL]
theorem sizeKL_cons (x : Kd) (r : List Kd) : sizeKL (x :: r) = sizeK x + sizeKL r := by rw [sizeKL]
theorem depthKL_cons (x : Kd) (r : List Kd) : depthKL (x :: r) = max (depthK x) (depthKL r) := by rw [depthKL]
theorem formKL_cons (x : Kd) (r : List Kd) : formKL (x :: r) = (formK x && formKL r) := by rw [formKL]
theorem sizeKL_snoc (l : List Kd) (x : Kd) : sizeKL (l ++ [x]) = sizeKL l + sizeK x := by
 induction l with
 | nil => rw [List.nil_append, sizeKL_cons, sizeKL_nil]; omega
 | cons y l ih => rw [List.cons_append, sizeKL_cons, sizeKL_cons, ih]; omega
theorem depthKL_snoc (l : List Kd) (x : Kd) : depthKL (l ++ [x]) = max (depthKL l) (depthK x) := by
 induction l with
 | nil => rw [List.nil_append, depthKL_cons, depthKL_nil]; omega
 | cons y l ih => rw [List.cons_append, depthKL_cons, depthKL_cons, ih]; omega
theorem formKL_snoc (l : List Kd) (x : Kd) : formKL (l ++ [x]) = (formKL l && formK x) := by
 induction l with
 | nil => rw [List.nil_append, formKL_cons, formKL_nil]; simp
 | cons y l ih => rw [List.cons_append, formKL_cons, formKL_cons, ih, Bool.and_assoc]
theorem sizeKL_ge (l : List Kd) (j : Nat) (h : j < l.length) : sizeKL (l.take j) + sizeK (l.getD j default)<=sizeKL l := by
 induction l generalizing j with
 | nil => simp at h
 | cons x l ih =>
   cases j with
   | zero => rw [List.take_zero, sizeKL_nil, sizeKL_cons]; simp
   | succ j =>
     have := ih j (by simpa using h)
     rw [List.take_succ_cons, sizeKL_cons, sizeKL_cons, List.getD_cons_succ]; omega
theorem depthKL_ge (l : List Kd) (x : Kd) (h : x ∈ l) : depthK x<=depthKL l := by
 induction l with
 | nil => cases h
 | cons y l ih =>
   rw [depthKL_cons]
   rcases List.mem_cons.1 h with rfl | h
   ·omega
   ·have := ih h; omega
theorem formKL_of (l : List Kd) (hf : formKL l = true) (x : Kd) (h : x ∈ l) : formK x = true := by
 induction l with
 | nil => cases h
 | cons y l ih =>
   rw [formKL_cons, Bool.and_eq_true] at hf
   rcases List.mem_cons.1 h with rfl | h
   ·exact hf.1
   ·exact ih hf.2 h
theorem sizeK_pos (k : Kd) : 1<=sizeK k := by cases k; rw [sizeK_mk]; omega
theorem depthK_pos (k : Kd) : 1<=depthK k := by cases k; rw [depthK_mk]; omega
theorem take_get {α : Type} (d : α) (l : List α) (k : Nat) (h : k < l.length) : l.take (k + 1) = l.take k ++ [l.getD k d] := by
 rw [List.take_succ_eq_append_getElem h]; simp [List.getD, h]
theorem map_getD {α β : Type} [Inhabited α] [Inhabited β] (f : α->β) (l : List α) (k : Nat) (h : k < l.length) : (l.map f).getD k default = f (l.getD k default) := by simp [List.getD, h]
theorem mem_getD {α : Type} [Inhabited α] (l : List α) (k : Nat) (h : k < l.length) : l.getD k default ∈ l := by
 have : l.getD k default = l[k] := by simp [List.getD, h]
 rw [this]; exact List.getElem_mem h
def roomK (k : Kd) (left depth : Int) : Prop := formK k = true/\(sizeK k : Int)<=left/\depth + depthK k<=401
def KSize (k : Kd) (left depth : Int) (w : World) (e : Ending) (w' : World) : Prop :=
 ∃ (m : Int) (ok : Bool), e = .returned (.tuple #[.int .i64 m, .bool ok])/\Below w.heap.size w w'/\(ok = true->m = sizeK k/\roomK k left depth)/\(ok = false->¬ roomK k left depth)
theorem isKind_below {P : Nat->Prop} {w w' : World} {k : KindD} (h : IsKind P w k) (hb : Below w.heap.size w w') : IsKind P w' k := h.keep hb.size fun b _ hlt => hb.block b hlt
theorem rowP_below {P : Nat->Prop} {w w' : World} {v : Value} {n : Nat} {xs : List Value} (h : RowP P w v n xs) (hb : Below w.heap.size w w') : RowP P w' v n xs := h.keep hb.size fun b _ hlt => hb.block b hlt
theorem iBQ {P : Nat->Prop} {w w' : World} {c : ConD} (h : IsCon P w c) (hb : Below w.heap.size w w') : IsCon P w' c := h.keep hb.size fun b _ hlt => hb.block b hlt
theorem rSQ {P : Nat->Prop} {w : World} {v : Value} {n : Nat} {xs : List Value} (h : RowP P w v n xs) : ∃ a c, v = .slice a n c/\n<=c := by
 obtain ⟨a, c, hv, hc, _⟩ := h
 exact ⟨a, c, hv, hc⟩
theorem iKQ {P : Nat->Prop} {w : World} {k : KindD} (h : IsKind P w k) : ∃ a c n, k.v = .slice a n c := by
 obtain ⟨v, l⟩ := k
 obtain ⟨a, c, hv, _⟩ := rSQ h.parts.1
 exact ⟨a, c, _, hv⟩
theorem cOQ {w : World} {q : Nat} {x : Value} {t : TypeId} (h : w.heap[q]? = some (.cells #[x] t (0, 0))) : w.cell? ⟨q, 0, none⟩ = some x := by simp [World.cell?, h]
theorem ksize_any (P : Nat->Prop) : ∀ (k : KindD) (w : World) (left depth : Int), IsKind P w k->-100000<=left->left<=100000->0<=depth->depth<=402 →
 Calls Tryz.prog 119 #[kindV k, .int .i64 left, .int .i64 depth] w (KSize (pK k) left depth w) := by
 refine KindD.ind (fun v l ih w left depth h hl0 hl1 hd0 hd1 => ?_)
 obtain ⟨hr, hm, hall⟩ := h.parts
 have hb0 : Below w.heap.size w (w.alloc (.cells #[v] 24)) := (Below.refl _ _).alloc (nLQ _) _
 have gK := nHQ w (.cells #[v] 24)
 have c0 := cOQ gK
 have hp : pK (.mk v l) = .mk (l.map pK) := pureK_mk v l
 obtain ⟨a, c, rfl, hlc⟩ := rSQ hr
 have HR := hJQ (rowP_below hr hb0)
 have HA : Hid (∀ y ∈ l, IsKind P (w.alloc (.cells #[.slice a l.length c] 24)) y) := fun y hy => isKind_below (hall y hy) hb0
 have IH := hJQ ih
 have hm' : l.length<=9223372036854775807 := by
  have : maxLen = 9223372036854775807 := by decide
  omega
 clear hr hall ih h hm
 rw [hp, show kindV (.mk (.slice a l.length c) l) = .agg #[.slice a l.length c] from rfl]
 have hs1 := sizeK_pos (.mk (l.map pK))
 have hd2 := depthK_pos (.mk (l.map pK))
 by_cases h1 : left<=0
 ·go_enter Tryz.func119, Tryz.ntmps119
  go_wp2_with fail
  go_ret2
  exact ⟨_, _, rfl, hb0, by nofun, fun _ h => by have := h.2.1; omega⟩
 by_cases h2 : 400 < depth
 ·go_enter Tryz.func119, Tryz.ntmps119
  go_wp2_with fail
  go_ret2
  exact ⟨_, _, rfl, hb0, by nofun, fun _ h => by have := h.2.2; omega⟩
 have e1 : ¬ left<=0 := h1
 have e2 : ¬ 400 < depth := h2
 by_cases h3 : l.length = 0 ∨ l.length = 2
 rotate_left
 ·have hF : formK (.mk (l.map pK)) = false := by
   have q0 : (l.length == 0) = false := nEQ (by omega)
   have q2 : (l.length == 2) = false := nEQ (by omega)
   rw [formK_mk, List.length_map, q0, q2]; rfl
  have n0 : ((l.length : Int) != 0) = true := nNQ (by omega)
  have n2 : ((l.length : Int) != 2) = true := nNQ (by omega)
  go_enter Tryz.func119, Tryz.ntmps119
  go_wp2_with fail
  go_ret2
  exact ⟨_, _, rfl, hb0, by nofun, fun _ h => by have := h.1; rw [hF] at this; cases this⟩
 have hF : Hid (formK (.mk (l.map pK)) = formKL (l.map pK)) := by show _ = _; rw [formK_mk, List.length_map]; rcases h3 with h | h <;> simp [h]
 have H3 := hJQ h3
 have hn02 : (((l.length : Int) != 0) && ((l.length : Int) != 2)) = false := by rcases h3 with h | h <;> simp [h]
 have hl2 : l.length<=2 := by omega
 clear h3 h1 h2 hn02
 have hn : ((l.length : Int) != 0) = false ∨ (((l.length : Int) != 0) = true/\((l.length : Int) != 2) = false) := by
  rcases H3.out with h | h
  ·exact .inl (by rw [h]; rfl)
  ·exact .inr ⟨by rw [h]; rfl, by rw [h]; rfl⟩
 have HL : Hid ((l.map pK).length = l.length) := List.length_map ..
 rcases hn with n0 | ⟨n0, n2⟩
 all_goals
  go_enter Tryz.func119, Tryz.ntmps119
  go_wp2_with fail
  generalize w.alloc (.cells #[.slice a l.length c] 24) = W0 at *
  go_loopw [8, 34] (fun n i wr => ∃ (j m : Nat), j<=l.length/\i = .int .i64 j/\n = .int .i64 m/\(m : Int)<=left/\Hid (m = sizeKL ((l.map pK).take j) + 1/\formKL ((l.map pK).take j) = true/\(j = 0 ∨ depth + 1 + depthKL ((l.map pK).take j)<=401))/\Below W0.heap.size W0 wr) (fun _ i _ => l.length - (intOf i).toNat)
  case atStart => exact ⟨0, 1, Nat.zero_le _, rfl, rfl, by omega, ⟨by rw [List.take_zero, sizeKL_nil], by rw [List.take_zero, formKL_nil], .inl rfl⟩, Below.refl _ _⟩
  case round =>
   rename World => V
   obtain ⟨j, m, hj, rfl, rfl, hmle, HM, hbr⟩ := hrel
   by_cases hjl : j < l.length
   ·obtain ⟨b, off, c', fd, _, _, hbl, d0⟩ := kinds_at HR.out j hjl
    obtain rfl := (Value.slice.inj fd).1
    have d1 := (hbr.cell (p := ⟨b, off + j, none⟩) hbl).trans d0
    have hk := isKind_below (HA.out _ (mem_getD l j hjl)) hbr
    have hba : Below V.heap.size V (V.alloc (.cells #[(l.getD j default).v] 24)) := (Below.refl _ _).alloc (nLQ _) _
    have HC := hJQ (IH.out _ (mem_getD l j hjl) _ (left - m) (depth + 1) (isKind_below hk hba) (by omega) (by omega) (by omega) (by omega))
    have HT : Hid ((l.map pK).take (j + 1) = (l.map pK).take j ++ [pK (l.getD j default)]) := by
     show _ = _; rw [take_get default _ j (by rw [List.length_map]; exact hjl), map_getD pK l j hjl]
    have HG : Hid (sizeKL ((l.map pK).take j) + sizeK (pK (l.getD j default))<=sizeKL (l.map pK)/\pK (l.getD j default) ∈ l.map pK) := by
     have := sizeKL_ge (l.map pK) j (by rw [List.length_map]; exact hjl)
     rw [map_getD pK l j hjl] at this
     exact ⟨this, List.mem_map_of_mem (mem_getD l j hjl)⟩
    have c1 := cOQ (nHQ V (.cells #[(l.getD j default).v] 24))
    have kv : kindV (l.getD j default) = .agg #[(l.getD j default).v] := rfl
    rw [kv] at HC
    obtain ⟨ka, kc, kn, hks⟩ := iKQ hk
    rw [hks] at d1 c1 hba HC
    clear d0 hk fd kv hks
    generalize l.getD j default = k at *
    have hbb := hbr.trans (hba.mono hbr.size)
    go_wp2_with fail
    refine HC.out.mono ?_
    rintro e w2 ⟨mm, ok, rfl, hb2, hyes, hno⟩
    have hbr2 := hbb.trans (hb2.mono hbb.size)
    have hbw2 := hb0.trans (hbr2.mono hb0.size)
    cases ok
    ·have HN := hJQ (hno rfl)
     clear hyes hno HC
     go_wp2_with fail
     go_ret2
     refine ⟨_, _, rfl, hbw2, by nofun, fun _ h => HN.out ?_⟩
     obtain ⟨g1, g2⟩ := HG.out
     obtain ⟨r1, r2, r3⟩ := h
     rw [hF.out] at r1
     rw [sizeK_mk] at r2
     rw [depthK_mk] at r3
     have := HM.out.1
     have := depthKL_ge _ _ g2
     exact ⟨formKL_of _ r1 _ g2, by omega, by omega⟩
    ·obtain ⟨rfl, q1, q2, q3⟩ := hyes rfl
     have HM2 : Hid (m + sizeK (pK k) = sizeKL ((l.map pK).take (j + 1)) + 1/\formKL ((l.map pK).take (j + 1)) = true/\(j + 1 = 0 ∨ depth + 1 + depthKL ((l.map pK).take (j + 1))<=401)) := by
      obtain ⟨m1, m2, m3⟩ := HM.out
      show _/\_/\_
      rw [HT.out, sizeKL_snoc, formKL_snoc, depthKL_snoc, m2, q1]
      refine ⟨by omega, rfl, .inr ?_⟩
      rcases m3 with rfl | m3
      ·rw [List.take_zero, depthKL_nil]; omega
      ·omega
     clear hyes hno HC HM
     go_wp2_with fail
     go_roundw
     case rel => exact ⟨j + 1, m + sizeK (pK k), by omega, by go_num, by go_num, by omega, HM2, hbr2⟩
     case measure => simp [intOf]; omega
   ·obtain rfl : j = l.length := by omega
    have HE : Hid (m = sizeK (.mk (l.map pK))/\roomK (.mk (l.map pK)) left depth) := by
     obtain ⟨m1, m2, m3⟩ := HM.out
     rw [List.take_of_length_le (by rw [List.length_map]; exact Nat.le_refl _)] at m1 m2 m3
     refine ⟨by rw [sizeK_mk]; exact m1, by rw [hF.out]; exact m2, by rw [sizeK_mk]; omega, ?_⟩
     rw [depthK_mk]
     rcases m3 with m3 | m3
     ·have : l = [] := List.length_eq_zero_iff.1 m3
      subst this
      rw [List.map_nil, depthKL_nil]; omega
     ·omega
    have hbw := hb0.trans (hbr.mono hb0.size)
    clear HM
    go_wp2_with fail
    go_ret2
    exact ⟨_, _, rfl, hbw, fun _ => ⟨by rw [HE.out.1], HE.out.2⟩, by nofun⟩
end Go.Proofs.YtkiffgdinmpljaaGreatDoor
