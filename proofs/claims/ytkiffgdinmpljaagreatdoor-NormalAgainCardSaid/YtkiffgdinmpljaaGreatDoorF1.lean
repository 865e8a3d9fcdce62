/- Constructors: kinds, nodes, size, depth, substitution, the normal form; plain. The normal form of a well-formed constructor is well-formed; plain. What all texts of law 11 lean on: worlds, rows, strings. -/
import Derived.Test.YtkiffgdinmpljaaGreatDoorLaw
import Derived.WalkKit
import Derived.WalkLawsBesides
import Derived.WalkSpells
import Derived.Outline
import Derived.BigQuiet
import Derived.Deep.QuietTactic
import Derived.Lib.Hide
import Derived.StillTailTactics
import Derived.Deep.WholeRow
import Derived.Maps.AppendAt
import Derived.Lib.ItoaLen
import Derived.Deep.DeepCutAuto
import Derived.Deep.RegionHeld3
import Derived.Laws.BitsAllLaws
import Derived.Laws.ResultCell
import Derived.Lib.SliceRun
import Derived.Lib.ConvBytes
import Derived.Deep.AppendLies
import Derived.Shelf.Bytes.SlEqualAll
import Derived.Test.YtkiffgdinmpljaaGreatDoorChecked
set_option linter.unusedVariables false
set_option linter.unusedSimpArgs false
namespace Go.Proofs.YtkiffgdinmpljaaGreatDoor
open Go Go.RowKit
theorem oJQ {α : Type _} {a b : α} (h : some a = some b) : a = b := Option.some.inj h
theorem hJQ {p : Prop} (h : p) : Hid p := Lib.hid h
inductive Kd where
 | mk (l : List Kd)
 deriving Inhabited
inductive Cn where
 | mk (op n : Int) (s : ByteArray) (k : Kd) (ns : List ByteArray) (l : List Cn)
 deriving Inhabited
def Kd.l : Kd->List Kd | .mk l => l
def Cn.op : Cn->Int | .mk op _ _ _ _ _ => op
def Cn.n : Cn->Int | .mk _ n _ _ _ _ => n
def Cn.s : Cn->ByteArray | .mk _ _ s _ _ _ => s
def Cn.k : Cn->Kd | .mk _ _ _ k _ _ => k
def Cn.ns : Cn->List ByteArray | .mk _ _ _ _ ns _ => ns
def Cn.l : Cn->List Cn | .mk _ _ _ _ _ l => l
mutual
def sizeK : Kd->Nat
 | .mk l => sizeKL l + 1
def sizeKL : List Kd->Nat
 | [] => 0
 | x :: r => sizeK x + sizeKL r
end
mutual
def depthK : Kd->Nat
 | .mk l => depthKL l + 1
def depthKL : List Kd->Nat
 | [] => 0
 | x :: r => max (depthK x) (depthKL r)
end
mutual
def formK : Kd->Bool
 | .mk l => (l.length == 0 || l.length == 2) && formKL l
def formKL : List Kd->Bool
 | [] => true
 | x :: r => formK x && formKL r
end
def validK (k : Kd) : Bool := formK k && decide (sizeK k<=20000) && decide (depthK k<=400)
mutual
def sizeC : Cn->Nat
 | .mk _ _ _ _ _ l => sizeCL l + 1
def sizeCL : List Cn->Nat
 | [] => 0
 | x :: r => sizeC x + sizeCL r
end
mutual
def dCQ : Cn->Nat
 | .mk _ _ _ _ _ l => depthCL l + 1
def depthCL : List Cn->Nat
 | [] => 0
 | x :: r => max (dCQ x) (depthCL r)
end
def binderB (op : Int) : Bool := op == 9 || op == 10 || op == 11 || op == 13
def labelledB (op : Int) : Bool := op == 7 || op == 8
def deepC (op : Int) (d : Nat) : Nat := if binderB op = true then d + 1 else d
def partsC (op : Int) (ns : Nat) : Int := if op < 1 ∨ 13 < op then -1 else if labelledB op = true then ns else if binderB op = true then 1 else if op = 6 ∨ op = 12 then 2 else 0
section
variable (cst : ByteArray->Bool) (lab : List ByteArray->Bool)
def nodeC (op n : Int) (s : ByteArray) (k : Kd) (ns : List ByteArray) (m : Nat) : Bool :=
 decide ((m : Int) = partsC op ns.length) && (if op = 1 ∨ op = 3 then decide (0<=n) && decide (n<=20000) else n == 0) && (if op = 2 then cst s else s.size == 0) && (if binderB op || op == 2 then validK k else k.l.isEmpty) && (if labelledB op = true then lab ns else ns.isEmpty)
mutual
def formC : Cn->Bool
 | .mk op n s k ns l => nodeC cst lab op n s k ns l.length && formCL l
def formCL : List Cn->Bool
 | [] => true
 | x :: r => formC x && formCL r
end
def smallC (c : Cn) : Bool := decide (sizeC c<=20000) && decide (dCQ c<=400)
def validC (c : Cn) : Bool := smallC c && formC cst lab c
end
def varC (n : Int) : Cn := .mk 1 n ⟨#[]⟩ (.mk []) [] []
mutual
def shiftC (by' : Int) (from' : Nat) : Cn->Cn
 | .mk op n s k ns l => if op = 1 then (if (from' : Int)<=n then varC (n + by') else .mk op n s k ns l) else .mk op n s k ns (shiftCL by' (deepC op from') l)
def shiftCL (by' : Int) (from' : Nat) : List Cn->List Cn
 | [] => []
 | x :: r => shiftC by' from' x :: shiftCL by' from' r
end
mutual
def sC9 (a : List Cn) (d : Nat) : Cn->Cn
 | .mk op n s k ns l => if op = 1 then (if n < d then .mk op n s k ns l else if n - d < a.length then shiftC d 0 (a.getD (n - d).toNat default) else varC (n - a.length)) else .mk op n s k ns (substCL a (deepC op d) l)
def substCL (a : List Cn) (d : Nat) : List Cn->List Cn
 | [] => []
 | x :: r => sC9 a d x :: substCL a d r
end
mutual
def occC (i : Int) : Cn->Bool
 | .mk op n _ _ _ l => if op = 1 then n == i else occCL (if binderB op = true then i + 1 else i) l
def occCL (i : Int) : List Cn->Bool
 | [] => false
 | x :: r => occC i x || occCL i r
end
def etaC (c : Cn) : Bool :=
 c.op == 11 && (c.l.getD 0 default).op == 12 && ((c.l.getD 0 default).l.getD 1 default).op == 1 && ((c.l.getD 0 default).l.getD 1 default).n == 0 && !occC 0 ((c.l.getD 0 default).l.getD 0 default)
def normL (f : Cn->Nat->Option (Cn × Nat)) : List Cn->Nat->Option (List Cn × Nat)
 | [], left => some ([], left)
 | x :: r, left => match f x left with
   | none => none
   | some (y, m) => (normL f r m).map fun z => (y :: z.1, z.2)
def hNQ (cst : ByteArray->Bool) (lab : List ByteArray->Bool) (g : Cn->Nat->Option (Cn × Nat)) (out : Cn) (left : Nat) : Option (Cn × Nat) :=
 if smallC out = false then none
 else if out.op = 12/\(out.l.getD 0 default).op = 11 then
  match left with
  | 0 => none
  | m + 1 => if validC cst lab (sC9 [out.l.getD 1 default] 0 ((out.l.getD 0 default).l.getD 0 default)) = true then g (sC9 [out.l.getD 1 default] 0 ((out.l.getD 0 default).l.getD 0 default)) m else none
 else if etaC out = true then some (shiftC (-1) 0 ((out.l.getD 0 default).l.getD 0 default), left)
 else some (out, left)
def normN (cst : ByteArray->Bool) (lab : List ByteArray->Bool) : Nat->Cn->Nat->Option (Cn × Nat)
 | 0, _, _ => none
 | F + 1, .mk op n s k ns l, left => match normL (normN cst lab F) l left with
   | none => none
   | some (l', m) => hNQ cst lab (normN cst lab F) (.mk op n s k ns l') m
def redexC (c : Cn) : Bool := (c.op == 12 && (c.l.getD 0 default).op == 11) || etaC c
mutual
def normalC : Cn->Bool
 | .mk op n s k ns l => !redexC (.mk op n s k ns l) && normalCL l
def normalCL : List Cn->Bool
 | [] => true
 | x :: r => normalC x && normalCL r
end
theorem formC_mk (cst : ByteArray->Bool) (lab : List ByteArray->Bool) (op n : Int) (s : ByteArray) (k : Kd) (ns : List ByteArray) (l : List Cn) : formC cst lab (.mk op n s k ns l) = (nodeC cst lab op n s k ns l.length && formCL cst lab l) := by rw [formC]
theorem formCL_all (cst : ByteArray->Bool) (lab : List ByteArray->Bool) : ∀ l : List Cn, formCL cst lab l = l.all (formC cst lab)
 | [] => by rw [formCL]; rfl
 | x :: r => by rw [formCL, formCL_all cst lab r, List.all_cons]
theorem shiftCL_map (b : Int) (f : Nat) : ∀ l : List Cn, shiftCL b f l = l.map (shiftC b f)
 | [] => by rw [shiftCL]; rfl
 | x :: r => by rw [shiftCL, shiftCL_map b f r, List.map_cons]
theorem substCL_map (a : List Cn) (d : Nat) : ∀ l : List Cn, substCL a d l = l.map (sC9 a d)
 | [] => by rw [substCL]; rfl
 | x :: r => by rw [substCL, substCL_map a d r, List.map_cons]
theorem occCL_any (i : Int) : ∀ l : List Cn, occCL i l = l.any (occC i)
 | [] => by rw [occCL]; rfl
 | x :: r => by rw [occCL, occCL_any i r, List.any_cons]
theorem normalCL_all : ∀ l : List Cn, normalCL l = l.all normalC
 | [] => by rw [normalCL]; rfl
 | x :: r => by rw [normalCL, normalCL_all r, List.all_cons]
theorem shiftC_mk (b : Int) (f : Nat) (op n : Int) (s : ByteArray) (k : Kd) (ns : List ByteArray) (l : List Cn) : shiftC b f (.mk op n s k ns l) = if op = 1 then (if (f : Int)<=n then varC (n + b) else .mk op n s k ns l) else .mk op n s k ns (l.map (shiftC b (deepC op f))) := by rw [shiftC, shiftCL_map]
theorem substC_mk (a : List Cn) (d : Nat) (op n : Int) (s : ByteArray) (k : Kd) (ns : List ByteArray) (l : List Cn) : sC9 a d (.mk op n s k ns l) = if op = 1 then (if n < d then .mk op n s k ns l else if n - d < a.length then shiftC d 0 (a.getD (n - d).toNat default) else varC (n - a.length)) else .mk op n s k ns (l.map (sC9 a (deepC op d))) := by rw [sC9, substCL_map]
theorem occC_mk (i : Int) (op n : Int) (s : ByteArray) (k : Kd) (ns : List ByteArray) (l : List Cn) : occC i (.mk op n s k ns l) = if op = 1 then n == i else l.any (occC (if binderB op = true then i + 1 else i)) := by rw [occC, occCL_any]
theorem normalC_mk (op n : Int) (s : ByteArray) (k : Kd) (ns : List ByteArray) (l : List Cn) : normalC (.mk op n s k ns l) = (!redexC (.mk op n s k ns l) && l.all normalC) := by rw [normalC, normalCL_all]
theorem sMQ (op n : Int) (s : ByteArray) (k : Kd) (ns : List ByteArray) (l : List Cn) : sizeC (.mk op n s k ns l) = sizeCL l + 1 := by rw [sizeC]
theorem depthC_mk (op n : Int) (s : ByteArray) (k : Kd) (ns : List ByteArray) (l : List Cn) : dCQ (.mk op n s k ns l) = depthCL l + 1 := by rw [dCQ]
theorem normN_mk (cst : ByteArray->Bool) (lab : List ByteArray->Bool) (F : Nat) (op n : Int) (s : ByteArray) (k : Kd) (ns : List ByteArray) (l : List Cn) (left : Nat) : normN cst lab (F + 1) (.mk op n s k ns l) left = match normL (normN cst lab F) l left with | none => none | some (l', m) => hNQ cst lab (normN cst lab F) (.mk op n s k ns l') m := rfl
theorem Cn.ind {P : Cn->Prop} (h : ∀ op n s k ns l, (∀ x ∈ l, P x)->P (.mk op n s k ns l)) : ∀ c, P c := fun c => by
 refine Cn.rec (motive_1 := P) (motive_2 := fun l => ∀ x ∈ l, P x) ?_ ?_ ?_ c
 ·intro op n s k ns l ih; exact h op n s k ns l ih
 ·intro x hx; cases hx
 ·intro a l h1 h2 x hx
  rcases List.mem_cons.1 hx with rfl | hx
  ·exact h1
  ·exact h2 x hx
variable (cst : ByteArray->Bool) (lab : List ByteArray->Bool)
theorem formC_iff (op n : Int) (s : ByteArray) (k : Kd) (ns : List ByteArray) (l : List Cn) : formC cst lab (.mk op n s k ns l) = true ↔ nodeC cst lab op n s k ns l.length = true/\∀ x ∈ l, formC cst lab x = true := by
 rw [formC_mk, formCL_all, Bool.and_eq_true, List.all_eq_true]
theorem node_op {op n : Int} {s : ByteArray} {k : Kd} {ns : List ByteArray} {m : Nat} (h : nodeC cst lab op n s k ns m = true) : (m : Int) = partsC op ns.length/\((op = 1 ∨ op = 3)->0<=n/\n<=20000) := by
 unfold nodeC at h
 simp only [Bool.and_eq_true, decide_eq_true_eq] at h
 obtain ⟨⟨⟨⟨h1, h2⟩, _⟩, _⟩, _⟩ := h
 refine ⟨h1, fun ho => ?_⟩
 rw [if_pos ho] at h2
 simpa using h2
theorem parts_two {op : Int} {ns : Nat} (h : op = 6 ∨ op = 12) : partsC op ns = 2 := by rcases h with rfl | rfl <;> rfl
theorem parts_one {op : Int} {ns : Nat} (h : binderB op = true) : partsC op ns = 1 := by
 unfold binderB at h
 simp only [Bool.or_eq_true, beq_iff_eq] at h
 rcases h with ((rfl | rfl) | rfl) | rfl <;> rfl
theorem form_app {n : Int} {s : ByteArray} {k : Kd} {ns : List ByteArray} {l : List Cn} (h : formC cst lab (.mk 12 n s k ns l) = true) : ∃ f a, l = [f, a]/\formC cst lab f = true/\formC cst lab a = true := by
 obtain ⟨h1, h2⟩ := (formC_iff cst lab ..).1 h
 have h3 := (node_op cst lab h1).1
 rw [parts_two (.inr rfl)] at h3
 match l, h3, h2 with
 | [f, a], _, h2 => exact ⟨f, a, rfl, h2 f (by simp), h2 a (by simp)⟩
theorem form_bind {op n : Int} {s : ByteArray} {k : Kd} {ns : List ByteArray} {l : List Cn} (hb : binderB op = true) (h : formC cst lab (.mk op n s k ns l) = true) : ∃ f, l = [f]/\formC cst lab f = true := by
 obtain ⟨h1, h2⟩ := (formC_iff cst lab ..).1 h
 have h3 := (node_op cst lab h1).1
 rw [parts_one hb] at h3
 match l, h3, h2 with
 | [f], _, h2 => exact ⟨f, rfl, h2 f (by simp)⟩
theorem var_form {n : Int} (h0 : 0<=n) (h1 : n<=20000) : formC cst lab (varC n) = true := by
 unfold varC
 refine (formC_iff cst lab ..).2 ⟨?_, fun x hx => by cases hx⟩
 unfold nodeC
 have : (⟨#[]⟩ : ByteArray).size = 0 := rfl
 simp [h0, h1, Kd.l, partsC, binderB, labelledB, this]
theorem shift_form : ∀ (c : Cn) (d : Nat), formC cst lab c = true->occC d c = false->formC cst lab (shiftC (-1) d c) = true := by
 refine Cn.ind (fun op n s k ns l ih d h ho => ?_)
 obtain ⟨h1, h2⟩ := (formC_iff cst lab ..).1 h
 rw [shiftC_mk]
 rw [occC_mk] at ho
 by_cases hop : op = 1
 ·rw [if_pos hop]
  rw [if_pos hop] at ho
  have hn := (node_op cst lab h1).2 (.inl hop)
  have hne : n ≠ d := by simpa using ho
  by_cases hd : (d : Int)<=n
  ·rw [if_pos hd]; exact var_form cst lab (by omega) (by omega)
  ·rw [if_neg hd]; exact h
 ·rw [if_neg hop]
  rw [if_neg hop, List.any_eq_false] at ho
  refine (formC_iff cst lab ..).2 ⟨by rw [List.length_map]; exact h1, fun x hx => ?_⟩
  obtain ⟨y, hy, rfl⟩ := List.mem_map.1 hx
  refine ih y hy _ (h2 y hy) ?_
  have := ho y hy
  unfold deepC
  by_cases hb : binderB op = true
  ·rw [if_pos hb] at this ⊢; simpa using this
  ·rw [if_neg hb] at this ⊢; simpa using this
theorem eta_shape {c : Cn} (hf : formC cst lab c = true) (h : etaC c = true) : ∃ n s k ns n' s' k' ns' f a, c = .mk 11 n s k ns [.mk 12 n' s' k' ns' [f, a]]/\a.op = 1/\a.n = 0/\occC 0 f = false/\formC cst lab f = true := by
 obtain ⟨op, n, s, k, ns, l⟩ := c
 unfold etaC at h
 simp only [Bool.and_eq_true, beq_iff_eq, Bool.not_eq_true', Cn.op, Cn.l] at h
 obtain ⟨⟨⟨⟨h1, h2⟩, h3⟩, h4⟩, h5⟩ := h
 have h1' : op = 11 := h1
 subst h1'
 obtain ⟨b, rfl, hb⟩ := form_bind cst lab rfl hf
 obtain ⟨op', n', s', k', ns', l'⟩ := b
 have h2' : op' = 12 := h2
 subst h2'
 obtain ⟨f, a, rfl, hff, _⟩ := form_app cst lab hb
 exact ⟨n, s, k, ns, n', s', k', ns', f, a, rfl, h3, h4, h5, hff⟩
theorem normL_form {g : Cn->Nat->Option (Cn × Nat)} (hg : ∀ c left c' m, formC cst lab c = true->g c left = some (c', m)->formC cst lab c' = true/\m<=left) : ∀ (l : List Cn) (left : Nat) (l' : List Cn) (m : Nat), (∀ x ∈ l, formC cst lab x = true)->normL g l left = some (l', m)->l'.length = l.length/\(∀ x ∈ l', formC cst lab x = true)/\m<=left
 | [], left, l', m, _, h => by
   simp only [normL, Option.some.injEq, Prod.mk.injEq] at h
   obtain ⟨rfl, rfl⟩ := h
   exact ⟨rfl, (fun x hx => by cases hx), Nat.le_refl _⟩
 | x :: r, left, l', m, hl, h => by
   rw [normL] at h
   split at h
   ·cases h
   ·rename_i y m1 hy
    obtain ⟨⟨r', m2⟩, hr, he⟩ := Option.map_eq_some_iff.1 h
    simp only [Prod.mk.injEq] at he
    obtain ⟨rfl, rfl⟩ := he
    obtain ⟨g1, g2⟩ := hg x left y m1 (hl x (by simp)) hy
    obtain ⟨i1, i2, i3⟩ := normL_form hg r m1 r' m2 (fun z hz => hl z (by simp [hz])) hr
    refine ⟨by simp [i1], fun z hz => ?_, by omega⟩
    rcases List.mem_cons.1 hz with rfl | hz
    ·exact g1
    ·exact i2 z hz
theorem norm_form : ∀ (F : Nat) (c : Cn) (left : Nat) (c' : Cn) (m : Nat), formC cst lab c = true->normN cst lab F c left = some (c', m)->formC cst lab c' = true/\m<=left
 | 0, c, left, c', m, _, h => by cases h
 | F + 1, .mk op n s k ns l, left, c', m, hf, h => by
   rw [normN_mk] at h
   split at h
   ·cases h
   ·rename_i l' m1 hl
    obtain ⟨h1, h2⟩ := (formC_iff cst lab ..).1 hf
    obtain ⟨e1, e2, e3⟩ := normL_form cst lab (fun c left c' m hc h => norm_form F c left c' m hc h) l left l' m1 h2 hl
    have ho : formC cst lab (.mk op n s k ns l') = true := (formC_iff cst lab ..).2 ⟨by rw [e1]; exact h1, e2⟩
    unfold hNQ at h
    split at h
    ·cases h
    ·split at h
     ·cases m1 with
      | zero => cases h
      | succ m2 =>
        simp only at h
        split at h
        ·rename_i hv
         unfold validC at hv
         rw [Bool.and_eq_true] at hv
         obtain ⟨i1, i2⟩ := norm_form F _ m2 c' m hv.2 h
         exact ⟨i1, by omega⟩
        ·cases h
     ·split at h
      ·rename_i he
       obtain ⟨_, _, _, _, _, _, _, _, f, a, hc, _, _, hocc, hff⟩ := eta_shape cst lab ho he
       rw [hc] at h
       simp only [Cn.l, List.getD_cons_zero, Option.some.injEq, Prod.mk.injEq] at h
       obtain ⟨rfl, rfl⟩ := h
       exact ⟨shift_form cst lab f 0 hff hocc, e3⟩
      ·simp only [Option.some.injEq, Prod.mk.injEq] at h
       obtain ⟨rfl, rfl⟩ := h
       exact ⟨ho, e3⟩
theorem nHQ (w : World) (o : Obj) : (w.alloc o).heap[w.heap.size]? = some o := by simp [World.alloc, -World.alloc_eq]
theorem hLQ {w : World} {k : Nat} {o : Obj} (h : w.heap[k]? = some o) : k < w.heap.size := by
 rcases Nat.lt_or_ge k w.heap.size with h' | h'
 ·exact h'
 ·simp [Array.getElem?_eq_none h'] at h
def strCells (l : List ByteArray) : List Value := l.map Value.string
end Go.Proofs.YtkiffgdinmpljaaGreatDoor
