/- The code of a program as a list; what a valid program's numbers are. -/
import Derived.Test.YtidffjlpldalpaaGreatDoorT6
set_option linter.unusedVariables false
set_option linter.unusedSimpArgs false
namespace Go.Proofs.YtidffjlpldalpaaGreatDoor
open Go Go.RowKit

def bytesL (s : ByteArray) : List Int := s.data.toList.map fun b => (b.toNat : Int)
theorem bytesL_length (s : ByteArray) : (bytesL s).length = s.size := by rw [bytesL, List.length_map, Array.length_toList]; rfl
theorem bytesL_cells (s : ByteArray) : u8s (bytesL s) = Lib.strCells s := by simp [u8s, bytesL, Lib.strCells]
def textL (s : ByteArray) : List Int := putL s.size ++ bytesL s
def insL (i : Ins) : List Int := putL i.op ++ (putL i.a ++ putL i.b)
def headL (f : FunD) : List Int := [f.c, f.l, f.d, (f.code.length : Int)]
def funL (f : FunD) : List Int := (headL f).flatMap putL ++ f.code.flatMap insL
def bodyL (p : ProgD) : List Int := putL p.main ++ (putL p.texts.length ++ (p.texts.flatMap textL ++ (putL p.funs.length ++ p.funs.flatMap funL)))
def encL (p : ProgD) : List Int := bodyL p ++ [sumK (bodyL p) (bodyL p).length / 256, sumK (bodyL p) (bodyL p).length % 256]
theorem drop_step {α : Type} (d : α) (l : List α) (f : α → List Int) (k : Nat) (h : k < l.length) : (l.drop k).flatMap f = f (l.getD k d) ++ (l.drop (k + 1)).flatMap f := by
  rw [List.drop_eq_getElem_cons h, List.flatMap_cons]; simp [List.getD, h]
theorem putF_bytes : ∀ (k z : Nat), AreBytes (putF k z)
  | 0, _ => fun x hx => by simp [putF] at hx
  | k + 1, z => fun x hx => by
    unfold putF at hx
    split at hx
    · simp at hx; omega
    · simp only [List.mem_cons] at hx
      rcases hx with rfl | hx
      · omega
      · exact putF_bytes k _ x hx
theorem putF_length : ∀ (k z : Nat), (putF k z).length ≤ k
  | 0, _ => Nat.le_refl _
  | k + 1, z => by
    unfold putF
    split
    · simp
    · simp only [List.length_cons]; have := putF_length k (z / 128); omega
theorem putL_length (n : Int) : (putL n).length ≤ 8 := putF_length _ _
theorem putL_bytes (n : Int) : AreBytes (putL n) := putF_bytes _ _
theorem AreBytes.append {a b : List Int} (h : AreBytes a) (k : AreBytes b) : AreBytes (a ++ b) := fun x hx => by
  rcases List.mem_append.1 hx with hx | hx
  · exact h x hx
  · exact k x hx
theorem AreBytes.flat {α : Type} (l : List α) (f : α → List Int) (h : ∀ x ∈ l, AreBytes (f x)) : AreBytes (l.flatMap f) := fun y hy => by
  obtain ⟨x, hx, hy⟩ := List.mem_flatMap.1 hy
  exact h x hx y hy
theorem bytesL_bytes (s : ByteArray) : AreBytes (bytesL s) := fun x hx => by
  simp only [bytesL, List.mem_map] at hx
  obtain ⟨b, _, rfl⟩ := hx
  have := b.toNat_lt; omega
theorem insL_bytes (i : Ins) : AreBytes (insL i) := (putL_bytes _).append ((putL_bytes _).append (putL_bytes _))
theorem bodyL_bytes (p : ProgD) : AreBytes (bodyL p) :=
  (putL_bytes _).append ((putL_bytes _).append ((AreBytes.flat _ _ fun _ _ => (putL_bytes _).append (bytesL_bytes _)).append ((putL_bytes _).append (AreBytes.flat _ _ fun _ _ => (AreBytes.flat _ _ fun _ _ => putL_bytes _).append (AreBytes.flat _ _ fun _ _ => insL_bytes _)))))
/-- A number that put takes. -/
def Fit (n : Int) : Prop := -4503599627370497 ≤ n ∧ n ≤ 4503599627370497
theorem right_fit (nt : Nat) (fs : List FunD) (c l : Int) (code : List Ins) (k : Nat) (_hk : k < code.length) (hc0 : 0 ≤ c) (hc1 : c ≤ 1000) (hl1 : l ≤ 4096) (hnt : nt ≤ 1000000) (hfs : fs.length ≤ 1000000) (hcode : code.length ≤ 1000000)
    (hfc : ∀ f ∈ fs, headB f = true) (h : rightB nt fs c l code k = true) : Fit (code.getD k default).op ∧ Fit (code.getD k default).a ∧ Fit (code.getD k default).b ∧ knownB (code.getD k default).op = true := by
  unfold rightB at h
  generalize code.getD k default = i at h ⊢
  obtain ⟨op, a, b⟩ := i
  by_cases hkn : knownB op = false
  · simp [rightI, hkn] at h
  · have hkn' : knownB op = true := by simpa using hkn
    have hop : 1 ≤ op ∧ op ≤ 16 := by simpa [knownB, inB] using hkn'
    have hfb : inB a 0 ((fs.length : Int) - 1) = true → (fs.getD a.toNat default).c ≤ 1000 ∧ 0 ≤ (fs.getD a.toNat default).c := fun ha => by
      have ha' : 0 ≤ a ∧ a ≤ (fs.length : Int) - 1 := by simpa [inB] using ha
      have := hfc _ (getD_mem default fs a.toNat (by omega))
      simp only [headB, inB, Bool.and_eq_true, decide_eq_true_eq] at this
      exact ⟨this.1.2, this.1.1⟩
    show Fit op ∧ Fit a ∧ Fit b ∧ knownB op = true
    refine ⟨⟨by omega, by omega⟩, ?_⟩
    simp only [rightI, hkn] at h
    rcases op_cases op with rfl | rfl | rfl | rfl | rfl | rfl | rfl | rfl | rfl | rfl | rfl | rfl | rfl | rfl | rfl | rfl | hno
    rotate_left 16
    · exfalso; omega
    all_goals
      simp [opnds, inB] at h hfb
      unfold Fit
      refine ⟨⟨?_, ?_⟩, ⟨?_, ?_⟩, hkn'⟩ <;> omega
end Go.Proofs.YtidffjlpldalpaaGreatDoor
