/- The texts of a program; Valid. -/
import Derived.Test.YtbcbjefonkbjnaaDoorBc11
import Derived.Test.YtbcbjefonkbjnaaDoorBc10
namespace Go.Proofs.YtbcbjefonkbjnaaDoor
open Go Go.RowKit

def visB (b : UInt8) : Bool := b == 10 || (decide (32 ≤ b.toNat) && decide (b.toNat ≤ 126))
def quotedB (s : ByteArray) : Bool := decide (s.size ≤ 16384) && s.data.toList.all visB
def QuotedOk (s : ByteArray) : Prop := ∀ w, Calls Tryd.prog 33 #[.string s] w fun e w' => e = .returned (.bool (quotedB s)) ∧ Below w.heap.size w w'
def notQ (s : ByteArray) : Bool := !quotedB s
theorem valid1_any (s : ByteArray) (H : QuotedOk s) (w : World) : Calls Tryd.prog 32 #[.string s] w fun e w' => e = .returned (.bool (notQ s)) ∧ Below w.heap.size w w' := by
  have H' := Lib.hid H
  clear H
  go_enter Tryd.func32, Tryd.ntmps32
  go_wp2_with fail
  refine (H'.out _).mono ?_
  rintro e w' ⟨rfl, hb⟩
  go_wp2_with fail
  go_ret
  exact ⟨rfl, hb⟩
def strCells (l : List ByteArray) : List Value := l.map Value.string
theorem strCells_length (l : List ByteArray) : (strCells l).length = l.length := by simp [strCells]
theorem strCells_at (l : List ByteArray) (k : Nat) (h : k < l.length) : (strCells l).getD k undef = .string (l.getD k default) := by simp [strCells, List.getD, h]
def IsTexts (w : World) (v : Value) (l : List ByteArray) : Prop := IsRow w v l.length (strCells l)
set_option maxRecDepth 100000 in
theorem indexT_any (v : Value) (l : List ByteArray) (w : World) (h : IsTexts w v l) (hl : l.length ≤ 1000000) (HQ : ∀ s ∈ l, QuotedOk s) :
    Calls Tryd.prog 59 #[v, .func (.func 32) #[] #[]] w (AnyW (l.any notQ) w) := by
  have HT : Hid (∀ k, k < l.length → ∀ w, Calls Tryd.prog 32 #[.string (l.getD k default)] w fun e w' => e = .returned (.bool (notQ (l.getD k default))) ∧ Below w.heap.size w w') := fun k hk w => valid1_any _ (HQ _ (getD_mem _ _ _ hk)) w
  clear HQ
  obtain ⟨a', c', rfl, hlc, hcell⟩ := h
  have hb0 := Below.refl w.heap.size w
  by_cases hne : l.length = 0
  · have hnil : l = [] := List.length_eq_zero_iff.1 hne
    subst hnil
    clear hcell
    go_enter Tryd.func59, Tryd.ntmps59
    go_wp2_with fail
    go_loop [8] (fun i => i = .int .i64 0) (fun i => 0)
    case atStart => rfl
    case round =>
      subst hrel
      go_wp2_with fail
      go_ret
      exact ⟨-1, rfl, rfl, hb0⟩
  · obtain ⟨b, off, rfl, hlt, hc⟩ := hcell (by omega)
    have Hc : Hid (∀ k, k < l.length → w.cell? ⟨b, off + k, none⟩ = some (.string (l.getD k default))) := fun k hk => by
      rw [hc k (by rw [strCells_length]; exact hk), strCells_at l k hk]
    clear hcell hc
    go_enter Tryd.func59, Tryd.ntmps59
    go_wp2_with fail
    go_loopw [8] (fun i wr => (∃ k : Nat, k ≤ l.length ∧ i = .int .i64 k ∧ Hid ((l.take k).any notQ = false)) ∧ Below w.heap.size w wr) (fun i _ => l.length - (intOf i).toNat)
    case atStart => exact ⟨⟨0, Nat.zero_le _, rfl, rfl⟩, hb0⟩
    case round =>
      obtain ⟨⟨k, hk, rfl, hno⟩, hbr⟩ := hrel
      by_cases hkl : k < l.length
      · have c0 := Hc.out k hkl
        have d0 : wr.cell? ⟨b, off + k, none⟩ = _ := (hbr.cell (p := ⟨b, off + k, none⟩) hlt).trans c0
        clear c0
        have Hn := Lib.hid (any_next default l notQ k hkl hno.out)
        have Hy := Lib.hid (any_hit default l notQ k hkl)
        have HT' := Lib.hid (HT.out k hkl)
        generalize l.getD k default = x at *
        go_wp2_with fail
        refine (HT'.out _).mono ?_
        rintro e w' ⟨rfl, hb1⟩
        have hb2 : Below w.heap.size w w' := hbr.trans (hb1.mono hbr.size)
        obtain ⟨bb, hbb⟩ : ∃ bb, notQ x = bb := ⟨_, rfl⟩
        have Hbb := Lib.hid hbb
        rw [hbb]
        clear hbb
        cases bb
        · have hN : Hid ((l.take (k + 1)).any notQ = false) := Hn.out Hbb.out
          go_wp2_with fail
          go_round
          case rel => exact ⟨⟨k + 1, by omega, by go_num, hN⟩, hb2⟩
          case measure => simp [intOf]; omega
        · go_wp2_with fail
          go_ret
          exact ⟨k, rfl, by rw [Hy.out Hbb.out]; simp, hb2⟩
      · go_wp2_with fail
        go_ret
        refine ⟨-1, rfl, ?_, hbr⟩
        have := hno.out
        rw [List.take_of_length_le (by omega)] at this
        rw [this]; rfl
theorem containsT_any (v : Value) (l : List ByteArray) (w : World) (h : IsTexts w v l) (hl : l.length ≤ 1000000) (HQ : ∀ s ∈ l, QuotedOk s) :
    Calls Tryd.prog 31 #[v, .func (.func 32) #[] #[]] w fun e w' => e = .returned (.bool (l.any notQ)) ∧ Below w.heap.size w w' := by
  have H := Lib.hid (indexT_any v l w h hl HQ)
  clear HQ
  go_enter Tryd.func31, Tryd.ntmps31
  go_wp2_with fail
  refine H.out.mono ?_
  rintro e w' ⟨r, rfl, hr, hb⟩
  have Hr := Lib.hid hr
  clear hr
  go_wp2_with fail
  go_ret
  exact ⟨ret_bool Hr.out, hb⟩

structure ProgD where
  funs : List FunD
  texts : List ByteArray
  main : Int
def IsProg (w : World) (fv tv : Value) (p : ProgD) : Prop := IsFuns w fv p.funs ∧ IsTexts w tv p.texts
theorem IsProg.below {w w' : World} {fv tv : Value} {p : ProgD} (h : IsProg w fv tv p) (hb : Below w.heap.size w w') : IsProg w' fv tv p := ⟨h.1.below hb, IsRow.below h.2 hb⟩
def headB (f : FunD) : Bool := inB f.c 0 1000 && (inB f.l 1 4096 && (inB f.d 0 4096 && inB (f.code.length : Int) 1 16384))
def rightsB (p : ProgD) (f : FunD) : Bool := (List.range f.code.length).all fun k => rightB p.texts.length p.funs f.c f.l f.code k
def mainB (p : ProgD) : Bool := inB p.main 0 ((p.funs.length : Int) - 1) && decide ((p.funs.getD p.main.toNat default).c = 0)
def validB (p : ProgD) : Bool := inB (p.funs.length : Int) 1 4096 && (decide (p.texts.length ≤ 1000) && (!p.texts.any notQ && (p.funs.all headB && (p.funs.all (rightsB p) && mainB p))))
def ValidOk (p : ProgD) (w : World) (e : Ending) (w' : World) : Prop := e = .returned (.bool (validB p)) ∧ Below w.heap.size w w'
def badHead (f : FunD) : Bool := !headB f
def badRights (p : ProgD) (f : FunD) : Bool := !rightsB p f
theorem all_of {α : Type} (l : List α) (p : α → Bool) : l.all p = !l.any (fun x => !p x) := by
  induction l with
  | nil => rfl
  | cons x l ih => simp [ih]
theorem valid_c0 (p : ProgD) (h : inB (p.funs.length : Int) 1 4096 = false) : validB p = false := by unfold validB; rw [h]; rfl
theorem valid_c1 (p : ProgD) (h : ¬ p.texts.length ≤ 1000) : validB p = false := by unfold validB; simp [h]
theorem valid_c2 (p : ProgD) (h : p.texts.any notQ = true) : validB p = false := by unfold validB; simp [h]
theorem valid_c3 (p : ProgD) (h : p.funs.any badHead = true) : validB p = false := by unfold validB; rw [all_of p.funs headB]; rw [show p.funs.any (fun x => !headB x) = true from h]; simp
theorem valid_c4 (p : ProgD) (h : p.funs.any (badRights p) = true) : validB p = false := by unfold validB; rw [all_of p.funs (rightsB p)]; rw [show p.funs.any (fun x => !rightsB p x) = true from h]; simp
theorem valid_ok (p : ProgD) (h0 : inB (p.funs.length : Int) 1 4096 = true) (h1 : p.texts.length ≤ 1000) (h2 : p.texts.any notQ = false) (h3 : p.funs.any badHead = false) (h4 : p.funs.any (badRights p) = false) : validB p = mainB p := by
  unfold validB; rw [all_of p.funs headB, all_of p.funs (rightsB p), show p.funs.any (fun x => !headB x) = false from h3, show p.funs.any (fun x => !rightsB p x) = false from h4, h0, h2]; simp [h1]
end Go.Proofs.YtbcbjefonkbjnaaDoor
