/- The chapter's example: plain values. The reference's deep and inside; a list of constructors under way in a temporary. Expanded by mac.py. -/
import Derived.Test.YtkiffgdinmpljaaGreatDoorF34
import Derived.Test.YtkiffgdinmpljaaGreatDoorF36
import Derived.Test.YtkiffgdinmpljaaGreatDoorF14
import Derived.Test.YtkiffgdinmpljaaGreatDoorF19
set_option linter.unusedVariables false
set_option linter.unusedSimpArgs false
namespace Go.Proofs.YtkiffgdinmpljaaGreatDoor
open Go Go.RowKit
set_option maxHeartbeats 8000000
set_option maxRecDepth 100000
def leafN (op : Int) : Cn := .mk op 0 ⟨#[]⟩ (.mk []) [] []
def lamN (x : Cn) : Cn := .mk 11 0 ⟨#[]⟩ (.mk []) [] [x]
def appN (x y : Cn) : Cn := .mk 12 0 ⟨#[]⟩ (.mk []) [] [x, y]
def exArrow : Cn := .mk 6 0 ⟨#[]⟩ (.mk []) [] [leafN 5, leafN 4]
def exApp : Cn := appN (lamN (.mk 6 0 ⟨#[]⟩ (.mk []) [] [leafN 1, leafN 4])) (leafN 5)
def exA : Cn := .mk 2 0 ⟨#[65, 46, 49]⟩ (.mk [.mk [], .mk []]) [] []
def exEta : Cn := lamN (appN exA (leafN 1))
theorem ex_val : valC exApp = true/\valC exEta = true/\valC exArrow = true/\normalC exArrow = true/\normalC exApp = false := by
 refine ⟨?_, ?_, ?_, ?_, ?_⟩
 ·decide +kernel
 ·decide +kernel
 ·decide +kernel
 ·decide +kernel
 ·decide +kernel
theorem ex_tame : tameN exApp = some (exArrow, 9999) := by
 show normN cstB labsB (4010397 + 4) exApp (9999 + 1) = _
 rfl
theorem ex_eta : tameN exEta = some (exA, 10000) := by
 show normN cstB labsB (4010397 + 4) exEta (9999 + 1) = _
 rfl
theorem bnd_node (op n : Int) (s : ByteArray) (k : Kd) (l : List Cn) (hs : s.size<=60) (hl : ∀ x ∈ l, bndC x) : bndC (.mk op n s k [] l) := (bndC_mk ..).2 ⟨hs, by simp, (fun x hx => by cases hx), hl⟩
theorem bnd_one {x : Cn} (h : bndC x) : ∀ y ∈ [x], bndC y := fun y hy => by rw [List.mem_singleton.1 hy]; exact h
theorem bnd_two {x z : Cn} (h : bndC x) (k : bndC z) : ∀ y ∈ [x, z], bndC y := fun y hy => by
 rcases List.mem_cons.1 hy with rfl | hy
 ·exact h
 ·rw [List.mem_singleton.1 hy]; exact k
theorem bnd_leaf (op : Int) : bndC (leafN op) := bnd_node _ _ _ _ _ (by decide) (fun x hx => by cases hx)
theorem ex_bnd : bndC exApp/\bndC exEta/\bndC exArrow :=
 ⟨bnd_node _ _ _ _ _ (by decide) (bnd_two (bnd_node _ _ _ _ _ (by decide) (bnd_one (bnd_node _ _ _ _ _ (by decide) (bnd_two (bnd_leaf 1) (bnd_leaf 4))))) (bnd_leaf 5)),
  bnd_node _ _ _ _ _ (by decide) (bnd_one (bnd_node _ _ _ _ _ (by decide) (bnd_two (bnd_node _ _ _ _ _ (by decide) (fun x hx => by cases hx)) (bnd_leaf 1)))),
  bnd_node _ _ _ _ _ (by decide) (bnd_two (bnd_leaf 5) (bnd_leaf 4))⟩
def dpI (op d : Int) : Int := if binderB op = true then d + 1 else d
theorem dpI_nat (op : Int) (d : Nat) : dpI op d = ((deepC op d : Nat) : Int) := by
 unfold dpI deepC
 split
 ·rfl
 ·rfl
theorem dpI_le (op d : Int) : d<=dpI op d/\dpI op d<=d + 1 := by unfold dpI; split <;> omega
theorem deepC_le (op : Int) (d : Nat) : d<=deepC op d/\deepC op d<=d + 1 := by unfold deepC; split <;> omega
theorem rdeep_any (P : Nat->Prop) (x : ConD) (d : Int) (w : World) (h : IsCon P w x) (h0 : -1000000<=d) (h1 : d<=1000000) :
 Calls Tryz.prog 100 #[conV x, .int .i64 d] w fun e w' => e = .returned (.int .i64 (dpI x.op d))/\Below w.heap.size w w' := by
 obtain ⟨op, n, s, k, nv, ns, lv, l⟩ := x
 obtain ⟨ka, kc, kn, hks⟩ := iKQ h.parts.kind
 obtain ⟨na, nc, rfl, _⟩ := rSQ h.parts.names
 obtain ⟨a, c, rfl, _⟩ := rSQ h.parts.row
 rw [cVQ hks]
 have hll : l.length<=9223372036854775807 := by have h1 := h.parts.llen; have : maxLen = 9223372036854775807 := (by decide); omega
 have hnn : ns.length<=9223372036854775807 := by have h1 := h.parts.nlen; have : maxLen = 9223372036854775807 := (by decide); omega
 have hb0 : Below w.heap.size w (w.alloc (.cells #[.int .i64 op, .int .i64 n, .string s, .slice ka kn kc, .slice na ns.length nc, .slice a l.length c] 28)) := (Below.refl _ _).alloc (Nat.le_refl _) _
 have gC := nHQ w (.cells #[.int .i64 op, .int .i64 n, .string s, .slice ka kn kc, .slice na ns.length nc, .slice a l.length c] 28)
 have hsz0 : (w.alloc (.cells #[.int .i64 op, .int .i64 n, .string s, .slice ka kn kc, .slice na ns.length nc, .slice a l.length c] 28)).heap.size = w.heap.size + 1 := by simp
 obtain ⟨c0, c1, c2, c3, c4, c5⟩ := cnQ gC
 have HP := hJQ (iBQ h hb0).parts
 have HC0 := hJQ (iBQ h hb0)
 have HF : Hid (∀ v, dpI op d = v->Ending.returned (.int .i64 v) = Ending.returned (.int .i64 (dpI op d))) := fun v hv => by rw [hv]
 show Calls _ _ _ _ fun e w' => e = .returned (.int .i64 (dpI op d))/\_
 have HB := hJQ (opBinder_any 105 (.inr rfl) op (w.alloc (.cells #[.int .i64 op, .int .i64 n, .string s, .slice ka kn kc, .slice na ns.length nc, .slice a l.length c] 28)))
 have hwr : IntKind.i64.wrap (d + 1) = d + 1 := wrap_ok _ (by omega) (by omega)
 clear h gC HP HC0 hks
 go_enter Tryz.func100, Tryz.ntmps100
 go_wp2_with fail
 refine HB.out.mono ?_
 rintro e w2 ⟨rfl, rfl⟩
 obtain ⟨b, hb⟩ : ∃ b, binderB op = b := ⟨_, rfl⟩
 rw [hb]
 cases b
 ·have HE := hJQ (HF.out d (by unfold dpI; rw [hb]; rfl))
  clear HF hb HB
  go_wp2_with fail
  go_ret
  exact ⟨HE.out, hb0⟩
 ·have HE := hJQ (HF.out (d + 1) (by unfold dpI; rw [hb]; rfl))
  clear HF hb HB
  go_wp2_with fail
  go_ret
  exact ⟨HE.out, hb0⟩
theorem rinside_any (P : Nat->Prop) (x : ConD) (ra : Option Addr) (rm rc : Nat) (w : World) (h : IsCon P w x) :
 Calls Tryz.prog 101 #[conV x, .slice ra rm rc] w fun e w' => e = .returned (.agg #[.int .i64 x.op, .int .i64 x.n, .string x.s, x.k.v, x.nv, .slice ra rm rc])/\Below w.heap.size w w' := by
 obtain ⟨op, n, s, k, nv, ns, lv, l⟩ := x
 obtain ⟨ka, kc, kn, hks⟩ := iKQ h.parts.kind
 obtain ⟨na, nc, rfl, _⟩ := rSQ h.parts.names
 obtain ⟨a, c, rfl, _⟩ := rSQ h.parts.row
 rw [cVQ hks]
 have hll : l.length<=9223372036854775807 := by have h1 := h.parts.llen; have : maxLen = 9223372036854775807 := (by decide); omega
 have hnn : ns.length<=9223372036854775807 := by have h1 := h.parts.nlen; have : maxLen = 9223372036854775807 := (by decide); omega
 have hb0 : Below w.heap.size w (w.alloc (.cells #[.int .i64 op, .int .i64 n, .string s, .slice ka kn kc, .slice na ns.length nc, .slice a l.length c] 28)) := (Below.refl _ _).alloc (Nat.le_refl _) _
 have gC := nHQ w (.cells #[.int .i64 op, .int .i64 n, .string s, .slice ka kn kc, .slice na ns.length nc, .slice a l.length c] 28)
 have hsz0 : (w.alloc (.cells #[.int .i64 op, .int .i64 n, .string s, .slice ka kn kc, .slice na ns.length nc, .slice a l.length c] 28)).heap.size = w.heap.size + 1 := by simp
 obtain ⟨c0, c1, c2, c3, c4, c5⟩ := cnQ gC
 have HP := hJQ (iBQ h hb0).parts
 have HC0 := hJQ (iBQ h hb0)
 show Calls _ _ _ _ fun e w' => e = .returned (.agg #[.int .i64 op, .int .i64 n, .string s, k.v, .slice na ns.length nc, .slice ra rm rc])/\_
 rw [hks]
 have hg1 := gAQ (w.alloc (.cells #[.int .i64 op, .int .i64 n, .string s, .slice ka kn kc, .slice na ns.length nc, .slice a l.length c] 28)) (.cells #[.int .i64 0, .int .i64 0, .string ⟨#[]⟩, .slice none 0 0, .slice none 0 0, .slice none 0 0] 28)
 have kR : ((w.alloc (.cells #[.int .i64 op, .int .i64 n, .string s, .slice ka kn kc, .slice na ns.length nc, .slice a l.length c] 28)).alloc (.cells #[.int .i64 0, .int .i64 0, .string ⟨#[]⟩, .slice none 0 0, .slice none 0 0, .slice none 0 0] 28)).heap[w.heap.size + 1]? = _ := (congrArg _ hsz0.symm).trans (nHQ (w.alloc (.cells #[.int .i64 op, .int .i64 n, .string s, .slice ka kn kc, .slice na ns.length nc, .slice a l.length c] 28)) (.cells #[.int .i64 0, .int .i64 0, .string ⟨#[]⟩, .slice none 0 0, .slice none 0 0, .slice none 0 0] 28))
 have kB := (hg1.block w.heap.size (by omega) (by nofun)).trans gC
 have hbW := gUQ (B := w.heap.size) (gBQ (gAQ w (.cells #[.int .i64 op, .int .i64 n, .string s, .slice ka kn kc, .slice na ns.length nc, .slice a l.length c] 28)) hg1) (Nat.le_refl _) (by nofun)
 have hszW : ((w.alloc (.cells #[.int .i64 op, .int .i64 n, .string s, .slice ka kn kc, .slice na ns.length nc, .slice a l.length c] 28)).alloc (.cells #[.int .i64 0, .int .i64 0, .string ⟨#[]⟩, .slice none 0 0, .slice none 0 0, .slice none 0 0] 28)).heap.size = w.heap.size + 2 := by simp
 clear c0 c1 c2 c3 c4 c5 h hb0 gC HP HC0 hsz0 hg1 hks
 go_enter Tryz.func101, Tryz.ntmps101
 go_upto_region 1 with fail
 generalize (w.alloc (.cells #[.int .i64 op, .int .i64 n, .string s, .slice ka kn kc, .slice na ns.length nc, .slice a l.length c] 28)).alloc (.cells #[.int .i64 0, .int .i64 0, .string ⟨#[]⟩, .slice none 0 0, .slice none 0 0, .slice none 0 0] 28) = W at *
 obtain ⟨c0, c1, c2, c3, c4, c5⟩ := cnQ kB
 have hrow := gRQ W (w.heap.size + 1) #[.int .i64 op, .int .i64 n, .string s, .slice ka kn kc, .slice na ns.length nc, .slice ra rm rc]
 have HRF := hJQ (setRow_heap W (w.heap.size + 1) _ #[.int .i64 op, .int .i64 n, .string s, .slice ka kn kc, .slice na ns.length nc, .slice ra rm rc] _ _ kR)
 have HB := hJQ (hbW.trans (gUQ (B := w.heap.size) hrow (by omega) (fun q hq => by have e2 : w.heap.size + 1 = q := oJQ hq; omega)))
 clear hrow
 go_wp2_with (refine wpList_store_row rfl 28 _ _ rfl (w.heap.size + 1) _ rfl rfl 28 _ kR cIQ rfl (all_one _ rfl) ?_)
 refine bodyPost_ret (results_cell_row rfl _ _ (w.heap.size + 1) 28 #[.int .i64 op, .int .i64 n, .string s, .slice ka kn kc, .slice na ns.length nc, .slice ra rm rc] (0, 0) _ rfl HRF.out Tryz.underlying28 rfl cIQ) rfl ?_
 exact ⟨rfl, HB.out⟩
structure LsC (P : Nat->Prop) (V : World) (B : Nat) (cv : Value) (ds : List ConD) : Prop where
 own : V.ownsRow B 28 6 cv ds.length (cCQ ds)
 els : ∀ y ∈ ds, IsCon (fun b => P b/\cv.ownBlock ≠ some b) V y
 lt : B<=V.heap.size
theorem LsC.nil (P : Nat->Prop) (V : World) (B : Nat) (h : B<=V.heap.size) : LsC P V B (.slice none 0 0) [] := ⟨⟨rfl, .inl ⟨rfl, rfl⟩⟩, (fun y hy => by cases hy), h⟩
theorem LsC.grown {P : Nat->Prop} {V V' : World} {B : Nat} {cv : Value} {ds : List ConD} (h : LsC P V B cv ds) (hg : V.grownBy V' none) : LsC P V' B cv ds :=
 ⟨h.own.kept hg (by cases cv.ownBlock <;> simp), fun y hy => (h.els y hy).grown hg (by nofun), Nat.le_trans h.lt hg.size⟩
theorem LsC.slice {P : Nat->Prop} {V : World} {B : Nat} {cv : Value} {ds : List ConD} (h : LsC P V B cv ds) : ∃ a c, cv = .slice a ds.length c := by
 obtain ⟨_, h2⟩ := h.own
 rcases h2 with ⟨rfl, h0⟩ | ⟨g, cap, cur, rfl, _⟩
 ·exact ⟨none, 0, by rw [h0]⟩
 ·exact ⟨_, _, rfl⟩
theorem LsC.push {P : Nat->Prop} {V w4 : World} {B : Nat} {cv : Value} {ds : List ConD} {y : ConD} {o : Obj} {gN cN : Nat} (h : LsC P V B cv ds) (hy : IsCon (fun b => P b/\cv.ownBlock ≠ some b) V y)
 (hown : w4.ownsRow B 28 6 (.slice (some ⟨gN, 0, none⟩) (ds.length + 1) cN) (ds.length + 1) (cCQ ds ++ cEQ y)) (hg : (V.alloc o).grownBy w4 cv.ownBlock) (hat : cv.ownBlock = some gN ∨ gN = (V.alloc o).heap.size) :
 LsC P w4 B (.slice (some ⟨gN, 0, none⟩) (ds.length + 1) cN) (ds ++ [y]) := by
 have hsz : (V.alloc o).heap.size = V.heap.size + 1 := by simp
 have hgs := hg.size
 have hblt := h.lt
 refine ⟨?_, ?_, by omega⟩
 ·rw [List.length_append, conCells_app]
  have e : cCQ [y] = cEQ y := by simp [cCQ]
  rw [e]
  exact hown
 ·intro z hz
  have hz' : IsCon (fun b => P b/\cv.ownBlock ≠ some b) V z := by
   rcases List.mem_append.1 hz with hz | hz
   ·exact h.els z hz
   ·rw [List.mem_singleton.1 hz]; exact hy
  have hk : IsCon (fun b => (P b/\cv.ownBlock ≠ some b)/\b < V.heap.size) w4 z := by
   refine hz'.lt.keep (by omega) (fun b hb hlt => ?_)
   rw [hg.block b (by omega) (fun e => hb.1.2 e.symm)]
   exact (gAQ V o).block b hlt (by nofun)
  refine hk.mono (fun b hb _ => ⟨hb.1.1, fun e => ?_⟩)
  have e : gN = b := oJQ e
  rcases hat with e2 | e2
  ·exact hb.1.2 (by rw [e2, e])
  ·omega
theorem LsC.row {P : Nat->Prop} {V : World} {B : Nat} {cv : Value} {ds : List ConD} (h : LsC P V B cv ds) (hP : ∀ b, B<=b->P b) : RowP P V cv ds.length (cCQ ds)/\∀ y ∈ ds, IsCon P V y :=
 ⟨rowP_owns h.own hP, fun y hy => (h.els y hy).mono (fun b hb _ => hb.1)⟩
end Go.Proofs.YtkiffgdinmpljaaGreatDoor
