/- (*counter).normalize. Printed by gen_norm.py, expanded by mac.py. -/
import Derived.Test.YtkiffgdinmpljaaGreatDoorF31
import Derived.Test.YtkiffgdinmpljaaGreatDoorF27
set_option linter.unusedVariables false
set_option linter.unusedSimpArgs false
namespace Go.Proofs.YtkiffgdinmpljaaGreatDoor
open Go Go.RowKit
set_option maxHeartbeats 8000000
set_option maxRecDepth 100000
def NOk (P : Nat->Prop) (kb : Nat) (res : Option (Cn × Nat)) (w : World) (e : Ending) (w' : World) : Prop :=
 ∃ (d : ConD) (ov : Bool) (st : Int), e = .returned (conV d)/\CtAt w' kb st ov/\w.grownBy w' (some kb)/\IsCon P w' d/\sizeC (pC d)<=20000/\(res = none->ov = true)/\(∀ y m, res = some (y, m)->ov = false/\pC d = y/\st = 10000 - (m : Int))
theorem zero_size : sizeC (pC zeroD)<=20000 := by unfold zeroD; rw [pMQ, sMQ, List.map_nil, sizeCL_nil]; decide
theorem norm_over (P Q : Nat->Prop) (x : ConD) (kb : Nat) (st : Int) (w : World) (h : IsCon P w x) (hC : CtAt w kb st true) :
 Calls Tryz.prog 54 #[.pointer (some ⟨kb, 0, none⟩), conV x] w fun e w' => e = .returned (conV zeroD)/\CtAt w' kb st true/\w.grownBy w' (some kb) := by
 obtain ⟨op, n, s, k, nv, ns, lv, l⟩ := x
 obtain ⟨ka, kc, kn, hks⟩ := iKQ h.parts.kind
 obtain ⟨na, nc, rfl, _⟩ := rSQ h.parts.names
 obtain ⟨a, c, rfl, _⟩ := rSQ h.parts.row
 rw [cVQ hks]
 have hll : l.length<=9223372036854775807 := by have h1 := h.parts.llen; have : maxLen = 9223372036854775807 := (by decide); omega
 have hnn : ns.length<=9223372036854775807 := by have h1 := h.parts.nlen; have : maxLen = 9223372036854775807 := (by decide); omega
 have hb0 : Below w.heap.size w (w.alloc (.cells #[.int .i64 op, .int .i64 n, .string s, .slice ka kn kc, .slice na ns.length nc, .slice a l.length c] 28)) := (Below.refl _ _).alloc (Nat.le_refl _) _
 have gC := nHQ w (.cells #[.int .i64 op, .int .i64 n, .string s, .slice ka kn kc, .slice na ns.length nc, .slice a l.length c] 28)
 have hsz0 : (w.alloc (.cells #[.int .i64 op, .int .i64 n, .string s, .slice ka kn kc, .slice na ns.length nc, .slice a l.length c] 28)).heap.size = w.heap.size + 1 := by simp
 obtain ⟨c0, c1, c2, c3, c4, c5⟩ := cnQ gC
 have HP := hJQ (iBQ h hb0).parts
 have HC0 := hJQ (iBQ h hb0)
 have hg1 := gAQ (w.alloc (.cells #[.int .i64 op, .int .i64 n, .string s, .slice ka kn kc, .slice na ns.length nc, .slice a l.length c] 28)) (.cells #[.int .i64 0, .int .i64 0, .string ⟨#[]⟩, .slice none 0 0, .slice none 0 0, .slice none 0 0] 28)
 have kR : ((w.alloc (.cells #[.int .i64 op, .int .i64 n, .string s, .slice ka kn kc, .slice na ns.length nc, .slice a l.length c] 28)).alloc (.cells #[.int .i64 0, .int .i64 0, .string ⟨#[]⟩, .slice none 0 0, .slice none 0 0, .slice none 0 0] 28)).heap[w.heap.size + 1]? = _ := (congrArg _ hsz0.symm).trans (nHQ (w.alloc (.cells #[.int .i64 op, .int .i64 n, .string s, .slice ka kn kc, .slice na ns.length nc, .slice a l.length c] 28)) (.cells #[.int .i64 0, .int .i64 0, .string ⟨#[]⟩, .slice none 0 0, .slice none 0 0, .slice none 0 0] 28))
 have kB := (hg1.block w.heap.size (by omega) (by nofun)).trans gC
 have hgW := gBQ (gAQ w (.cells #[.int .i64 op, .int .i64 n, .string s, .slice ka kn kc, .slice na ns.length nc, .slice a l.length c] 28)) hg1
 have kC := hC.grown hgW (by nofun)
 have hlk := hLQ hC
 have hszW : ((w.alloc (.cells #[.int .i64 op, .int .i64 n, .string s, .slice ka kn kc, .slice na ns.length nc, .slice a l.length c] 28)).alloc (.cells #[.int .i64 0, .int .i64 0, .string ⟨#[]⟩, .slice none 0 0, .slice none 0 0, .slice none 0 0] 28)).heap.size = w.heap.size + 2 := by simp
 have HZ : Hid (conV zeroD = .agg #[.int .i64 0, .int .i64 0, .string ⟨#[]⟩, .slice none 0 0, .slice none 0 0, .slice none 0 0]) := rfl
 have HGW := hJQ (fNQ hgW (some kb))
 clear c0 c1 c2 c3 c4 c5 h hb0 gC HP HC0 hsz0 hg1 hC hks hgW kB
 go_enter Tryz.func54, Tryz.ntmps54
 go_upto_region 1 with fail
 generalize (w.alloc (.cells #[.int .i64 op, .int .i64 n, .string s, .slice ka kn kc, .slice na ns.length nc, .slice a l.length c] 28)).alloc (.cells #[.int .i64 0, .int .i64 0, .string ⟨#[]⟩, .slice none 0 0, .slice none 0 0, .slice none 0 0] 28) = W at *
 obtain ⟨k0, k1, f0, f1⟩ := kC.cells
 have hrw := gRQ W (w.heap.size + 1) #[.int .i64 0, .int .i64 0, .string ⟨#[]⟩, .slice none 0 0, .slice none 0 0, .slice none 0 0]
 have HRF := hJQ (setRow_heap W (w.heap.size + 1) _ #[.int .i64 0, .int .i64 0, .string ⟨#[]⟩, .slice none 0 0, .slice none 0 0, .slice none 0 0] _ _ kR)
 have HGF := hJQ (gOQ HGW.out hrw (by omega))
 have HCF := hJQ ((kC).grown hrw (by intro e; have e2 : (w.heap.size + 1) = kb := oJQ e; omega))
 clear hrw
 go_wp2_with (refine wpList_store_row rfl 28 _ _ rfl (w.heap.size + 1) _ rfl rfl 28 _ kR cIQ rfl (all_one _ rfl) ?_)
 refine bodyPost_ret (results_cell_row rfl _ _ (w.heap.size + 1) 28 #[.int .i64 0, .int .i64 0, .string ⟨#[]⟩, .slice none 0 0, .slice none 0 0, .slice none 0 0] (0, 0) _ rfl HRF.out Tryz.underlying28 rfl cIQ) rfl ?_
 exact ⟨by rw [HZ.out], HCF.out, HGF.out⟩
def NormAll2 (kb F : Nat) (x : ConD) : Prop := ∀ (P : Nat->Prop) (w : World) (left : Nat), EnvK w kb->IsCon P w x->¬ P kb->(∀ b, w.heap.size<=b->P b)->frmC (pC x) = true->bndC (pC x)->CtAt w kb (10000 - (left : Int)) false->left<=10000->left * 401 + dCQ (pC x)<=F->dCQ (pC x)<=400->sizeC (pC x)<=20000 →
 Calls Tryz.prog 54 #[.pointer (some ⟨kb, 0, none⟩), conV x] w (NOk P kb (nrmN F (pC x) left) w)
end Go.Proofs.YtkiffgdinmpljaaGreatDoor
