/- normal.Text at the example, the law's lam. Printed by gen_nt4.py, expanded by mac.py. -/
import Derived.Test.YtkiffgdinmpljaaGreatDoorF38
import Derived.Test.YtkiffgdinmpljaaGreatDoorF46
set_option linter.unusedVariables false
set_option linter.unusedSimpArgs false
namespace Go.Proofs.YtkiffgdinmpljaaGreatDoor
open Go Go.RowKit
set_option maxHeartbeats 8000000
set_option maxRecDepth 100000
theorem rHQ {P : Nat->Prop} {w : World} {b : Nat} {cs : Array Value} {t : TypeId} {z : Nat × Nat} (h : w.heap[b]? = some (.cells cs t z)) (hp : P b) (xs : List Value) (hx : cs.toList = xs) (n c : Nat) (hnc : n<=c) : RowP P w (.slice (some ⟨b, 0, none⟩) n c) n xs := by
 refine ⟨_, _, rfl, hnc, fun _ => ⟨b, 0, rfl, hp, hLQ h, fun j hj => ?_⟩⟩
 subst hx
 rw [Nat.zero_add, Lib.cell_of_heap h]
 rw [Array.length_toList] at hj
 simp [List.getD, hj]
def exL : List UInt8 := [40, 116, 101, 120, 116, 32, 45, 62, 32, 105, 110, 116, 41]
theorem exL_cells : ([] : List Value) ++ Lib.strCells txOpen ++ Lib.strCells txText ++ Lib.strCells txTo ++ Lib.strCells txInt ++ Lib.strCells txClose = Lib.byteCells exL := by rfl
theorem textEx_any (P : Nat->Prop) (x : ConD) (w : World) (hE : EnvN w) (h : IsCon P w x) (hx : pC x = exArrow) :
 Calls Tryz.prog 21 #[conV x] w fun e w' => e = .returned (.tuple #[.string ⟨exL.toArray⟩, .int .i64 0])/\Below w.heap.size w w' := by
 have hv := valid_any P x (w.alloc (.cells #[.int .i64 x.op, .int .i64 x.n, .string x.s, x.k.v, x.nv, x.lv] 28)) (hE.below ((Below.refl _ _).alloc (Nat.le_refl _) _)) (iBQ h ((Below.refl _ _).alloc (Nat.le_refl _) _)) (by rw [hx]; exact ex_bnd.2.2) (by rw [hx]; decide)
 rw [hx, ex_val.2.2.1] at hv
 obtain ⟨op, n, s, k, nv, ns, lv, l⟩ := x
 rw [pMQ] at hx
 obtain ⟨fd, gd, hl⟩ : ∃ fd gd, l = [fd, gd] := by
  have h1 : (l.map pC).length = 2 := by rw [show l.map pC = [leafN 5, leafN 4] from congrArg Cn.l hx]; rfl
  rw [List.length_map] at h1
  match l, h1 with
  | [fd, gd], _ => exact ⟨fd, gd, rfl⟩
 subst hl
 have hop : op = 6 := congrArg Cn.op hx
 have hns : ns = [] := congrArg Cn.ns hx
 have hfg : [pC fd, pC gd] = [leafN 5, leafN 4] := congrArg Cn.l hx
 have hf : pC fd = leafN 5 := by injection hfg
 have hg : pC gd = leafN 4 := by injection hfg with _ h2; injection h2
 have hfo : fd.op = 5 := by rw [← ConD.op_pure, hf]; rfl
 have hgo : gd.op = 4 := by rw [← ConD.op_pure, hg]; rfl
 subst hop
 clear hx hfg hf hg hns
 obtain ⟨ka, kc, kn, hks⟩ := iKQ h.parts.kind
 obtain ⟨na, nc, rfl, _⟩ := rSQ h.parts.names
 have hrow := h.parts.row
 obtain ⟨a, c, rfl, _⟩ := rSQ hrow
 have hfc := h.parts.all fd (by simp)
 have hgc := h.parts.all gd (by simp)
 obtain ⟨q, off, rfl, ⟨_, hql⟩, u0, u1, u2, u3, u4, u5⟩ := part_0 (x := fd) (l := [gd]) hrow
 obtain ⟨v0, v1, v2, v3, v4, v5⟩ := part_1 (x := fd) (y := gd) (l := []) hrow
 obtain ⟨fop, fn, fs, fk, fns, fl, fka, fkn, fkc, fna, fnc, fa, fcc, rfl, hfk, _⟩ := cSQ hfc
 obtain ⟨gop, gn, gs, gk, gns, gl, gka, gkn, gkc, gna, gnc, ga, gcc, rfl, hgk, _⟩ := cSQ hgc
 have hfo : fop = 5 := hfo
 have hgo : gop = 4 := hgo
 subst hfo
 subst hgo
 simp only [ConD.op, ConD.n, ConD.s, ConD.k, ConD.nv, ConD.lv, hfk] at u0 u1 u2 u3 u4 u5
 simp only [ConD.op, ConD.n, ConD.s, ConD.k, ConD.nv, ConD.lv, hgk] at v0 v1 v2 v3 v4 v5
 simp only [ConD.op, ConD.n, ConD.s, ConD.k, ConD.nv, ConD.lv, hks] at hv
 rw [cVQ hks] at hv ⊢
 have gC := nHQ w (.cells #[.int .i64 6, .int .i64 n, .string s, .slice ka kn kc, .slice na ns.length nc, .slice (some ⟨q, off, none⟩) 2 c] 28)
 have hb0 : Below w.heap.size w (w.alloc (.cells #[.int .i64 6, .int .i64 n, .string s, .slice ka kn kc, .slice na ns.length nc, .slice (some ⟨q, off, none⟩) 2 c] 28)) := (Below.refl _ _).alloc (Nat.le_refl _) _
 have HV := hJQ hv
 have HY : Hid (∀ W, Below w.heap.size w W->W.cell? ⟨q, off, none⟩ = some (.int .i64 5)/\W.cell? ⟨q, off + 1, none⟩ = some (.int .i64 fn)/\W.cell? ⟨q, off + 2, none⟩ = some (.string fs)/\W.cell? ⟨q, off + 3, none⟩ = some (.slice fka fkn fkc)/\W.cell? ⟨q, off + 4, none⟩ = some (.slice fna fns.length fnc)/\W.cell? ⟨q, off + 5, none⟩ = some (.slice fa fl.length fcc)/\W.cell? ⟨q, off + 6, none⟩ = some (.int .i64 4)/\W.cell? ⟨q, off + 6 + 1, none⟩ = some (.int .i64 gn)/\W.cell? ⟨q, off + 6 + 2, none⟩ = some (.string gs)/\W.cell? ⟨q, off + 6 + 3, none⟩ = some (.slice gka gkn gkc)/\W.cell? ⟨q, off + 6 + 4, none⟩ = some (.slice gna gns.length gnc)/\W.cell? ⟨q, off + 6 + 5, none⟩ = some (.slice ga gl.length gcc)) := fun W hW => by
  have hc : ∀ (o : Nat) (v : Value), w.cell? ⟨q, o, none⟩ = some v->W.cell? ⟨q, o, none⟩ = some v := fun o v hc => (World.cell?_of_block (a := ⟨q, o, none⟩) (hW.block q hql)).trans hc
  exact ⟨hc _ _ u0, hc _ _ u1, hc _ _ u2, hc _ _ u3, hc _ _ u4, hc _ _ u5, hc _ _ v0, hc _ _ v1, hc _ _ v2, hc _ _ v3, hc _ _ v4, hc _ _ v5⟩
 clear h hks hrow hfc hgc hfk hgk u0 u1 u2 u3 u4 u5 v0 v1 v2 v3 v4 v5 hv hE
 obtain ⟨c0, c1, c2, c3, c4, c5⟩ := cnQ gC
 go_enter Tryz.func21, Tryz.ntmps21
 go_wp2_with fail
 refine HV.out.mono ?_
 rintro e w2 ⟨rfl, hb2⟩
 have hbw2 := hb0.trans (hb2.mono hb0.size)
 have g2 := (hb2.block _ (hLQ gC)).trans gC
 have hga := gAQ w2 (.cells #[.pointer none, .slice none 0 0] 64)
 have hsz := hbw2.size
 have g3 := (hga.block _ (hLQ g2) (by nofun)).trans g2
 have hb3 := hbw2.trans (gUQ (B := w.heap.size) hga hsz (by nofun))
 have hWr : WrB w2.heap.size w2.heap.size [] (w2.alloc (.cells #[.pointer none, .slice none 0 0] 64)) := .inl ⟨Nat.le_refl _, .slice none 0 0, nHQ w2 (.cells #[.pointer none, .slice none 0 0] 64), ⟨rfl, .inl ⟨rfl, rfl⟩⟩, by nofun⟩
 obtain ⟨y0, y1, y2, y3, y4, y5, y6, y7, y8, y9, y10, y11⟩ := HY.out _ hb3
 have HC := conArrow_any w2.heap.size w2.heap.size q off n s ka na kn kc ns.length nc c fn gn fs gs fka fna fa gka gna ga fkn fkc fns.length fnc fl.length fcc gkn gkc gns.length gnc gl.length gcc (w2.alloc (.cells #[.pointer none, .slice none 0 0] 64)) hWr (by simp) (by omega) y0 y1 y2 y3 y4 y5 y6 y7 y8 y9 y10 y11
 rw [exL_cells] at HC
 have HC := hJQ HC
 clear c0 c1 c2 c3 c4 c5 HV HY hga g2 gC hWr y0 y1 y2 y3 y4 y5 y6 y7 y8 y9 y10 y11 hb0
 obtain ⟨c0, c1, c2, c3, c4, c5⟩ := cnQ g3
 go_wp2_with fail
 refine HC.out.mono ?_
 rintro e w4 ⟨rfl, hw4, hb4⟩
 have hbw4 := hb3.trans (hb4.mono hsz)
 have HL := hJQ (wr_Len _ _ _ _ hw4)
 have HS := hJQ (wr_String _ _ exL _ hw4 (by decide))
 have hlen : (Lib.byteCells exL).length = 13 := rfl
 rw [hlen] at HL
 clear HC c0 c1 c2 c3 c4 c5 hw4 hlen g3
 go_wp2_with fail
 refine HL.out.mono ?_
 rintro e w5 ⟨rfl, rfl⟩
 clear HL
 go_wp2_with fail
 refine HS.out.mono ?_
 rintro e w6 ⟨rfl, hb6⟩
 have hbw6 := hbw4.trans (hb6.mono hsz)
 clear HS
 go_wp2_with fail
 go_ret2
 exact ⟨rfl, hbw6⟩
theorem lam_any (x : ConD) (w : World) (h : IsCon (fun _ => True) w x) :
 Calls Tryz.prog 20 #[conV x] w fun e w' => ConOut (fun _ => True) (.mk 11 0 ⟨#[]⟩ (.mk []) [] [pC x]) e w'/\Below w.heap.size w w' := by
 obtain ⟨op, n, s, k, nv, ns, lv, l⟩ := x
 obtain ⟨ka, kc, kn, hks⟩ := iKQ h.parts.kind
 obtain ⟨na, nc, rfl, _⟩ := rSQ h.parts.names
 obtain ⟨a, c, rfl, _⟩ := rSQ h.parts.row
 rw [cVQ hks]
 have hll : l.length<=9223372036854775807 := by have h1 := h.parts.llen; have : maxLen = 9223372036854775807 := (by decide); omega
 have hnn : ns.length<=9223372036854775807 := by have h1 := h.parts.nlen; have : maxLen = 9223372036854775807 := (by decide); omega
 have hb0 : Below w.heap.size w (w.alloc (.cells #[.int .i64 op, .int .i64 n, .string s, .slice ka kn kc, .slice na ns.length nc, .slice a l.length c] 28)) := (Below.refl _ _).alloc (Nat.le_refl _) _
 have gC := nHQ w (.cells #[.int .i64 op, .int .i64 n, .string s, .slice ka kn kc, .slice na ns.length nc, .slice a l.length c] 28)
 have hsz0 : (w.alloc (.cells #[.int .i64 op, .int .i64 n, .string s, .slice ka kn kc, .slice na ns.length nc, .slice a l.length c] 28)).heap.size = w.heap.size + 1 := by simp
 obtain ⟨c0, c1, c2, c3, c4, c5⟩ := cnQ gC
 have HP := hJQ (iBQ h hb0).parts
 have HC0 := hJQ (iBQ h hb0)
 have hg1 := gAQ (w.alloc (.cells #[.int .i64 op, .int .i64 n, .string s, .slice ka kn kc, .slice na ns.length nc, .slice a l.length c] 28)) (.cells #[.int .i64 0, .int .i64 0, .string ⟨#[]⟩, .slice none 0 0, .slice none 0 0, .slice none 0 0] 28)
 have s1 : ((w.alloc (.cells #[.int .i64 op, .int .i64 n, .string s, .slice ka kn kc, .slice na ns.length nc, .slice a l.length c] 28)).alloc (.cells #[.int .i64 0, .int .i64 0, .string ⟨#[]⟩, .slice none 0 0, .slice none 0 0, .slice none 0 0] 28)).heap.size = w.heap.size + 2 := by simp
 have kR : ((w.alloc (.cells #[.int .i64 op, .int .i64 n, .string s, .slice ka kn kc, .slice na ns.length nc, .slice a l.length c] 28)).alloc (.cells #[.int .i64 0, .int .i64 0, .string ⟨#[]⟩, .slice none 0 0, .slice none 0 0, .slice none 0 0] 28)).heap[w.heap.size + 1]? = _ := (congrArg _ hsz0.symm).trans (nHQ (w.alloc (.cells #[.int .i64 op, .int .i64 n, .string s, .slice ka kn kc, .slice na ns.length nc, .slice a l.length c] 28)) (.cells #[.int .i64 0, .int .i64 0, .string ⟨#[]⟩, .slice none 0 0, .slice none 0 0, .slice none 0 0] 28))
 have kB := (hg1.block w.heap.size (by omega) (by nofun)).trans gC
 have hbW := gUQ (B := w.heap.size) (gBQ (gAQ w (.cells #[.int .i64 op, .int .i64 n, .string s, .slice ka kn kc, .slice na ns.length nc, .slice a l.length c] 28)) hg1) (Nat.le_refl _) (by nofun)
 have HX := hJQ h
 have henc : cEQ (.mk op n s k (.slice na ns.length nc) ns (.slice a l.length c) l) = [.int .i64 op, .int .i64 n, .string s, .slice ka kn kc, .slice na ns.length nc, .slice a l.length c] := by show [_, _, _, k.v, _, _] = _; rw [hks]; rfl
 clear c0 c1 c2 c3 c4 c5 hb0 gC HP HC0 hsz0 hg1 hks h
 go_enter Tryz.func20, Tryz.ntmps20
 go_upto_region 1 with fail
 generalize (w.alloc (.cells #[.int .i64 op, .int .i64 n, .string s, .slice ka kn kc, .slice na ns.length nc, .slice a l.length c] 28)).alloc (.cells #[.int .i64 0, .int .i64 0, .string ⟨#[]⟩, .slice none 0 0, .slice none 0 0, .slice none 0 0] 28) = W at *
 obtain ⟨c0, c1, c2, c3, c4, c5⟩ := cnQ kB
 have hga := gAQ W (.cells #[.int .i64 op, .int .i64 n, .string s, .slice ka kn kc, .slice na ns.length nc, .slice a l.length c] 28)
 have kS := nHQ W (.cells #[.int .i64 op, .int .i64 n, .string s, .slice ka kn kc, .slice na ns.length nc, .slice a l.length c] 28)
 have kR2 := (hga.block _ (hLQ kR) (by nofun)).trans kR
 rw [s1] at kS
 have hrow := gRQ (W.alloc (.cells #[.int .i64 op, .int .i64 n, .string s, .slice ka kn kc, .slice na ns.length nc, .slice a l.length c] 28)) (w.heap.size + 1) #[.int .i64 11, .int .i64 0, .string ⟨#[]⟩, .slice none 0 0, .slice none 0 0, .slice (some ⟨w.heap.size + 2, 0, none⟩) 1 1]
 have HRF := hJQ (setRow_heap (W.alloc (.cells #[.int .i64 op, .int .i64 n, .string s, .slice ka kn kc, .slice na ns.length nc, .slice a l.length c] 28)) (w.heap.size + 1) _ #[.int .i64 11, .int .i64 0, .string ⟨#[]⟩, .slice none 0 0, .slice none 0 0, .slice (some ⟨w.heap.size + 2, 0, none⟩) 1 1] _ _ kR2)
 have kS2 := (hrow.block (w.heap.size + 2) (hLQ kS) (fun e => by have e2 : w.heap.size + 2 = w.heap.size + 1 := oJQ e; omega)).trans kS
 have hbF := (hbW.trans (gUQ (B := w.heap.size) hga (by omega) (by nofun))).trans (gUQ (B := w.heap.size) hrow (by simp; omega) (fun q hq => by have e2 : w.heap.size + 1 = q := oJQ hq; omega))
 have HBF := hJQ hbF
 have HCF : Hid (IsCon (fun _ => True) ((W.alloc (.cells #[.int .i64 op, .int .i64 n, .string s, .slice ka kn kc, .slice na ns.length nc, .slice a l.length c] 28)).setRow (w.heap.size + 1) #[.int .i64 11, .int .i64 0, .string ⟨#[]⟩, .slice none 0 0, .slice none 0 0, .slice (some ⟨w.heap.size + 2, 0, none⟩) 1 1]) (.mk 11 0 ⟨#[]⟩ (.mk (.slice none 0 0) []) (.slice none 0 0) [] (.slice (some ⟨w.heap.size + 2, 0, none⟩) 1 1) [.mk op n s k (.slice na ns.length nc) ns (.slice a l.length c) l])) := by
  refine IsCon.mk (kind_nil _ _) (RowP.nil _ _) (Nat.zero_le maxLen) ?_ (by show 1<=maxLen; decide) (fun y hy => ?_)
  ·have : cCQ [ConD.mk op n s k (.slice na ns.length nc) ns (.slice a l.length c) l] = _ := one_enc _
   rw [this, henc]
   exact rHQ kS2 trivial _ rfl 1 1 (Nat.le_refl _)
  ·rw [List.mem_singleton.1 hy]; exact iBQ HX.out hbF
 clear hrow kS2 hbF hga
 go_wp2_with (refine wpList_store_row rfl 28 _ _ rfl (w.heap.size + 1) _ rfl rfl 28 _ kR2 cIQ rfl (all_one _ rfl) ?_)
 refine bodyPost_ret (results_cell_row rfl _ _ (w.heap.size + 1) 28 #[.int .i64 11, .int .i64 0, .string ⟨#[]⟩, .slice none 0 0, .slice none 0 0, .slice (some ⟨w.heap.size + 2, 0, none⟩) 1 1] (0, 0) _ rfl HRF.out Tryz.underlying28 rfl cIQ) rfl ?_
 exact ⟨⟨_, rfl, HCF.out, by rw [pMQ, pureK_mk]; rfl⟩, HBF.out⟩
end Go.Proofs.YtkiffgdinmpljaaGreatDoor
