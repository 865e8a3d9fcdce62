/- The reference's Grown, Subst over a list of one. Expanded by mac.py. -/
import Derived.Test.YtkiffgdinmpljaaGreatDoorF41
import Derived.Test.YtkiffgdinmpljaaGreatDoorF42
set_option linter.unusedVariables false
set_option linter.unusedSimpArgs false
namespace Go.Proofs.YtkiffgdinmpljaaGreatDoor
open Go Go.RowKit
set_option maxHeartbeats 8000000
set_option maxRecDepth 100000
theorem one_enc (g : ConD) : cCQ [g] = cEQ g := by simp [cCQ]
theorem rGrown_any (P : Nat->Prop) (x g : ConD) (ga : Option Addr) (gc : Nat) (w : World) (h : IsCon P w x) (hf : frmC (pC x) = true) (hsz : sizeC (pC x)<=20000) (hd : dCQ (pC x)<=20001) (hg : RowP P w (.slice ga 1 gc) 1 (cEQ g)) (hgc : IsCon P w g) (hgf : frmC (pC g) = true) (hgs : sizeC (pC g)<=20000) :
 Calls Tryz.prog 39 #[conV x, .slice ga 1 gc] w fun e w' => e = .returned (.int .i64 (sizeC (sC9 [pC g] 0 (pC x)) : Nat))/\Below w.heap.size w w' := by
 have hgr := grown_subst (pC g) hgf (pC x) 0 hf
 obtain ⟨i0, hi, hz0, hz1, hz2⟩ := info_parts info_i64
 obtain ⟨op, n, s, k, nv, ns, lv, l⟩ := x
 obtain ⟨ka, kc, kn, hks⟩ := iKQ h.parts.kind
 obtain ⟨na, nc, rfl, _⟩ := rSQ h.parts.names
 obtain ⟨a, c, rfl, _⟩ := rSQ h.parts.row
 rw [cVQ hks]
 have hll : l.length<=9223372036854775807 := by have h1 := h.parts.llen; have : maxLen = 9223372036854775807 := (by decide); omega
 have hnn : ns.length<=9223372036854775807 := by have h1 := h.parts.nlen; have : maxLen = 9223372036854775807 := (by decide); omega
 have hb0 : Below w.heap.size w (w.alloc (.cells #[.int .i64 op, .int .i64 n, .string s, .slice ka kn kc, .slice na ns.length nc, .slice a l.length c] 28)) := (Below.refl _ _).alloc (Nat.le_refl _) _
 have gC := nHQ w (.cells #[.int .i64 op, .int .i64 n, .string s, .slice ka kn kc, .slice na ns.length nc, .slice a l.length c] 28)
 have hsz0 : (w.alloc (.cells #[.int .i64 op, .int .i64 n, .string s, .slice ka kn kc, .slice na ns.length nc, .slice a l.length c] 28)).heap.size = w.heap.size + 1 := by simp
 obtain ⟨c0, c1, c2, c3, c4, c5⟩ := cnQ gC
 have HP := hJQ (iBQ h hb0).parts
 have HC0 := hJQ (iBQ h hb0)
 have hPW := cVQ (op := op) (n := n) (s := s) (nv := .slice na ns.length nc) (lv := .slice a l.length c) (ns := ns) (l := l) hks
 rw [← one_enc] at hg
 have hr1 := rowP_below (show RowP P w (.slice ga ([g].length) gc) ([g].length) (cCQ [g]) from hg) hb0
 obtain ⟨b, off, yop, yn, ys, yk, yns, yl, yka, ykn, ykc, yna, ync, ya, yc', fd, hbl, hq, hy, hmem, hv, HT, e0, e1, e2, e3, e4, e5⟩ := part_at hr1 (fun y hy => by rw [List.mem_singleton.1 hy]; exact iBQ hgc hb0) 0 (by simp)
 subst fd
 have hq : g = _ := hq
 subst hq
 have e0 : (w.alloc (.cells #[.int .i64 op, .int .i64 n, .string s, .slice ka kn kc, .slice na ns.length nc, .slice a l.length c] 28)).cell? ⟨b, off, none⟩ = some (.int .i64 yop) := by simpa using e0
 have e1 : (w.alloc (.cells #[.int .i64 op, .int .i64 n, .string s, .slice ka kn kc, .slice na ns.length nc, .slice a l.length c] 28)).cell? ⟨b, off + 1, none⟩ = some (.int .i64 yn) := by simpa using e1
 have e2 : (w.alloc (.cells #[.int .i64 op, .int .i64 n, .string s, .slice ka kn kc, .slice na ns.length nc, .slice a l.length c] 28)).cell? ⟨b, off + 2, none⟩ = some (.string ys) := by simpa using e2
 have e3 : (w.alloc (.cells #[.int .i64 op, .int .i64 n, .string s, .slice ka kn kc, .slice na ns.length nc, .slice a l.length c] 28)).cell? ⟨b, off + 3, none⟩ = some (.slice yka ykn ykc) := by simpa using e3
 have e4 : (w.alloc (.cells #[.int .i64 op, .int .i64 n, .string s, .slice ka kn kc, .slice na ns.length nc, .slice a l.length c] 28)).cell? ⟨b, off + 4, none⟩ = some (.slice yna yns.length ync) := by simpa using e4
 have e5 : (w.alloc (.cells #[.int .i64 op, .int .i64 n, .string s, .slice ka kn kc, .slice na ns.length nc, .slice a l.length c] 28)).cell? ⟨b, off + 5, none⟩ = some (.slice ya yl.length yc') := by simpa using e5
 have HSz := hJQ (rsize_any P _ (w.alloc (.cells #[.int .i64 op, .int .i64 n, .string s, .slice ka kn kc, .slice na ns.length nc, .slice a l.length c] 28)) hy (by omega))
 rw [hv] at HSz
 have HGr : Hid (∀ W sb soff sc, Below w.heap.size w W->sb < W.heap.size->W.cell? ⟨sb, soff, none⟩ = some (.int .i64 (sizeC (pC (.mk yop yn ys yk (.slice yna yns.length ync) yns (.slice ya yl.length yc') yl))))->Calls Tryz.prog 73 #[(.agg #[.int .i64 op, .int .i64 n, .string s, .slice ka kn kc, .slice na ns.length nc, .slice a l.length c]), .slice (some ⟨sb, soff, none⟩) 1 sc, .int .i64 0] W fun e w' => e = .returned (.int .i64 (sizeC (sC9 [pC (.mk yop yn ys yk (.slice yna yns.length ync) yns (.slice ya yl.length yc') yl)] 0 (pC (.mk op n s k (.slice na ns.length nc) ns (.slice a l.length c) l))) : Nat))/\Below W.heap.size W w') := fun W sb soff sc hW hsb hsc => by
  have := rgrown_any _ P W sb soff sc _ 0 (iBQ h hW) hf hsz hgs hsb hsc (by omega)
  rw [hPW, hgr] at this
  exact this
 clear h hks hPW HP HC0 hg hgc hgf hr1 hy hv hmem HT hgr hf hsz hd
 have hgs := hJQ hgs
 generalize sizeC (sC9 [pC (.mk yop yn ys yk (.slice yna yns.length ync) yns (.slice ya yl.length yc') yl)] 0 (pC (.mk op n s k (.slice na ns.length nc) ns (.slice a l.length c) l))) = res at *
 generalize sizeC (pC (.mk yop yn ys yk (.slice yna yns.length ync) yns (.slice ya yl.length yc') yl)) = szy at *
 go_enter Tryz.func39, Tryz.ntmps39
 go_wp2_with fail
 have hbW := hb0
 have HSW := hJQ hsz0
 generalize w.alloc (.cells #[.int .i64 op, .int .i64 n, .string s, .slice ka kn kc, .slice na ns.length nc, .slice a l.length c] 28) = W at *
 go_loopw [5, 6] (fun v i wr => (i = .int .i64 0/\v = .slice none 0 0/\wr = W) ∨ (i = .int .i64 1/\∃ sb soff sc, v = .slice (some ⟨sb, soff, none⟩) 1 sc/\Hid (Below w.heap.size w wr)/\Hid (sb < wr.heap.size/\wr.cell? ⟨sb, soff, none⟩ = some (.int .i64 szy))/\Hid (wr.heap[w.heap.size]? = some (.cells #[.int .i64 op, .int .i64 n, .string s, .slice ka kn kc, .slice na ns.length nc, .slice a l.length c] 28 (0, 0))))) (fun _ i _ => 1 - (intOf i).toNat)
 case atStart => exact .inl ⟨rfl, rfl, rfl⟩
 case round =>
  rcases hrel with ⟨rfl, rfl, rfl⟩ | ⟨rfl, sb, soff, sc, rfl, HB, HS, HK⟩
  ·rename World => V
   go_wp2_with fail
   refine HSz.out.mono ?_
   rintro e w2 ⟨rfl, hb2⟩
   have hbw2 := hbW.trans (hb2.mono hbW.size)
   have hsw2 := hbw2.size
   have how : w2.ownsRow w.heap.size 3 1 (.slice none 0 0) 0 (intv []) := ⟨rfl, .inl ⟨rfl, rfl⟩⟩
   have HOw := hJQ how
   have k2 := (hb2.block _ (hLQ gC)).trans gC
   have HK2 := hJQ k2
   clear HSz e0 e1 e2 e3 e4 e5 c0 c1 c2 c3 c4 c5 how k2
   go_wp2_with (at_builtin; refine wpList_append_own _ rfl _ _ 89 rfl w.heap.size 3 i0 (.int .i64 0) 1 8 Tryz.underlying89 hi hz0 hz1 hz2 rfl (by decide) _ 0 (intv []) rfl (HOw.out.alloc _) ⟨w2.heap.size, 0, none⟩ 1 1 [.int .i64 szy] rfl rfl (World.news_of_block (cs := #[.int .i64 szy]) (nHQ w2 _)) (by intro u hu; simp at hu; subst hu; rfl) (by unfold maxLen; omega) (by omega) (by simp; omega) ?_)
   intro v3 w3 hown3 hgrow3 _
   have hb3 : Below w.heap.size w w3 := (hbw2.alloc hbw2.size _).trans (gUQ hgrow3 (by simp; omega) (fun q hq => (HOw.out.lt q hq).1))
   have hiv : IntsAt w3 v3 [(szy : Int)] := rowP_owns hown3 (fun _ _ => trivial)
   obtain ⟨sb, soff, sc, rfl, hsb, hsc⟩ := ints_at hiv 0 (by simp)
   have k3 := (hgrow3.block w.heap.size (by simp; omega) (by rw [show (Value.slice none 0 0).ownBlock = none from rfl]; nofun)).trans (((gAQ w2 (.cells #[.int .i64 szy] 3)).block w.heap.size (by have := HSW.out; have := hb2.size; omega) (by nofun)).trans HK2.out)
   have HB3 := hJQ hb3
   have HS3 : Hid (sb < w3.heap.size/\w3.cell? ⟨sb, soff, none⟩ = some (.int .i64 szy)) := ⟨hsb, by simpa using hsc⟩
   have HK3 := hJQ k3
   clear hown3 hgrow3 hiv hsb hsc k3 HOw HK2
   go_wp2_with fail
   go_roundw
   case rel => exact .inr ⟨rfl, sb, soff, sc, rfl, HB3, HS3, HK3⟩
   case measure => simp [intOf]
  ·rename World => V
   have HG := hJQ (HGr.out V sb soff sc HB.out HS.out.1 HS.out.2)
   have hbV := HB.out
   obtain ⟨d0, d1, d2, d3, d4, d5⟩ := cnQ HK.out
   clear HGr HSz e0 e1 e2 e3 e4 e5 c0 c1 c2 c3 c4 c5 HS HK
   go_wp2_with fail
   refine HG.out.mono ?_
   rintro e w3 ⟨rfl, hb3⟩
   have hbz := hbV.trans (hb3.mono hbV.size)
   clear HG
   go_wp2_with fail
   go_ret
   exact ⟨rfl, hbz⟩
theorem rSubst_any (P : Nat->Prop) (x g : ConD) (ga : Option Addr) (gc : Nat) (w : World) (hP : ∀ b, w.heap.size<=b->P b) (h : IsCon P w x) (hf : frmC (pC x) = true) (hsz : sizeC (pC x)<=1000000) (hd : dCQ (pC x)<=20001) (hg : RowP P w (.slice ga 1 gc) 1 (cEQ g)) (hgc : IsCon P w g) (hgf : frmC (pC g) = true) (hgs : sizeC (pC g)<=1000000) (hgd : dCQ (pC g)<=10000) :
 Calls Tryz.prog 40 #[conV x, .slice ga 1 gc] w fun e w' => ConOut P (sC9 [pC g] 0 (pC x)) e w'/\Below w.heap.size w w' := by
 obtain ⟨op, n, s, k, nv, ns, lv, l⟩ := x
 obtain ⟨ka, kc, kn, hks⟩ := iKQ h.parts.kind
 obtain ⟨na, nc, rfl, _⟩ := rSQ h.parts.names
 obtain ⟨a, c, rfl, _⟩ := rSQ h.parts.row
 rw [cVQ hks]
 have hll : l.length<=9223372036854775807 := by have h1 := h.parts.llen; have : maxLen = 9223372036854775807 := (by decide); omega
 have hnn : ns.length<=9223372036854775807 := by have h1 := h.parts.nlen; have : maxLen = 9223372036854775807 := (by decide); omega
 have hb0 : Below w.heap.size w (w.alloc (.cells #[.int .i64 op, .int .i64 n, .string s, .slice ka kn kc, .slice na ns.length nc, .slice a l.length c] 28)) := (Below.refl _ _).alloc (Nat.le_refl _) _
 have gC := nHQ w (.cells #[.int .i64 op, .int .i64 n, .string s, .slice ka kn kc, .slice na ns.length nc, .slice a l.length c] 28)
 have hsz0 : (w.alloc (.cells #[.int .i64 op, .int .i64 n, .string s, .slice ka kn kc, .slice na ns.length nc, .slice a l.length c] 28)).heap.size = w.heap.size + 1 := by simp
 obtain ⟨c0, c1, c2, c3, c4, c5⟩ := cnQ gC
 have HP := hJQ (iBQ h hb0).parts
 have HC0 := hJQ (iBQ h hb0)
 have hPW := cVQ (op := op) (n := n) (s := s) (nv := .slice na ns.length nc) (lv := .slice a l.length c) (ns := ns) (l := l) hks
 have hg1 := gAQ (w.alloc (.cells #[.int .i64 op, .int .i64 n, .string s, .slice ka kn kc, .slice na ns.length nc, .slice a l.length c] 28)) (.cells #[.int .i64 0, .int .i64 0, .string ⟨#[]⟩, .slice none 0 0, .slice none 0 0, .slice none 0 0] 28)
 have kR : ((w.alloc (.cells #[.int .i64 op, .int .i64 n, .string s, .slice ka kn kc, .slice na ns.length nc, .slice a l.length c] 28)).alloc (.cells #[.int .i64 0, .int .i64 0, .string ⟨#[]⟩, .slice none 0 0, .slice none 0 0, .slice none 0 0] 28)).heap[w.heap.size + 1]? = _ := (congrArg _ hsz0.symm).trans (nHQ (w.alloc (.cells #[.int .i64 op, .int .i64 n, .string s, .slice ka kn kc, .slice na ns.length nc, .slice a l.length c] 28)) (.cells #[.int .i64 0, .int .i64 0, .string ⟨#[]⟩, .slice none 0 0, .slice none 0 0, .slice none 0 0] 28))
 have kB := (hg1.block w.heap.size (by omega) (by nofun)).trans gC
 have hbW := gUQ (B := w.heap.size) (gBQ (gAQ w (.cells #[.int .i64 op, .int .i64 n, .string s, .slice ka kn kc, .slice na ns.length nc, .slice a l.length c] 28)) hg1) (Nat.le_refl _) (by nofun)
 have hszW : ((w.alloc (.cells #[.int .i64 op, .int .i64 n, .string s, .slice ka kn kc, .slice na ns.length nc, .slice a l.length c] 28)).alloc (.cells #[.int .i64 0, .int .i64 0, .string ⟨#[]⟩, .slice none 0 0, .slice none 0 0, .slice none 0 0] 28)).heap.size = w.heap.size + 2 := by simp
 have HC : Hid (Calls Tryz.prog 74 #[(.agg #[.int .i64 op, .int .i64 n, .string s, .slice ka kn kc, .slice na ns.length nc, .slice a l.length c]), .slice ga 1 gc, .int .i64 0] ((w.alloc (.cells #[.int .i64 op, .int .i64 n, .string s, .slice ka kn kc, .slice na ns.length nc, .slice a l.length c] 28)).alloc (.cells #[.int .i64 0, .int .i64 0, .string ⟨#[]⟩, .slice none 0 0, .slice none 0 0, .slice none 0 0] 28)) fun e w' => ConOut (fun b => P b/\b ≠ w.heap.size + 1) (sC9 [pC g] 0 (pC (.mk op n s k (.slice na ns.length nc) ns (.slice a l.length c) l))) e w'/\Below ((w.alloc (.cells #[.int .i64 op, .int .i64 n, .string s, .slice ka kn kc, .slice na ns.length nc, .slice a l.length c] 28)).alloc (.cells #[.int .i64 0, .int .i64 0, .string ⟨#[]⟩, .slice none 0 0, .slice none 0 0, .slice none 0 0] 28)).heap.size ((w.alloc (.cells #[.int .i64 op, .int .i64 n, .string s, .slice ka kn kc, .slice na ns.length nc, .slice a l.length c] 28)).alloc (.cells #[.int .i64 0, .int .i64 0, .string ⟨#[]⟩, .slice none 0 0, .slice none 0 0, .slice none 0 0] 28)) w') := by
  have hlt9 : ∀ b, (P b/\b < w.heap.size)->b < w.heap.size->P b/\b ≠ w.heap.size + 1 := fun b hb _ => ⟨hb.1, by omega⟩
  have := rsubst_any _ (fun b => P b/\b ≠ w.heap.size + 1) ((w.alloc (.cells #[.int .i64 op, .int .i64 n, .string s, .slice ka kn kc, .slice na ns.length nc, .slice a l.length c] 28)).alloc (.cells #[.int .i64 0, .int .i64 0, .string ⟨#[]⟩, .slice none 0 0, .slice none 0 0, .slice none 0 0] 28)) ga gc g (pC g) 0 (fun b hb => ⟨hP b (by omega), by omega⟩) ((h.lt.keep hbW.size (fun b _ hlt => hbW.block b hlt)).mono (fun b hb _ => ⟨hb.1, by have := hb.2; omega⟩)) hf hsz (((hg.mono (Q := fun b => P b/\b < w.heap.size) (fun b hp hlt => ⟨hp, hlt⟩)).keep hbW.size (fun b _ hlt => hbW.block b hlt)).mono (fun b hb _ => ⟨hb.1, by have := hb.2; omega⟩)) ((hgc.lt.keep hbW.size (fun b _ hlt => hbW.block b hlt)).mono (fun b hb _ => ⟨hb.1, by have := hb.2; omega⟩)) rfl hgf hgs hgd (by omega)
  rw [hPW] at this
  exact this
 clear c0 c1 c2 c3 c4 c5 h hb0 gC HP HC0 hsz0 hg1 hks hPW hg hgc hgf hgs hgd hf hsz hd hP
 generalize sC9 [pC g] 0 (pC (.mk op n s k (.slice na ns.length nc) ns (.slice a l.length c) l)) = T at *
 go_enter Tryz.func40, Tryz.ntmps40
 go_upto_region 1 with fail
 generalize (w.alloc (.cells #[.int .i64 op, .int .i64 n, .string s, .slice ka kn kc, .slice na ns.length nc, .slice a l.length c] 28)).alloc (.cells #[.int .i64 0, .int .i64 0, .string ⟨#[]⟩, .slice none 0 0, .slice none 0 0, .slice none 0 0] 28) = W at *
 obtain ⟨c0, c1, c2, c3, c4, c5⟩ := cnQ kB
 go_wp2_with fail
 refine (HC.out).mono ?_
 rintro e w2 ⟨ho, hb2⟩
 obtain ⟨dd, xo, xn, xs, xka, xkn, xkc, xna, xnm, xnc, xla, xlm, xlc, rfl, hdd, hpd, hdv⟩ := ho.open'
 have gR2 := (hb2.block _ (hLQ kR)).trans kR
 have hltR := hLQ kR
 have hrow := gRQ w2 (w.heap.size + 1) #[.int .i64 xo, .int .i64 xn, .string xs, .slice xka xkn xkc, .slice xna xnm xnc, .slice xla xlm xlc]
 have HR3 := hJQ (setRow_heap w2 (w.heap.size + 1) _ #[.int .i64 xo, .int .i64 xn, .string xs, .slice xka xkn xkc, .slice xna xnm xnc, .slice xla xlm xlc] _ _ gR2)
 have HB := hJQ ((hbW.trans (hb2.mono hbW.size)).trans (gUQ (B := w.heap.size) hrow (by have := hbW.size; have := hb2.size; omega) (fun q hq => by have e2 : (w.heap.size + 1) = q := oJQ hq; omega)))
 have HD := hJQ ((hdd.grown hrow (fun q hq hp => by have e2 : (w.heap.size + 1) = q := oJQ hq; exact hp.2 e2.symm)).mono (Q := P) (fun b hb _ => hb.1))
 clear hrow hdd ho hb2
 go_wp2_with (refine wpList_store_row rfl 28 _ _ rfl (w.heap.size + 1) _ rfl rfl 28 _ gR2 cIQ rfl (all_one _ rfl) ?_)
 refine bodyPost_ret (results_cell_row rfl _ _ (w.heap.size + 1) 28 #[.int .i64 xo, .int .i64 xn, .string xs, .slice xka xkn xkc, .slice xna xnm xnc, .slice xla xlm xlc] (0, 0) _ rfl HR3.out Tryz.underlying28 rfl cIQ) rfl ?_
 exact ⟨⟨dd, by rw [hdv], HD.out, hpd⟩, HB.out⟩
end Go.Proofs.YtkiffgdinmpljaaGreatDoor
