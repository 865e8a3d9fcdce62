/- Part of the proof; its texts: Ey3. -/
import Derived.Test.YtbcfdebdikgijaaGreatDoorS20
set_option maxRecDepth 100000
set_option linter.unusedVariables false
set_option linter.unusedSimpArgs false
set_option maxHeartbeats 8000000
namespace Go.Proofs.YtbcfdebdikgijaaGreatDoor
open Go Go.RowKit
def qg (x : Z0) : Bool := x.op == 1 || x.op == 2
theorem Av (l : List Z0) : (l.map ZW).all Km = l.all qg := by
 rw [List.all_map]
 congr 1
 funext x
 simp [Km, qg, YF]
theorem cell_kept {w w' : World} {a : Addr} {v : Value} {r : Option Nat} (h : w.cell? a = some v) (g : w.grownBy w' r) (hr : r ≠ some a.block) : w'.cell? a = some v := by
 have h2 := World.block_lt_of_cell? w _ h
 unfold World.cell? at h ⊢
 rw [g.block _ h2 (fun e => hr e.symm)]
 exact h
theorem Oo {a b c : World} {r : Option Nat} (h : a.grownBy b none) (g : b.grownBy c r) (hk : ∀ k, r = some k -> a.heap.size <= k) : a.grownBy c none :=
 ⟨g.os.trans h.os, g.tape.trans h.tape, g.output.trans h.output, Nat.le_trans h.size g.size, fun q hq _ => (g.block q (Nat.lt_of_lt_of_le hq h.size) (fun e => by have := hk q e.symm; omega)).trans (h.block q hq (by nofun))⟩
theorem EX {V : World} {B : Nat} {e : TypeId} {s n : Nat} {v : Value} {xs : List Value} (h : V.ownsRow B e s v n xs) : ∃ a c, v = .slice a n c := by
 obtain ⟨_, ⟨rfl, rfl⟩ | ⟨g, cap, cur, rfl, _⟩⟩ := h
 ·exact ⟨none, 0, rfl⟩
 ·exact ⟨_, _, rfl⟩
theorem Cm : (Tryz.prog.info? 9).map (fun i => (i.zero, i.size, i.bytes)) = some (some (.string ⟨#[]⟩), 1, 16) := by kernel_rfl
theorem Au {V : World} {B : Nat} {e : TypeId} {s n c : Nat} {a : Option Addr} {xs : List Value} (h : V.ownsRow B e s (.slice a n c) n xs) (hn : 1 <= n) : ∃ g, a = some ⟨g, 0, none⟩ /\ n <= c /\ V.rangeAt g 0 xs /\ B <= g /\ g < V.heap.size := by
 have h' := h
 obtain ⟨_, ⟨hv, hz⟩ | ⟨g, cap, cur, hv, hb, hh, h1, _⟩⟩ := h
 ·omega
 ·obtain ⟨rfl, _, rfl⟩ := Value.slice.inj hv
  refine ⟨g, rfl, h1, fun j u hu => ?_, hb, Z6 hh⟩; have := h'.cells rfl j u hu; rw [Addr.add_mid] at this; exact this
theorem UJ (w : World) (g : Nat) (cs : Array Value) : w.grownBy (w.setRow g cs) (some g) :=
 ⟨rfl, rfl, rfl, by rw [setRow_size]; exact Nat.le_refl _, fun q _ hne => WM w g q cs (fun e => hne (by rw [e]))⟩
theorem JH {sb : Nat} {fv tv : Value} {main fuel : Int} {st : Xc} {oa : Option Addr} {oc g' cap : Nat} {xs : ByteArray} {V wa w' : World}
 (hblk : w'.heap[sb]? = some (.cells (Im fv tv main fuel st (.slice oa st.out.length oc)) 91 (0, 0))) (hown : w'.ownsRow (sb + 1) 9 1 (.slice (some ⟨g', 0, none⟩) (st.out.length + 1) cap) (st.out.length + 1) (strCells st.out ++ [.string xs]))
 (hgrow : wa.grownBy w' (Value.slice oa st.out.length oc).ownBlock) (gA : (V.alloc (.cells Zf 94)).grownBy wa none) {H : Nat} (hat : (Value.slice oa st.out.length oc).ownBlock = some g' \/ g' = H) (hH : wa.heap.size <= H)
 (_hov : ∀ k, (Value.slice oa st.out.length oc).ownBlock = some k -> k < V.heap.size) (hsb : sb < V.heap.size) (hn : (w'.setCell ⟨sb, 5, none⟩ (.slice (some ⟨g', 0, none⟩) (st.out.length + 1) cap)).heap[V.heap.size]? = some (.cells Zf 94 (0, 0))) :
 MF ((w'.setCell ⟨sb, 5, none⟩ (.slice (some ⟨g', 0, none⟩) (st.out.length + 1) cap)).setRow V.heap.size Uk) sb fv tv main fuel { st with out := st.out ++ [xs] } (.slice (some ⟨g', 0, none⟩) (st.out.length + 1) cap) /\
 Em sb V ((w'.setCell ⟨sb, 5, none⟩ (.slice (some ⟨g', 0, none⟩) (st.out.length + 1) cap)).setRow V.heap.size Uk) (Value.slice oa st.out.length oc).ownBlock (Value.slice (some ⟨g', 0, none⟩) (st.out.length + 1) cap).ownBlock := by
 have gs := Zv w' sb 5 (.slice (some ⟨g', 0, none⟩) (st.out.length + 1) cap)
 have b1 := ZL (i := 5) hblk (.slice (some ⟨g', 0, none⟩) (st.out.length + 1) cap)
 have hown2 := Zx hown gs (fun k hk e => by have := (Zw hown _ e).1; cases hk; omega)
 have hgV : g' ≠ V.heap.size := fun e => by
  obtain ⟨cu, MW⟩ := XP hown2 g' rfl; have h9 := hn; rw [<- e, MW] at h9; exact absurd (Obj.cells.inj (Option.some.inj h9)).2.1 (by decide)
 have gr := UJ (w'.setCell ⟨sb, 5, none⟩ (.slice (some ⟨g', 0, none⟩) (st.out.length + 1) cap)) V.heap.size Uk
 have hown3 := Zx hown2 gr (fun k hk e => by have h1 := Option.some.inj hk; have h2 := Option.some.inj e; exact hgV (h2.trans h1.symm))
 refine ⟨⟨(WM _ _ _ _ (by omega)).trans b1, ?_⟩, ?_⟩
 ·rw [VN, List.length_append]
  exact hown3
 ·have h1 : Em sb V wa (Value.slice oa st.out.length oc).ownBlock (Value.slice oa st.out.length oc).ownBlock := Em.free (both (Z8 V _) gA)
  have h2 : Em sb wa w' (Value.slice oa st.out.length oc).ownBlock (some g') := Em.grown hgrow (by
   rcases hat with e | e
   ·exact .inl e.symm
   ·exact .inr ⟨g', rfl, by omega⟩)
  have h3 := (h1.trans h2).trans (Em.set w' 5 (.slice (some ⟨g', 0, none⟩) (st.out.length + 1) cap) (some g')); refine ⟨h3.os, h3.tape, h3.output, by rw [setRow_size]; exact h3.size, fun k hk h4 h5 => ?_, h3.own⟩; rw [WM _ _ _ _ (by omega)]; exact h3.kept k hk h4 h5
theorem Uj (x c : Int) (h : WV x = .fail c) : c ≠ 0 := by
 unfold WV at h
 by_cases h1 : 4503599627370496 < x
 ·rw [ZY h1] at h; cases h; decide
 ·rw [Z7 h1] at h
  by_cases h2 : x < -4503599627370496
  ·rw [ZY h2] at h; cases h; decide
  ·rw [Z7 h2] at h; cases h
theorem K6 (x : ByteArray) (c : Int) (h : VA x = .fail c) : c ≠ 0 := by
 unfold VA at h
 by_cases h1 : 16384 < x.size
 ·rw [ZY h1] at h; cases h; decide
 ·rw [Z7 h1] at h; cases h
theorem K5 (n na nb : Int) (sa sB sh : ByteArray) (c : Int) (h : Yo n na nb sa sB sh = .fail c) : c ≠ 0 := by
 unfold Yo at h
 by_cases h1 : n = 1
 ·rw [ZY h1] at h; exact Uj _ c h
 rw [Z7 h1] at h
 by_cases h2 : n = 2
 ·rw [ZY h2] at h; exact Uj _ c h
 rw [Z7 h2] at h
 by_cases h3 : n = 3
 ·rw [ZY h3] at h; exact Uj _ c h
 rw [Z7 h3] at h
 by_cases h4 : n = 4
 ·rw [ZY h4] at h
  by_cases hz : nb = 0
  ·rw [ZY hz] at h; cases h; decide
  ·rw [Z7 hz] at h; exact Uj _ c h
 rw [Z7 h4] at h
 by_cases h5 : n = 5
 ·rw [ZY h5] at h
  by_cases hz : nb = 0
  ·rw [ZY hz] at h; cases h; decide
  ·rw [Z7 hz] at h; exact Uj _ c h
 rw [Z7 h5] at h
 by_cases h6 : n = 6
 ·rw [ZY h6] at h; exact Uj _ c h
 rw [Z7 h6] at h
 by_cases h7 : n = 7
 ·rw [ZY h7] at h; cases h
 rw [Z7 h7] at h
 by_cases h8 : n = 8
 ·rw [ZY h8] at h; cases h
 rw [Z7 h8] at h
 by_cases h9 : n = 9
 ·rw [ZY h9] at h; cases h
 rw [Z7 h9] at h
 by_cases h10 : n = 10
 ·rw [ZY h10] at h; exact K6 _ c h
 rw [Z7 h10] at h
 by_cases h11 : n = 11
 ·rw [ZY h11] at h; exact Uj _ c h
 rw [Z7 h11] at h
 by_cases h12 : n = 12
 ·rw [ZY h12] at h; cases h
 rw [Z7 h12] at h
 exact K6 _ c h
theorem JG {M : Nat -> Prop} {V w : World} {n : Int} {p : Nat} (hp : V.heap.size <= p) (hM : ∀ b, M b -> b < V.heap.size) (hu : w.heap[p]? = some (.cells Uk 94 (0, 0))) :
 R9 M w (.mk 4 n ⟨#[]⟩ (.slice (some ⟨p, 0, none⟩) 1 1) [.mk 3 0 ⟨#[]⟩ (.slice none 0 0) []]) := by
 refine .mk ⟨_, _, rfl, Nat.le_refl _, (fun h => by cases h), fun _ => ⟨p, 0, _, rfl, fun h => by have := hM p h; omega, hu, fun j hj => ?_⟩⟩ (by decide) (fun y hy => ?_)
 ·have hj4 : j = 0 \/ j = 1 \/ j = 2 \/ j = 3 := by simp [ZR, TK] at hj; omega
  rcases hj4 with rfl | rfl | rfl | rfl <;> simp [World.cell?, hu, Uk, ZR, TK, Z0.op, Z0.n, Z0.s, Z0.lv]
 ·rcases List.mem_singleton.1 hy with rfl
  exact Wp _ _ _ _ _
theorem um (n : Int) (l : List ZT) (c : Int) (h : r15 n l = .fail c) : c ≠ 0 := by
 match l, h with
 | [], h => cases h; decide
 | [a], h => exact K5 _ _ _ _ _ _ c h
 | [a, b], h => exact K5 _ _ _ _ _ _ c h
 | _ :: _ :: _ :: _, h => cases h; decide
theorem qd (l : List Z0) (x : Z0) : fl (l ++ [x]) = fl l ++ Yz x.op x.n x.s := by simp [fl]
theorem p9 (l : List Z0) (x : Z0) : ll (l ++ [x]) = ll l ++ Xr x.op x.n x.s := by simp [ll]
def Pz (M : Nat -> Prop) (sb : Nat) (fv tv : Value) (main fuel : Int) (st : Xc) (ov : Value) (q : PQ) (V : World) (e : Ending) (V' : World) : Prop :=
 ∃ (x : Z0) (QZ : Value), e = .returned (Ws x) /\ ZW x = (Xk st q).1 /\ R9 M V' x /\ MF V' sb fv tv main fuel (Xk st q).2 QZ /\ Em sb V V' ov.ownBlock QZ.ownBlock
theorem XU : ZW (.mk 0 0 ⟨#[]⟩ (.slice none 0 0) []) = default := by rw [Y2, stripL]; rfl
theorem Qm {M : Nat -> Prop} {sb : Nat} {fv tv : Value} {main fuel : Int} {st : Xc} {ov : Value} {q : PQ} {V wr w2 : World} (e1 n1 : Int) (hq : Xk st q = (default, YB st e1 n1)) (hlt : sb < V.heap.size)
 (g : (V.alloc (.cells Zf 94)).grownBy wr none) (hs : MF w2 sb fv tv main fuel (YB st e1 n1) ov) (hE : Em sb wr w2 ov.ownBlock ov.ownBlock) (hov : ∀ k, ov.ownBlock = some k -> k < V.heap.size) :
 w2.heap[V.heap.size]? = some (.cells Zf 94 (0, 0)) /\ Pz M sb fv tv main fuel st ov q V (.returned (.agg Zf)) (w2.setRow V.heap.size Zf) := by
 have g0 := Z8 V (.cells Zf 94)
 have n0 := Zn V (.cells Zf 94)
 have hz := Z6 n0
 have n1' := (g.block _ hz (by nofun)).trans n0
 have n2 : w2.heap[V.heap.size]? = some (.cells Zf 94 (0, 0)) := (hE.kept _ (Z6 n1') (by omega) (fun e => by have := hov _ e; omega)).trans n1'
 have hR : Em sb w2 (w2.setRow V.heap.size Zf) ov.ownBlock ov.ownBlock \/ True := .inr trivial
 refine ⟨n2, .mk 0 0 ⟨#[]⟩ (.slice none 0 0) [], ov, rfl, ?_, Wp _ _ _ _ _, ?_, ?_⟩
 ·rw [hq]; exact XU
 ·rw [hq]
  refine ⟨(WM w2 _ _ _ (by omega)).trans hs.blk, ?_⟩; rw [Go.setRow_self w2 _ _ _ _ n2]; exact hs.own
 ·have h1 := (Em.free (wb := sb) (r := ov.ownBlock) (both g0 g)).trans hE
  rw [Go.setRow_self w2 _ _ _ _ n2]; exact h1
theorem Ck (M : Nat -> Prop) (sb : Nat) (fv tv : Value) (main fuel : Int) (st : Xc) (ov : Value) (n : Int) (lv : Value) (l : List Z0) (V : World) (hM : ∀ b, M b -> b < V.heap.size)
 (hS : MF V sb fv tv main fuel st ov) (he : st.e = 0) (hl : U8 M V lv l.length (ZR l)) (hm : l.length = 1 \/ l.length = 2) (hn1 : 1 <= n) (hn2 : n <= 14) (ho : st.out.length <= 1000) :
 Calls Tryz.prog 65 #[.pointer (some ⟨sb, 0, none⟩), .int .i64 n, lv] V (Pz M sb fv tv main fuel st ov (Yq n (l.map ZW)) V) := by
 obtain ⟨oa, oc, rfl⟩ := EX hS.own
 have HL := Z9 hl
 have HS := Z9 hS
 have hsb := Z6 hS.blk
 have hov : ∀ k, (Value.slice oa st.out.length oc).ownBlock = some k -> k < V.heap.size := fun k hk => (Zw hS.own k hk).2
 have PG := Z9 hov
 obtain ⟨a0, lc, rfl, hlc, _, hcell⟩ := hl
 obtain ⟨lb, off, cur, rfl, fF, hlb, _⟩ := hcell (by omega)
 have ace := Z6 hlb
 have jH := Z9 hlb
 have hm2 : l.length <= 2 := by omega
 have hm1 : 1 <= l.length := by omega
 have HM := Z9 hm
 have HM2 := Z9 hM
 have Hn1 := Z9 hn1
 have Hn2 := Z9 hn2
 have He := Z9 he
 have Ho := Z9 ho
 clear hS hcell hlb hov hm hM fF he ho hn1 hn2
 have g0 := Z8 V (.cells Zf 94)
 have n0 := Zn V (.cells Zf 94)
 obtain ⟨ii, nP, nL, nK, nJ⟩ := YQ PD
 obtain ⟨ia, fE, fD, fC, fB⟩ := YQ Ou
 obtain ⟨is0, his, Qc, PK, Qb⟩ := YQ Cm
 go_in
 go_wp2_with fail
 go_loopw [7, 8] (fun v7 i wr => ∃ (k : Nat) (ta : Option Addr) (tc : Nat), k <= l.length /\ i = .int .i64 k /\ v7 = .slice ta k tc /\ Hid ((l.take k).all qg = true) /\ Hid (wr.ownsRow (V.heap.size + 1) 176 25 (.slice ta k tc) k (fl (l.take k))) /\ Hid ((V.alloc (.cells Zf 94)).grownBy wr none)) (fun _ i _ => l.length - (intOf i).toNat)
 case atStart => exact ⟨0, none, 0, Nat.zero_le _, rfl, rfl, Z9 (by rw [List.take_zero]; rfl), Z9 ⟨rfl, .inl ⟨rfl, rfl⟩⟩, ⟨rfl, rfl, rfl, Nat.le_refl _, fun _ _ _ => rfl⟩⟩
 case round =>
  obtain ⟨k, ta, tc, hk, rfl, rfl, bO, HO, HG⟩ := hrel; have bN := HG.out.size; simp at bN; by_cases hkl : k < l.length
  ·obtain ⟨b, off', c', ha, _, fF, hbl, c0, c1, c2, c3⟩ := Vp (HL.out.kept (ZG (both g0 HG.out))) k hkl
   obtain ⟨hq1, _, rfl⟩ := Value.slice.inj ha; obtain ⟨rfl, rfl, _⟩ := Addr.mk.inj (Option.some.inj hq1); clear c3 ha hq1 fF hbl; have hT := take_one default l k hkl; have hmem := Zr default l k hkl; have hbad : qg (l.getD k default) = false -> l.all qg = false := fun h => by
    rw [Bool.eq_false_iff]; intro h'; rw [List.all_eq_true] at h'; rw [h' _ hmem] at h; cases h
   generalize l.getD k default = x at *; obtain ⟨op, xn, xs, xv, xl⟩ := x; change wr.cell? ⟨lb, off + k * 4, none⟩ = some (.int .i64 op) at c0; change wr.cell? ⟨lb, off + k * 4 + 1, none⟩ = some (.int .i64 xn) at c1; change wr.cell? ⟨lb, off + k * 4 + 2, none⟩ = some (.string xs) at c2; have HT : Hid (fl (l.take (k + 1)) = fl (l.take k) ++ Yz op xn xs) := Z9 (by rw [hT, qd]; rfl); have HA : Hid (qg (.mk op xn xs xv xl) = true -> (l.take (k + 1)).all qg = true) := Z9 (fun h => by rw [hT, List.all_append, bO.out]; simp [h]); have HB := Z9 hbad; have hw1 : IntKind.i64.wrap ((k : Int) + 1) = (k : Int) + 1 := YJ _ (by omega) (by omega); clear hT hmem hbad; by_cases h1 : op = 1
   ·subst h1
    go_wp2_with fail; refine XG (S := fun w9 => w9.cell? ⟨lb, off + k * 4, none⟩ = some (.int .i64 1) /\ w9.cell? ⟨lb, off + k * 4 + 1, none⟩ = some (.int .i64 xn) /\ w9.cell? ⟨lb, off + k * 4 + 2, none⟩ = some (.string xs)) (by kernel_rfl) ⟨c0, c1, c2⟩ (fun hHeld => ?_); refine tks (b := ?_) (by kernel_rfl) (fun _ _ _ _ _ h => h) hHeld 17 [0, 1, 2, 3, 4, 5, 6, 7, 8, 9, 10, 11, 12, 13, 14, 15, 16] (by kernel_rfl) ?_ ?_; rotate_left
    ·iterate 16 (refine yc (v := ?_) rfl rfl (by rfl) (fun w9 hSw => ?_) ?_; rotate_left; (focus go_simp; try rfl); simp only [Act.put, Zj, Zi, Zh])
     refine yc (v := .agg (ZB 1 xn xs (.slice none 0 0))) rfl rfl (by rfl) (fun w9 hSw => by obtain ⟨s0, s1, s2⟩ := hSw; clear hHeld; go_simp; rfl) ?_; simp only [Act.put, Zj, Zi, Zh]; exact rfl
    clear c0 c1 c2; have gD := both HG.out (Z4 wr); have MV := Zx HO.out (Z4 wr) (by nofun); have RL := Zx MV (Z8 wr.drew (.cells (ZB 1 xn xs (.slice none 0 0)) 176)) (by nofun); have gA := both gD (Z8 wr.drew (.cells (ZB 1 xn xs (.slice none 0 0)) 176)); have hsz := gA.size; refine rd1 17 (by kernel_rfl) rfl fun K hK => ?_
    refine uo (by rfl) _ (by rfl) _ (by rfl) (by rfl) ?_; refine hK.out _ _ ⟨Z5 hHeld.1 _, Z5 hHeld.2.1 _, Z5 hHeld.2.2 _⟩ (fun XJ => ?_); clear hK K; skip; refine rd1 18 (by kernel_rfl) rfl fun K hK => ?_
    refine step_append_lies _ (by rfl) _ _ 165 (by rfl) (V.heap.size + 1) 176 ii (.agg ZM) 25 424 Tryz.underlying165 nP nL nK nJ (by rfl) (by decide) (.slice ta k tc) k (fl (l.take k)) (by rfl) RL ⟨wr.drew.heap.size, 0, none⟩ 1 1 (Yz 1 xn xs) (by rfl) (by rfl) (World.news_of_block (cs := ZB 1 xn xs (.slice none 0 0)) (ZV wr.drew _)) (List.all_eq_true.1 (show (Yz 1 xn xs).all (·.oneCell') = true from rfl)) (by decide) (by unfold maxLen; omega) (by omega) (by simp at hsz ⊢; omega) _ rfl (fun g cap w' hown hgrow hat hlt => ?_); have hne : ∀ q, (Value.slice ta k tc).ownBlock = some q -> V.heap.size + 1 <= q := fun q hq => (Zw RL q hq).1
    refine hK.out _ _ ⟨cell_kept XJ.1 hgrow (fun e => by have := hne lb e; omega), cell_kept XJ.2.1 hgrow (fun e => by have := hne lb e; omega), cell_kept XJ.2.2 hgrow (fun e => by have := hne lb e; omega)⟩ (fun WT => ?_); clear hK K; refine tks (b := ?_) (by kernel_rfl) (fun _ _ _ _ _ h => h) WT 1 [19] (by kernel_rfl) ?_ ?_; rotate_left
    ·refine yc (v := ?_) rfl rfl (by rfl) (fun w9 hSw => ?_) ?_; rotate_left; (focus go_simp; try rfl); simp only [Act.put, Zj, Zi, Zh]
     exact rfl
    have gE : (V.alloc (.cells Zf 94)).grownBy w' none := Oo gA hgrow (fun q hq => by have := hne q hq; simp; omega); refine X3 (by kernel_rfl) ?_ _; clear hHeld XJ WT hgrow hat hne gA gD RL MV; go_wp2_with fail; go_roundw
    case rel => exact ⟨k + 1, some ⟨g, 0, none⟩, cap, by omega, by go_num, rfl, Z9 (HA.out rfl), Z9 (by rw [HT.out]; exact hown), gE⟩
    case measure => simp [intOf]; omega
   ·by_cases h2 : op = 2
    ·subst h2
     go_wp2_with fail; refine XG (S := fun w9 => w9.cell? ⟨lb, off + k * 4, none⟩ = some (.int .i64 2) /\ w9.cell? ⟨lb, off + k * 4 + 1, none⟩ = some (.int .i64 xn) /\ w9.cell? ⟨lb, off + k * 4 + 2, none⟩ = some (.string xs)) (by kernel_rfl) ⟨c0, c1, c2⟩ (fun hHeld => ?_); refine tks (b := ?_) (by kernel_rfl) (fun _ _ _ _ _ h => h) hHeld 17 [0, 1, 2, 3, 4, 5, 6, 7, 8, 9, 10, 11, 12, 13, 14, 15, 16] (by kernel_rfl) ?_ ?_; rotate_left
     ·iterate 16 (refine yc (v := ?_) rfl rfl (by rfl) (fun w9 hSw => ?_) ?_; rotate_left; (focus go_simp; try rfl); simp only [Act.put, Zj, Zi, Zh])
      refine yc (v := .agg (ZB 2 xn xs (.slice none 0 0))) rfl rfl (by rfl) (fun w9 hSw => by obtain ⟨s0, s1, s2⟩ := hSw; clear hHeld; go_simp; rfl) ?_; simp only [Act.put, Zj, Zi, Zh]; exact rfl
     clear c0 c1 c2; have gD := both HG.out (Z4 wr); have MV := Zx HO.out (Z4 wr) (by nofun); have RL := Zx MV (Z8 wr.drew (.cells (ZB 2 xn xs (.slice none 0 0)) 176)) (by nofun); have gA := both gD (Z8 wr.drew (.cells (ZB 2 xn xs (.slice none 0 0)) 176)); have hsz := gA.size; refine rd1 17 (by kernel_rfl) rfl fun K hK => ?_
     refine uo (by rfl) _ (by rfl) _ (by rfl) (by rfl) ?_; refine hK.out _ _ ⟨Z5 hHeld.1 _, Z5 hHeld.2.1 _, Z5 hHeld.2.2 _⟩ (fun XJ => ?_); clear hK K; skip; refine rd1 18 (by kernel_rfl) rfl fun K hK => ?_
     refine step_append_lies _ (by rfl) _ _ 165 (by rfl) (V.heap.size + 1) 176 ii (.agg ZM) 25 424 Tryz.underlying165 nP nL nK nJ (by rfl) (by decide) (.slice ta k tc) k (fl (l.take k)) (by rfl) RL ⟨wr.drew.heap.size, 0, none⟩ 1 1 (Yz 2 xn xs) (by rfl) (by rfl) (World.news_of_block (cs := ZB 2 xn xs (.slice none 0 0)) (ZV wr.drew _)) (List.all_eq_true.1 (show (Yz 2 xn xs).all (·.oneCell') = true from rfl)) (by decide) (by unfold maxLen; omega) (by omega) (by simp at hsz ⊢; omega) _ rfl (fun g cap w' hown hgrow hat hlt => ?_); have hne : ∀ q, (Value.slice ta k tc).ownBlock = some q -> V.heap.size + 1 <= q := fun q hq => (Zw RL q hq).1
     refine hK.out _ _ ⟨cell_kept XJ.1 hgrow (fun e => by have := hne lb e; omega), cell_kept XJ.2.1 hgrow (fun e => by have := hne lb e; omega), cell_kept XJ.2.2 hgrow (fun e => by have := hne lb e; omega)⟩ (fun WT => ?_); clear hK K; refine tks (b := ?_) (by kernel_rfl) (fun _ _ _ _ _ h => h) WT 1 [19] (by kernel_rfl) ?_ ?_; rotate_left
     ·refine yc (v := ?_) rfl rfl (by rfl) (fun w9 hSw => ?_) ?_; rotate_left; (focus go_simp; try rfl); simp only [Act.put, Zj, Zi, Zh]
      exact rfl
     have gE : (V.alloc (.cells Zf 94)).grownBy w' none := Oo gA hgrow (fun q hq => by have := hne q hq; simp; omega); refine X3 (by kernel_rfl) ?_ _; clear hHeld XJ WT hgrow hat hne gA gD RL MV; go_wp2_with fail; go_roundw
     case rel => exact ⟨k + 1, some ⟨g, 0, none⟩, cap, by omega, by go_num, rfl, Z9 (HA.out rfl), Z9 (by rw [HT.out]; exact hown), gE⟩
     case measure => simp [intOf]; omega
    ·have hb : l.all qg = false := HB.out (by simp [qg, Z0.op, h1, h2])
     have hq : Xk st (Yq n (l.map ZW)) = (default, YB st 4 0) := by
      unfold Yq; rw [Av, hb, ZY rfl]; rfl
     have hstop := Ym sb fv tv main fuel st (.slice oa st.out.length oc) 4 0 wr (HS.out.free (both g0 HG.out)); have Py := Z9 hstop; have Hq := Z9 hq; have e1 := vX op 1 h1; have e2 := vX op 2 h2; clear hstop hq hb HB HA HT c1 c2; go_wp2_with (first
      | (go_at_call 63; refine Py.out.mono ?_; rintro e w2 ⟨rfl, hs2, hE2⟩; obtain ⟨n2, hP⟩ := Qm (M := M) 4 0 Hq.out hsb HG.out hs2 hE2 PG.out; have HP := Z9 hP; clear hP hs2 hE2)
      | (refine Zc rfl 94 _ _ rfl V.heap.size (Zf) rfl rfl 94 Zf n2 YX rfl (ZO _ rfl) ?_))
     exact Y4 (YC rfl _ _ V.heap.size 94 _ (0, 0) _ rfl (Zd _ _ _ _ _ _ n2) Tryz.underlying94 rfl YX) rfl (HP.out)
  ·have hkl' : k = l.length := by omega
   subst hkl'; rw [List.take_length] at HO bO; obtain ⟨g, rfl, htc, hrf, hg1, hg2⟩ := Au HO.out hm1; have HF := Z9 (uq n l HM.out g tc wr hrf); have hall : (l.map ZW).all Km = true := by rw [Av]; exact bO.out
   have Om := Z9 hall; clear hall bO HO; generalize hfit : Rk n (l.map ZW) = fit at *; have K4 := Z9 hfit; clear hfit; cases fit
   ·have hq : Xk st (Yq n (l.map ZW)) = (default, YB st 4 0) := by
     unfold Yq; rw [Z7 (by rw [Om.out]; decide), ZY K4.out]; rfl
    have Hq := Z9 hq; have Py := Z9 (Ym sb fv tv main fuel st (.slice oa st.out.length oc) 4 0 wr (HS.out.free (both g0 HG.out))); clear hq hrf; go_wp2_with (first
     | (go_at_call 90; refine HF.out.mono ?_; rintro e w' ⟨rfl, rfl⟩)
     | (go_at_call 63; refine Py.out.mono ?_; rintro e w2 ⟨rfl, hs2, hE2⟩; obtain ⟨n2, hP⟩ := Qm (M := M) 4 0 Hq.out hsb HG.out hs2 hE2 PG.out; have HP := Z9 hP; clear hP hs2 hE2)
     | (refine Zc rfl 94 _ _ rfl V.heap.size (Zf) rfl rfl 94 Zf n2 YX rfl (ZO _ rfl) ?_))
    exact Y4 (YC rfl _ _ V.heap.size 94 _ (0, 0) _ rfl (Zd _ _ _ _ _ _ n2) Tryz.underlying94 rfl YX) rfl (HP.out)
   ·by_cases h14 : n = 14
    ·have hq : Yq n (l.map ZW) = .print ((l.map ZW).headD default).s := by
      unfold Yq; rw [Z7 (by rw [Om.out]; decide), Z7 (by rw [K4.out]; decide), ZY h14]
     have hs0 : ((l.map ZW).headD default).s = (l.getD 0 default).s := by
      cases l with
      | nil => simp at hm1
      | cons x r => simp [Qn]
     rw [hs0] at hq; have Hq := Z9 hq; clear hq hs0 hrf; subst h14; obtain ⟨q0, q1, q2, q3, q4, q5, q6, q7⟩ := ZK (HS.out.free (both g0 HG.out)).blk; by_cases hf : st.out.length = 1000
     ·have hq2 : Xk st (Yq 14 (l.map ZW)) = (default, YB st 2 2) := by
       rw [Hq.out]; unfold Xk; simp only [hf, if_true]
      have Hq2 := Z9 hq2; have Py := Z9 (Ym sb fv tv main fuel st (.slice oa st.out.length oc) 2 2 wr (HS.out.free (both g0 HG.out))); have hf2 : ((st.out.length : Nat) : Int) = 1000 := by omega
      clear hq2; go_wp2_with (first
       | (go_at_call 90; refine HF.out.mono ?_; rintro e w' ⟨rfl, rfl⟩)
       | (go_at_call 63; refine Py.out.mono ?_; rintro e w2 ⟨rfl, hs2, hE2⟩; obtain ⟨n2, hP⟩ := Qm (M := M) 2 2 Hq2.out hsb HG.out hs2 hE2 PG.out; have HP := Z9 hP; clear hP hs2 hE2)
       | (refine Zc rfl 94 _ _ rfl V.heap.size (Zf) rfl rfl 94 Zf n2 YX rfl (ZO _ rfl) ?_))
      exact Y4 (YC rfl _ _ V.heap.size 94 _ (0, 0) _ rfl (Zd _ _ _ _ _ _ n2) Tryz.underlying94 rfl YX) rfl (HP.out)
     ·have hf2 : ¬ ((st.out.length : Nat) : Int) = 1000 := by omega
      have hlen := Ho.out; have hbl := Vp (HL.out.kept (ZG (both g0 HG.out))) 0 (by omega); obtain ⟨b, off', c', ha, _, _, _, _, _, c2, _⟩ := hbl; obtain ⟨hq1, _, rfl⟩ := Value.slice.inj ha; obtain ⟨rfl, rfl, _⟩ := Addr.mk.inj (Option.some.inj hq1); rw [Nat.zero_mul, Nat.add_zero] at c2; clear ha hq1; have hq2 : Xk st (Yq 14 (l.map ZW)) = (.mk 3 0 ⟨#[]⟩ [], { st with out := st.out ++ [(l.getD 0 default).s] }) := by
       rw [Hq.out]; exact Z7 hf
      have Hq2 := Z9 hq2; clear hq2 Hq; generalize (l.getD 0 default).s = xs at *; have hnil : l ≠ [] := fun h => by rw [h] at hm1; simp at hm1
      go_wp2_with (go_at_call 90; refine HF.out.mono ?_; rintro e w' ⟨rfl, rfl⟩); refine XG (S := fun w9 => w9.cell? ⟨lb, off + 2, none⟩ = some (.string xs)) (by kernel_rfl) c2 (fun hHeld => ?_); refine tks (b := ?_) (by kernel_rfl) (fun _ _ _ _ _ h => h) hHeld 8 [0, 1, 2, 3, 5, 6, 7, 8] (by kernel_rfl) ?_ ?_; rotate_left
      ·iterate 5 (refine yc (v := ?_) rfl rfl (by rfl) (fun w9 hSw => ?_) ?_; rotate_left; (focus go_simp; try rfl); simp only [Act.put, Zj, Zi, Zh])
       refine yc (v := .pointer (some ⟨lb, off, none⟩)) rfl rfl (by rfl) (fun w9 hSw => by have s1 : w9.cell? ⟨lb, off + 2, none⟩ = some (.string xs) := hSw; clear hHeld; go_simp) ?_; simp only [Act.put, Zj, Zi, Zh]
       iterate 2 (refine yc (v := ?_) rfl rfl (by rfl) (fun w9 hSw => ?_) ?_; rotate_left; (focus go_simp; try rfl); simp only [Act.put, Zj, Zi, Zh])
       exact rfl
      clear q0 q1 q2 q3 q4 q6 q7 c2; have hSt := HS.out.free (both (both g0 HG.out) (Z4 wr)); have Nu := hSt.free (Z8 wr.drew (.cells #[.string xs] 9)); have gA := both (both (both g0 HG.out) (Z4 wr)) (Z8 wr.drew (.cells #[.string xs] 9)); have gA1 := both (both HG.out (Z4 wr)) (Z8 wr.drew (.cells #[.string xs] 9)); have hsz := gA.size; have hA1 := (ZK hSt.blk).2.2.2.2.2.1; have hA2 : (wr.alloc (.cells #[.string xs] 9)).drew.cell? ⟨sb, 5, none⟩ = some (.slice oa st.out.length oc) := (ZK Nu.blk).2.2.2.2.2.1; refine wpAnyH_ready (rs := [4, 9]) (by kernel_rfl) (by simp) (AllReadyH.cons (by rfl) (fun K hK => ?_) (AllReadyH.cons (by rfl) (fun K hK => ?_) AllReadyH.nil))
      ·go_simp
       refine hK.out _ _ hHeld (fun XJ => ?_); clear hK K; refine rd1 9 (by kernel_rfl) rfl fun K hK => ?_
       go_simp; refine hK.out _ _ (Z5 hHeld _) (fun XJ => ?_); clear hK K; refine rd1 10 (by kernel_rfl) rfl fun K hK => ?_
       refine step_append_lies _ (by rfl) _ _ 27 (by rfl) (sb + 1) 9 is0 (.string ⟨#[]⟩) 1 16 Tryz.underlying27 his Qc PK Qb (by rfl) (by decide) (.slice oa st.out.length oc) st.out.length (strCells st.out) (by rfl) Nu.own ⟨wr.drew.heap.size, 0, none⟩ 1 1 [.string xs] (by rfl) (by rfl) (World.news_of_block (cs := #[.string xs]) (ZV wr.drew _)) (by intro u hu; simp at hu; subst hu; rfl) (by decide) (by unfold maxLen; omega) (by omega) (by simp at hsz ⊢; omega) _ rfl (fun g' cap w' hown hgrow hat hlt => ?_); have hne : ∀ q, (Value.slice oa st.out.length oc).ownBlock = some q -> sb + 1 <= q := fun q hq => (Zw Nu.own q hq).1
       have hlt2 : ∀ q, (Value.slice oa st.out.length oc).ownBlock = some q -> q < V.heap.size := fun q hq => PG.out q hq
       have hne2 : ∀ q, (Value.slice oa st.out.length oc).ownBlock = some q -> q ≠ lb := fun q hq e => by obtain ⟨cu, MW⟩ := XP Nu.own q hq; rw [e, (gA.block _ (Z6 jH.out) (by nofun)).trans jH.out] at MW; exact absurd (Obj.cells.inj (Option.some.inj MW)).2.1 (by decide)
       have hblk : w'.heap[sb]? = _ := (hgrow.block sb (Z6 Nu.blk) (fun e => by have := hne sb e.symm; omega)).trans Nu.blk; obtain ⟨z0, z1, z2, z3, z4, z5, z6, z7⟩ := ZK hblk; have zf := Lib.frozen_of_heap hblk 5; refine hK.out _ _ (cell_kept XJ hgrow (fun e => hne2 lb e rfl)) (fun WT => ?_); clear hK K; refine tks (b := ?_) (by kernel_rfl) (fun _ _ _ _ _ h => h) WT 2 [11, 12] (by kernel_rfl) ?_ ?_; rotate_left
       ·refine yc (v := .pointer (some ⟨sb, 0, none⟩)) rfl rfl (by rfl) (fun w9 hSw => by have s1 : w9.cell? ⟨lb, off + 2, none⟩ = some (.string xs) := hSw; clear hHeld XJ WT; go_simp) ?_
        simp only [Act.put, Zj, Zi, Zh]; refine yc (v := .pointer (some ⟨sb, 5, none⟩)) rfl rfl (by rfl) (fun w9 hSw => by have s1 : w9.cell? ⟨lb, off + 2, none⟩ = some (.string xs) := hSw; clear hHeld XJ WT; go_simp) ?_; simp only [Act.put, Zj, Zi, Zh]; exact rfl
       refine rd1 13 (by kernel_rfl) rfl fun K hK => ?_
       go_simp; have gs := Zv w' sb 5 (.slice (some ⟨g', 0, none⟩) (st.out.length + 1) cap); refine hK.out _ _ (cell_kept WT gs (fun e => by have h1 := Option.some.inj e; obtain ⟨cu, MW⟩ : ∃ cu, V.heap[sb]? = some (.cells cu 91 (0, 0)) := ⟨_, HS.out.blk⟩; rw [h1] at MW; dsimp only at MW; rw [jH.out] at MW; exact absurd (Obj.cells.inj (Option.some.inj MW)).2.1 (by decide))) (fun _ => ?_); clear hK K; refine X3 (by kernel_rfl) ?_ _; have n1' := (gA1.block _ (Z6 n0) (by nofun)).trans n0; have n2' := (hgrow.block _ (Z6 n1') (fun e => by have := hlt2 _ e.symm; omega)).trans n1'; have n3' := (gs.block _ (Z6 n2') (fun e => by have := Option.some.inj e; omega)).trans n2'; have hR : Hid (Pz M sb fv tv main fuel st (.slice oa st.out.length oc) (Yq 14 (l.map ZW)) V (.returned (.agg Uk)) ((w'.setCell ⟨sb, 5, none⟩ (.slice (some ⟨g', 0, none⟩) (st.out.length + 1) cap)).setRow V.heap.size Uk)) := by
        have hk := JH hblk hown hgrow (sb := sb) gA1 hat (by simp) PG.out hsb (hn := n3'); refine Z9 ⟨.mk 3 0 ⟨#[]⟩ (.slice none 0 0) [], .slice (some ⟨g', 0, none⟩) (st.out.length + 1) cap, rfl, ?_, Wp _ _ _ _ _, ?_, hk.2⟩
        ·rw [Hq2.out, Y2, stripL]
        ·rw [Hq2.out]; exact hk.1
       clear hHeld XJ WT hown hgrow hat hlt hblk z0 z1 z2 z3 z4 z5 z6 z7 zf gs hSt Nu gA gA1 hA1 hA2 q5; go_wp2_with (refine Zc rfl 94 _ _ rfl V.heap.size (Uk) rfl rfl 94 Zf n3' YX rfl (ZO _ rfl) ?_); exact Y4 (YC rfl _ _ V.heap.size 94 _ (0, 0) _ rfl (Zd _ _ _ _ _ _ n3') Tryz.underlying94 rfl YX) rfl hR.out
      ·go_simp
       refine hK.out _ _ (Z5 hHeld _) (fun XJ => ?_); clear hK K; refine rd1 4 (by kernel_rfl) rfl fun K hK => ?_
       go_simp; refine hK.out _ _ XJ (fun _ => ?_); clear hK K; refine rd1 10 (by kernel_rfl) rfl fun K hK => ?_
       refine step_append_lies _ (by rfl) _ _ 27 (by rfl) (sb + 1) 9 is0 (.string ⟨#[]⟩) 1 16 Tryz.underlying27 his Qc PK Qb (by rfl) (by decide) (.slice oa st.out.length oc) st.out.length (strCells st.out) (by rfl) Nu.own ⟨wr.drew.heap.size, 0, none⟩ 1 1 [.string xs] (by rfl) (by rfl) (World.news_of_block (cs := #[.string xs]) (ZV wr.drew _)) (by intro u hu; simp at hu; subst hu; rfl) (by decide) (by unfold maxLen; omega) (by omega) (by simp at hsz ⊢; omega) _ rfl (fun g' cap w' hown hgrow hat hlt => ?_); have hne : ∀ q, (Value.slice oa st.out.length oc).ownBlock = some q -> sb + 1 <= q := fun q hq => (Zw Nu.own q hq).1
       have hlt2 : ∀ q, (Value.slice oa st.out.length oc).ownBlock = some q -> q < V.heap.size := fun q hq => PG.out q hq
       have hne2 : ∀ q, (Value.slice oa st.out.length oc).ownBlock = some q -> q ≠ lb := fun q hq e => by obtain ⟨cu, MW⟩ := XP Nu.own q hq; rw [e, (gA.block _ (Z6 jH.out) (by nofun)).trans jH.out] at MW; exact absurd (Obj.cells.inj (Option.some.inj MW)).2.1 (by decide)
       have hblk : w'.heap[sb]? = _ := (hgrow.block sb (Z6 Nu.blk) (fun e => by have := hne sb e.symm; omega)).trans Nu.blk; obtain ⟨z0, z1, z2, z3, z4, z5, z6, z7⟩ := ZK hblk; have zf := Lib.frozen_of_heap hblk 5; refine hK.out _ _ (cell_kept XJ hgrow (fun e => hne2 lb e rfl)) (fun WT => ?_); clear hK K; refine tks (b := ?_) (by kernel_rfl) (fun _ _ _ _ _ h => h) WT 2 [11, 12] (by kernel_rfl) ?_ ?_; rotate_left
       ·refine yc (v := .pointer (some ⟨sb, 0, none⟩)) rfl rfl (by rfl) (fun w9 hSw => by have s1 : w9.cell? ⟨lb, off + 2, none⟩ = some (.string xs) := hSw; clear hHeld XJ WT; go_simp) ?_
        simp only [Act.put, Zj, Zi, Zh]; refine yc (v := .pointer (some ⟨sb, 5, none⟩)) rfl rfl (by rfl) (fun w9 hSw => by have s1 : w9.cell? ⟨lb, off + 2, none⟩ = some (.string xs) := hSw; clear hHeld XJ WT; go_simp) ?_; simp only [Act.put, Zj, Zi, Zh]; exact rfl
       refine rd1 13 (by kernel_rfl) rfl fun K hK => ?_
       go_simp; have gs := Zv w' sb 5 (.slice (some ⟨g', 0, none⟩) (st.out.length + 1) cap); refine hK.out _ _ (cell_kept WT gs (fun e => by have h1 := Option.some.inj e; obtain ⟨cu, MW⟩ : ∃ cu, V.heap[sb]? = some (.cells cu 91 (0, 0)) := ⟨_, HS.out.blk⟩; rw [h1] at MW; dsimp only at MW; rw [jH.out] at MW; exact absurd (Obj.cells.inj (Option.some.inj MW)).2.1 (by decide))) (fun _ => ?_); clear hK K; refine X3 (by kernel_rfl) ?_ _; have n1' := (gA1.block _ (Z6 n0) (by nofun)).trans n0; have n2' := (hgrow.block _ (Z6 n1') (fun e => by have := hlt2 _ e.symm; omega)).trans n1'; have n3' := (gs.block _ (Z6 n2') (fun e => by have := Option.some.inj e; omega)).trans n2'; have hR : Hid (Pz M sb fv tv main fuel st (.slice oa st.out.length oc) (Yq 14 (l.map ZW)) V (.returned (.agg Uk)) ((w'.setCell ⟨sb, 5, none⟩ (.slice (some ⟨g', 0, none⟩) (st.out.length + 1) cap)).setRow V.heap.size Uk)) := by
        have hk := JH hblk hown hgrow (sb := sb) gA1 hat (by simp) PG.out hsb (hn := n3'); refine Z9 ⟨.mk 3 0 ⟨#[]⟩ (.slice none 0 0) [], .slice (some ⟨g', 0, none⟩) (st.out.length + 1) cap, rfl, ?_, Wp _ _ _ _ _, ?_, hk.2⟩
        ·rw [Hq2.out, Y2, stripL]
        ·rw [Hq2.out]; exact hk.1
       clear hHeld XJ WT hown hgrow hat hlt hblk z0 z1 z2 z3 z4 z5 z6 z7 zf gs hSt Nu gA gA1 hA1 hA2 q5; go_wp2_with (refine Zc rfl 94 _ _ rfl V.heap.size (Uk) rfl rfl 94 Zf n3' YX rfl (ZO _ rfl) ?_); exact Y4 (YC rfl _ _ V.heap.size 94 _ (0, 0) _ rfl (Zd _ _ _ _ _ _ n3') Tryz.underlying94 rfl YX) rfl hR.out
    ·have e14 : (n == 14) = false := by simp [h14]
     have hn13 : n <= 13 := by have := Hn2.out; omega
     go_wp2_with (go_at_call 90; refine HF.out.mono ?_; rintro e w' ⟨rfl, rfl⟩); have HPr := Z9 (fun g cap wx => yU n l HM.out K4.out Hn1.out hn13 g cap wx); have hq : Yq n (l.map ZW) = if (l.map ZW).all Tv = false then .val default else Kl (r15 n (l.map ZW)) := by
      unfold Yq; rw [Z7 (by rw [Om.out]; decide), Z7 (by rw [K4.out]; decide), Z7 h14]
     have Hq := Z9 hq; have HGa := HG; clear hq hrf HF K4 Om bN hg1 hg2 htc HG; go_loopw [9, 10] (fun v9 i wq => ∃ (k : Nat) (ta : Option Addr) (tc : Nat), k <= l.length /\ i = .int .i64 k /\ v9 = .slice ta k tc /\ Hid (wq.ownsRow (V.heap.size + 1) 43 5 (.slice ta k tc) k (ll (l.take k))) /\ Hid ((V.alloc (.cells Zf 94)).grownBy wq none)) (fun _ i _ => l.length - (intOf i).toNat)
     case atStart => exact ⟨0, none, 0, Nat.zero_le _, rfl, rfl, Z9 ⟨rfl, .inl ⟨rfl, rfl⟩⟩, HGa⟩
     case round =>
      obtain ⟨k, ta, tc, hk, rfl, rfl, HO, HG⟩ := hrel; have bN := HG.out.size; simp at bN; by_cases hkl : k < l.length
      ·obtain ⟨b, off', c', ha, _, fF, hbl, c0, c1, c2, c3⟩ := Vp (HL.out.kept (ZG (both g0 HG.out))) k hkl
       obtain ⟨hq1, _, rfl⟩ := Value.slice.inj ha; obtain ⟨rfl, rfl, _⟩ := Addr.mk.inj (Option.some.inj hq1); clear c3 ha hq1 fF hbl; have hT := take_one default l k hkl; generalize l.getD k default = x at *; obtain ⟨op, xn, xs, xv, xl⟩ := x; change wr.cell? ⟨lb, off + k * 4, none⟩ = some (.int .i64 op) at c0; change wr.cell? ⟨lb, off + k * 4 + 1, none⟩ = some (.int .i64 xn) at c1; change wr.cell? ⟨lb, off + k * 4 + 2, none⟩ = some (.string xs) at c2; have HT : Hid (ll (l.take (k + 1)) = ll (l.take k) ++ Xr op xn xs) := Z9 (by rw [hT, p9]; rfl); have hw1 : IntKind.i64.wrap ((k : Int) + 1) = (k : Int) + 1 := YJ _ (by omega) (by omega); clear hT; go_wp2_with fail; refine XG (S := fun w9 => w9.cell? ⟨lb, off + k * 4, none⟩ = some (.int .i64 op) /\ w9.cell? ⟨lb, off + k * 4 + 1, none⟩ = some (.int .i64 xn) /\ w9.cell? ⟨lb, off + k * 4 + 2, none⟩ = some (.string xs)) (by kernel_rfl) ⟨c0, c1, c2⟩ (fun hHeld => ?_); refine tks (b := ?_) (by kernel_rfl) (fun _ _ _ _ _ h => h) hHeld 17 [0, 1, 2, 3, 4, 5, 6, 7, 8, 9, 10, 11, 12, 13, 14, 15, 16] (by kernel_rfl) ?_ ?_; rotate_left
       ·iterate 17 (refine yc (v := ?_) rfl rfl (by rfl) (fun w9 hSw => ?_) ?_; rotate_left; (focus go_simp; try rfl); simp only [Act.put, Zj, Zi, Zh])
        exact rfl
       clear c0 c1 c2; have gD := both HG.out (Z4 wr); have MV := Zx HO.out (Z4 wr) (by nofun); have RL := Zx MV (Z8 wr.drew (.cells (#[.int .i64 op, .int .i64 xn, .string xs, .slice none 0 0, .slice none 0 0]) 43)) (by nofun); have gA := both gD (Z8 wr.drew (.cells (#[.int .i64 op, .int .i64 xn, .string xs, .slice none 0 0, .slice none 0 0]) 43)); have hsz := gA.size; refine rd1 17 (by kernel_rfl) rfl fun K hK => ?_
       go_simp; refine hK.out _ _ ⟨Z5 hHeld.1 _, Z5 hHeld.2.1 _, Z5 hHeld.2.2 _⟩ (fun XJ => ?_); clear hK K; skip; refine rd1 18 (by kernel_rfl) rfl fun K hK => ?_
       refine step_append_lies _ (by rfl) _ _ 41 (by rfl) (V.heap.size + 1) 43 ia (.agg #[.int .i64 0, .int .i64 0, .string ⟨#[]⟩, .slice none 0 0, .slice none 0 0]) 5 80 Tryz.underlying41 fE fD fC fB (by rfl) (by decide) (.slice ta k tc) k (ll (l.take k)) (by rfl) RL ⟨wr.drew.heap.size, 0, none⟩ 1 1 (Xr op xn xs) (by rfl) (by rfl) (World.news_of_block (cs := #[.int .i64 op, .int .i64 xn, .string xs, .slice none 0 0, .slice none 0 0]) (ZV wr.drew _)) (List.all_eq_true.1 (show (Xr op xn xs).all (·.oneCell') = true from rfl)) (by decide) (by unfold maxLen; omega) (by omega) (by simp at hsz ⊢; omega) _ rfl (fun g cap w' hown hgrow hat hlt => ?_); have hne : ∀ q, (Value.slice ta k tc).ownBlock = some q -> V.heap.size + 1 <= q := fun q hq => (Zw RL q hq).1
       refine hK.out _ _ ⟨cell_kept XJ.1 hgrow (fun e => by have := hne lb e; omega), cell_kept XJ.2.1 hgrow (fun e => by have := hne lb e; omega), cell_kept XJ.2.2 hgrow (fun e => by have := hne lb e; omega)⟩ (fun WT => ?_); clear hK K; refine tks (b := ?_) (by kernel_rfl) (fun _ _ _ _ _ h => h) WT 1 [19] (by kernel_rfl) ?_ ?_; rotate_left
       ·refine yc (v := ?_) rfl rfl (by rfl) (fun w9 hSw => ?_) ?_; rotate_left; (focus go_simp; try rfl); simp only [Act.put, Zj, Zi, Zh]
        exact rfl
       have gE : (V.alloc (.cells Zf 94)).grownBy w' none := Oo gA hgrow (fun q hq => by have := hne q hq; simp; omega); refine X3 (by kernel_rfl) ?_ _; clear hHeld XJ WT hgrow hat hne gA gD RL MV; go_wp2_with fail; go_roundw
       case rel => exact ⟨k + 1, some ⟨g, 0, none⟩, cap, by omega, by go_num, rfl, Z9 (by rw [HT.out]; exact hown), gE⟩
       case measure => simp [intOf]; omega
      ·have hkl' : k = l.length := by omega
       subst hkl'; rw [List.take_length] at HO; obtain ⟨gq, rfl, htc, hrf, hg1, hg2⟩ := Au HO.out hm1; have HP := HPr.out gq tc wr hrf htc; clear HO hrf HPr htc hg1 hg2; generalize (l.map ZW).all Tv = okf at *; have hr0 : ∀ c, r15 n (l.map ZW) = .fail c -> c ≠ 0 := fun c h => um n _ c h
       generalize r15 n (l.map ZW) = r at *; go_wp2_with fail; refine HP.mono ?_; rintro e w5 ⟨g5, hP⟩; have G5 := both HG.out g5; have n5 := (G5.block _ (Z6 n0) (by nofun)).trans n0; have acf := Z6 n5; clear HP; cases okf
       ·rw [ZY rfl] at hP
        subst hP; have Hq2 : Hid (Xk st (Yq n (l.map ZW)) = (default, st)) := Z9 (by rw [Hq.out, ZY rfl]; rfl); have hdef : ZW (.mk 0 0 ⟨#[]⟩ (.slice none 0 0) []) = default := XU; go_upto_region 21 with (refine Zc rfl 43 _ _ rfl w5.heap.size (ZN 0 0 ⟨#[]⟩ (.slice none 0 0)) rfl rfl 43 _ (Zn w5 _) YT rfl (ZO _ rfl) ?_); have gN := ZQ (Z8 w5 (.cells (ZN 0 0 ⟨#[]⟩ (.slice none 0 0)) 43)) (Nat.le_refl _) (ZN 0 0 ⟨#[]⟩ (.slice none 0 0)); have nN := Zd _ _ _ (ZN 0 0 ⟨#[]⟩ (.slice none 0 0)) _ _ (Zn w5 (.cells (ZN 0 0 ⟨#[]⟩ (.slice none 0 0)) 43)); change Code.wp _ _ _ _ ((w5.alloc (.cells (ZN 0 0 ⟨#[]⟩ (.slice none 0 0)) 43)).setRow w5.heap.size (ZN 0 0 ⟨#[]⟩ (.slice none 0 0))); generalize (w5.alloc (.cells (ZN 0 0 ⟨#[]⟩ (.slice none 0 0)) 43)).setRow w5.heap.size (ZN 0 0 ⟨#[]⟩ (.slice none 0 0)) = Y at *; obtain ⟨v0, v1, v2, v3, v4⟩ := Yh nN; have nY := (gN.block _ (Z6 n5) (by nofun)).trans n5; have GY := both G5 gN; have gF := ZQ (both g0 GY) (Nat.le_refl _) (#[.int .i64 0, .int .i64 0, .string ⟨#[]⟩, .slice none 0 0]); have hR : Hid (Pz M sb fv tv main fuel st (.slice oa st.out.length oc) (Yq n (l.map ZW)) V (.returned (.agg (#[.int .i64 0, .int .i64 0, .string ⟨#[]⟩, .slice none 0 0]))) (Y.setRow V.heap.size (#[.int .i64 0, .int .i64 0, .string ⟨#[]⟩, .slice none 0 0]))) := Z9 ⟨_, _, rfl, by rw [Hq2.out]; exact hdef, Wp _ _ _ _ _, by rw [Hq2.out]; exact HS.out.free gF, Em.free gF⟩; clear gN nN GY G5 g5 hr0 HG gF; go_wp2_with (refine Zc rfl 94 _ _ rfl V.heap.size (#[.int .i64 0, .int .i64 0, .string ⟨#[]⟩, .slice none 0 0]) rfl rfl 94 Zf nY YX rfl (ZO _ rfl) ?_); exact Y4 (YC rfl _ _ V.heap.size 94 _ (0, 0) _ rfl (Zd _ _ _ _ _ _ nY) Tryz.underlying94 rfl YX) rfl hR.out
       ·rw [Z7 (by decide)] at hP
        have Hq1 : Hid (Yq n (l.map ZW) = Kl r) := Z9 (by rw [Hq.out, Z7 (by decide)]); cases r with
        | fail c =>
          subst hP; have hc0 := hr0 c rfl; have Hq2 : Hid (Xk st (Yq n (l.map ZW)) = (default, YB st 2 c)) := Z9 (by rw [Hq1.out]; rfl); go_upto_region 21 with (refine Zc rfl 43 _ _ rfl w5.heap.size (ZN 0 0 ⟨#[]⟩ (.slice none 0 0)) rfl rfl 43 _ (Zn w5 _) YT rfl (ZO _ rfl) ?_); have gN := ZQ (Z8 w5 (.cells (ZN 0 0 ⟨#[]⟩ (.slice none 0 0)) 43)) (Nat.le_refl _) (ZN 0 0 ⟨#[]⟩ (.slice none 0 0)); change Code.wp _ _ _ _ ((w5.alloc (.cells (ZN 0 0 ⟨#[]⟩ (.slice none 0 0)) 43)).setRow w5.heap.size (ZN 0 0 ⟨#[]⟩ (.slice none 0 0))); generalize (w5.alloc (.cells (ZN 0 0 ⟨#[]⟩ (.slice none 0 0)) 43)).setRow w5.heap.size (ZN 0 0 ⟨#[]⟩ (.slice none 0 0)) = Y at *; have GY := both G5 gN; have Py := Z9 (Ym sb fv tv main fuel st (.slice oa st.out.length oc) 2 c Y (HS.out.free (both g0 GY))); have HGY := Z9 GY; clear gN GY G5 g5 hr0 HG; go_wp2_with (first
           | (go_at_call 63; refine Py.out.mono ?_; rintro e w2 ⟨rfl, hs2, hE2⟩; obtain ⟨n2, hP⟩ := Qm (M := M) 2 c Hq2.out hsb HGY.out hs2 hE2 PG.out; have HP := Z9 hP; clear hP hs2 hE2)
           | (refine Zc rfl 94 _ _ rfl V.heap.size (Zf) rfl rfl 94 Zf n2 YX rfl (ZO _ rfl) ?_))
          exact Y4 (YC rfl _ _ V.heap.size 94 _ (0, 0) _ rfl (Zd _ _ _ _ _ _ n2) Tryz.underlying94 rfl YX) rfl (HP.out)
        | num m =>
          subst hP; have Hq2 : Hid (Xk st (Yq n (l.map ZW)) = (.mk 1 m ⟨#[]⟩ [], st)) := Z9 (by rw [Hq1.out]; rfl); have hdef : ZW (.mk 1 m ⟨#[]⟩ (.slice none 0 0) []) = .mk 1 m ⟨#[]⟩ [] := by rw [Y2, stripL]
          go_upto_region 21 with (refine Zc rfl 43 _ _ rfl w5.heap.size (ZN 1 m ⟨#[]⟩ (.slice none 0 0)) rfl rfl 43 _ (Zn w5 _) YT rfl (ZO _ rfl) ?_); have gN := ZQ (Z8 w5 (.cells (ZN 0 0 ⟨#[]⟩ (.slice none 0 0)) 43)) (Nat.le_refl _) (ZN 1 m ⟨#[]⟩ (.slice none 0 0)); have nN := Zd _ _ _ (ZN 1 m ⟨#[]⟩ (.slice none 0 0)) _ _ (Zn w5 (.cells (ZN 0 0 ⟨#[]⟩ (.slice none 0 0)) 43)); change Code.wp _ _ _ _ ((w5.alloc (.cells (ZN 0 0 ⟨#[]⟩ (.slice none 0 0)) 43)).setRow w5.heap.size (ZN 1 m ⟨#[]⟩ (.slice none 0 0))); generalize (w5.alloc (.cells (ZN 0 0 ⟨#[]⟩ (.slice none 0 0)) 43)).setRow w5.heap.size (ZN 1 m ⟨#[]⟩ (.slice none 0 0)) = Y at *; obtain ⟨v0, v1, v2, v3, v4⟩ := Yh nN; have nY := (gN.block _ (Z6 n5) (by nofun)).trans n5; have GY := both G5 gN; have gF := ZQ (both g0 GY) (Nat.le_refl _) (#[.int .i64 1, .int .i64 m, .string ⟨#[]⟩, .slice none 0 0]); have hR : Hid (Pz M sb fv tv main fuel st (.slice oa st.out.length oc) (Yq n (l.map ZW)) V (.returned (.agg (#[.int .i64 1, .int .i64 m, .string ⟨#[]⟩, .slice none 0 0]))) (Y.setRow V.heap.size (#[.int .i64 1, .int .i64 m, .string ⟨#[]⟩, .slice none 0 0]))) := Z9 ⟨_, _, rfl, by rw [Hq2.out]; exact hdef, Wp _ _ _ _ _, by rw [Hq2.out]; exact HS.out.free gF, Em.free gF⟩; clear gN nN GY G5 g5 hr0 HG gF; go_wp2_with (refine Zc rfl 94 _ _ rfl V.heap.size (#[.int .i64 1, .int .i64 m, .string ⟨#[]⟩, .slice none 0 0]) rfl rfl 94 Zf nY YX rfl (ZO _ rfl) ?_); exact Y4 (YC rfl _ _ V.heap.size 94 _ (0, 0) _ rfl (Zd _ _ _ _ _ _ nY) Tryz.underlying94 rfl YX) rfl hR.out
        | txt t =>
          subst hP; have Hq2 : Hid (Xk st (Yq n (l.map ZW)) = (.mk 2 0 t [], st)) := Z9 (by rw [Hq1.out]; rfl); have hdef : ZW (.mk 2 0 t (.slice none 0 0) []) = .mk 2 0 t [] := by rw [Y2, stripL]
          go_upto_region 21 with (refine Zc rfl 43 _ _ rfl w5.heap.size (ZN 2 0 t (.slice none 0 0)) rfl rfl 43 _ (Zn w5 _) YT rfl (ZO _ rfl) ?_); have gN := ZQ (Z8 w5 (.cells (ZN 0 0 ⟨#[]⟩ (.slice none 0 0)) 43)) (Nat.le_refl _) (ZN 2 0 t (.slice none 0 0)); have nN := Zd _ _ _ (ZN 2 0 t (.slice none 0 0)) _ _ (Zn w5 (.cells (ZN 0 0 ⟨#[]⟩ (.slice none 0 0)) 43)); change Code.wp _ _ _ _ ((w5.alloc (.cells (ZN 0 0 ⟨#[]⟩ (.slice none 0 0)) 43)).setRow w5.heap.size (ZN 2 0 t (.slice none 0 0))); generalize (w5.alloc (.cells (ZN 0 0 ⟨#[]⟩ (.slice none 0 0)) 43)).setRow w5.heap.size (ZN 2 0 t (.slice none 0 0)) = Y at *; obtain ⟨v0, v1, v2, v3, v4⟩ := Yh nN; have nY := (gN.block _ (Z6 n5) (by nofun)).trans n5; have GY := both G5 gN; have gF := ZQ (both g0 GY) (Nat.le_refl _) (#[.int .i64 2, .int .i64 0, .string t, .slice none 0 0]); have hR : Hid (Pz M sb fv tv main fuel st (.slice oa st.out.length oc) (Yq n (l.map ZW)) V (.returned (.agg (#[.int .i64 2, .int .i64 0, .string t, .slice none 0 0]))) (Y.setRow V.heap.size (#[.int .i64 2, .int .i64 0, .string t, .slice none 0 0]))) := Z9 ⟨_, _, rfl, by rw [Hq2.out]; exact hdef, Wp _ _ _ _ _, by rw [Hq2.out]; exact HS.out.free gF, Em.free gF⟩; clear gN nN GY G5 g5 hr0 HG gF; go_wp2_with (refine Zc rfl 94 _ _ rfl V.heap.size (#[.int .i64 2, .int .i64 0, .string t, .slice none 0 0]) rfl rfl 94 Zf nY YX rfl (ZO _ rfl) ?_); exact Y4 (YC rfl _ _ V.heap.size 94 _ (0, 0) _ rfl (Zd _ _ _ _ _ _ nY) Tryz.underlying94 rfl YX) rfl hR.out
        | bool b =>
          obtain ⟨q, c, rfl, hcq⟩ := hP; have hcq : Hid (w5.cell? ⟨q, 2, none⟩ = some (.string (if b then ⟨#[84, 114, 117, 101]⟩ else ⟨#[70, 97, 108, 115, 101]⟩))) := Z9 hcq; cases b
          ·have Hq2 : Hid (Xk st (Yq n (l.map ZW)) = (.mk 4 0 ⟨#[]⟩ [.mk 3 0 ⟨#[]⟩ []], st)) := Z9 (by rw [Hq1.out]; rfl)
           have uj : w5.cell? ⟨q, 2, none⟩ = some (.string ⟨#[70, 97, 108, 115, 101]⟩) := hcq.out; go_upto_region 21 with (refine Zc rfl 43 _ _ rfl w5.heap.size (ZN 5 0 ⟨#[]⟩ (.slice (some ⟨q, 0, none⟩) 1 c)) rfl rfl 43 _ (Zn w5 _) YT rfl (ZO _ rfl) ?_); have gN := ZQ (Z8 w5 (.cells (ZN 0 0 ⟨#[]⟩ (.slice none 0 0)) 43)) (Nat.le_refl _) (ZN 5 0 ⟨#[]⟩ (.slice (some ⟨q, 0, none⟩) 1 c)); have nN := Zd _ _ _ (ZN 5 0 ⟨#[]⟩ (.slice (some ⟨q, 0, none⟩) 1 c)) _ _ (Zn w5 (.cells (ZN 0 0 ⟨#[]⟩ (.slice none 0 0)) 43)); change Code.wp _ _ _ _ ((w5.alloc (.cells (ZN 0 0 ⟨#[]⟩ (.slice none 0 0)) 43)).setRow w5.heap.size (ZN 5 0 ⟨#[]⟩ (.slice (some ⟨q, 0, none⟩) 1 c))); generalize (w5.alloc (.cells (ZN 0 0 ⟨#[]⟩ (.slice none 0 0)) 43)).setRow w5.heap.size (ZN 5 0 ⟨#[]⟩ (.slice (some ⟨q, 0, none⟩) 1 c)) = Y at *; obtain ⟨v0, v1, v2, v3, v4⟩ := Yh nN; have hcY := cell_grown uj gN; have nY := (gN.block _ (Z6 n5) (by nofun)).trans n5; have GY := Z9 (both G5 gN); clear gN nN G5 g5 hr0 HG uj hcq; go_wp2_with (first | (go_at_call 92; refine (MZ _ _).mono ?_; rintro e w6 ⟨p, rfl, g6, hp, hu⟩; have n6 := (g6.block _ (Z6 nY) (by nofun)).trans nY; simp only [if_true, Bool.false_eq_true, if_false]) | (refine Zc rfl 94 _ _ rfl V.heap.size #[.int .i64 4, .int .i64 0, .string ⟨#[]⟩, .slice (some ⟨p, 0, none⟩) 1 1] rfl rfl 94 Zf n6 YX rfl (ZO _ rfl) ?_)); refine Y4 (YC rfl _ _ V.heap.size 94 _ (0, 0) _ rfl (Zd _ _ _ _ _ _ n6) Tryz.underlying94 rfl YX) rfl ?_; have gF := ZQ (both g0 (both GY.out g6)) (Nat.le_refl _) #[.int .i64 4, .int .i64 0, .string ⟨#[]⟩, .slice (some ⟨p, 0, none⟩) 1 1]; have hzY := Z6 nY; exact ⟨.mk 4 0 ⟨#[]⟩ (.slice (some ⟨p, 0, none⟩) 1 1) [.mk 3 0 ⟨#[]⟩ (.slice none 0 0) []], _, rfl, by rw [Hq2.out, Y2, stripL, stripL, Y2, stripL], JG (by have := GY.out.size; simp at this; omega) HM2.out (by rw [WM _ _ _ _ (by omega)]; exact hu), by rw [Hq2.out]; exact HS.out.free gF, Em.free gF⟩
          ·have Hq2 : Hid (Xk st (Yq n (l.map ZW)) = (.mk 4 1 ⟨#[]⟩ [.mk 3 0 ⟨#[]⟩ []], st)) := Z9 (by rw [Hq1.out]; rfl)
           have uj : w5.cell? ⟨q, 2, none⟩ = some (.string ⟨#[84, 114, 117, 101]⟩) := hcq.out; go_upto_region 21 with (refine Zc rfl 43 _ _ rfl w5.heap.size (ZN 5 0 ⟨#[]⟩ (.slice (some ⟨q, 0, none⟩) 1 c)) rfl rfl 43 _ (Zn w5 _) YT rfl (ZO _ rfl) ?_); have gN := ZQ (Z8 w5 (.cells (ZN 0 0 ⟨#[]⟩ (.slice none 0 0)) 43)) (Nat.le_refl _) (ZN 5 0 ⟨#[]⟩ (.slice (some ⟨q, 0, none⟩) 1 c)); have nN := Zd _ _ _ (ZN 5 0 ⟨#[]⟩ (.slice (some ⟨q, 0, none⟩) 1 c)) _ _ (Zn w5 (.cells (ZN 0 0 ⟨#[]⟩ (.slice none 0 0)) 43)); change Code.wp _ _ _ _ ((w5.alloc (.cells (ZN 0 0 ⟨#[]⟩ (.slice none 0 0)) 43)).setRow w5.heap.size (ZN 5 0 ⟨#[]⟩ (.slice (some ⟨q, 0, none⟩) 1 c))); generalize (w5.alloc (.cells (ZN 0 0 ⟨#[]⟩ (.slice none 0 0)) 43)).setRow w5.heap.size (ZN 5 0 ⟨#[]⟩ (.slice (some ⟨q, 0, none⟩) 1 c)) = Y at *; obtain ⟨v0, v1, v2, v3, v4⟩ := Yh nN; have hcY := cell_grown uj gN; have nY := (gN.block _ (Z6 n5) (by nofun)).trans n5; have GY := Z9 (both G5 gN); clear gN nN G5 g5 hr0 HG uj hcq; go_wp2_with (first | (go_at_call 92; refine (MZ _ _).mono ?_; rintro e w6 ⟨p, rfl, g6, hp, hu⟩; have n6 := (g6.block _ (Z6 nY) (by nofun)).trans nY; simp only [if_true, Bool.false_eq_true, if_false]) | (refine Zc rfl 94 _ _ rfl V.heap.size #[.int .i64 4, .int .i64 1, .string ⟨#[]⟩, .slice (some ⟨p, 0, none⟩) 1 1] rfl rfl 94 Zf n6 YX rfl (ZO _ rfl) ?_)); refine Y4 (YC rfl _ _ V.heap.size 94 _ (0, 0) _ rfl (Zd _ _ _ _ _ _ n6) Tryz.underlying94 rfl YX) rfl ?_; have gF := ZQ (both g0 (both GY.out g6)) (Nat.le_refl _) #[.int .i64 4, .int .i64 1, .string ⟨#[]⟩, .slice (some ⟨p, 0, none⟩) 1 1]; have hzY := Z6 nY; exact ⟨.mk 4 1 ⟨#[]⟩ (.slice (some ⟨p, 0, none⟩) 1 1) [.mk 3 0 ⟨#[]⟩ (.slice none 0 0) []], _, rfl, by rw [Hq2.out, Y2, stripL, stripL, Y2, stripL], JG (by have := GY.out.size; simp at this; omega) HM2.out (by rw [WM _ _ _ _ (by omega)]; exact hu), by rw [Hq2.out]; exact HS.out.free gF, Em.free gF⟩
end Go.Proofs.YtbcfdebdikgijaaGreatDoor
