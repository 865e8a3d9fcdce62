/- Part of the proof; its texts: Ex10 Ex11 Ex12. -/
import Derived.Test.YtbcfdebdikgijaaGreatDoorS5
import Derived.Test.YtbcfdebdikgijaaGreatDoorS18
set_option maxRecDepth 100000
set_option linter.unusedVariables false
set_option linter.unusedSimpArgs false
set_option maxHeartbeats 4000000
namespace Go.Proofs.YtbcfdebdikgijaaGreatDoor
open Go Go.RowKit
def ZN (op n : Int) (s : ByteArray) (l : Value) : Array Value := #[.int .i64 op, .int .i64 n, .string s, .slice none 0 0, l]
theorem YT : (Tryz.prog.info? 43).map (·.size) = some 5 := by kernel_rfl
theorem Vz (op n left depth : Int) (s : ByteArray) (w : World) (h7 : op ≠ 7) (hl : 0 < left) (hl2 : left <= 20000) (hd : 0 < depth) (hd2 : depth <= 400) :
 Calls Tryz.prog 111 #[.agg (ZB op n s (.slice none 0 0)), .int .i64 left, .int .i64 depth] w fun e w' => e = .returned (.tuple #[.agg (ZN op n s (.slice none 0 0)), .int .i64 (left - 1)]) /\ w.grownBy w' none := by
 have g0 := Z8 w (.cells (ZB op n s (.slice none 0 0)) 176)
 have n0 := Zn w (.cells (ZB op n s (.slice none 0 0)) 176)
 have e0 : (w.alloc (.cells (ZB op n s (.slice none 0 0)) 176)).heap.size = w.heap.size + 1 := by simp
 have w1 : IntKind.i64.wrap (left - 1) = left - 1 := YJ _ (by omega) (by omega)
 go_in
 go_upto_region 1 with fail
 change Code.wp _ _ _ _ ((w.alloc (.cells (ZB op n s (.slice none 0 0)) 176)).alloc (.cells (ZN 0 0 ⟨#[]⟩ (.slice none 0 0)) 43))
 generalize w.alloc (.cells (ZB op n s (.slice none 0 0)) 176) = W at *
 have g1 := Z8 W (.cells (ZN 0 0 ⟨#[]⟩ (.slice none 0 0)) 43)
 have n1 := ZF e0 (.cells (ZN 0 0 ⟨#[]⟩ (.slice none 0 0)) 43)
 have e1 : (W.alloc (.cells (ZN 0 0 ⟨#[]⟩ (.slice none 0 0)) 43)).heap.size = w.heap.size + 1 + 1 := by simp [e0]
 generalize W.alloc (.cells (ZN 0 0 ⟨#[]⟩ (.slice none 0 0)) 43) = A at *
 have n2 := (g1.block _ (Z6 n0) (by nofun)).trans n0
 have c0 := (Zk _ _ 0 _ _ _ n2).trans (show _ = some (Value.int .i64 op) from rfl)
 have c1 := (Zk _ _ 1 _ _ _ n2).trans (show _ = some (Value.int .i64 n) from rfl)
 have c2 := (Zk _ _ 2 _ _ _ n2).trans (show _ = some (Value.string s) from rfl)
 have c3 := (Zk _ _ 3 _ _ _ n2).trans (show _ = some (Value.slice none 0 0) from rfl)
 have c4 := (Zk _ _ 4 _ _ _ n2).trans (show _ = some (Value.slice none 0 0) from rfl)
 have gg := both g0 g1
 go_wp2_with fail
 refine XL 1 ?_
 rw [Y3]
 go_wp2_with (refine Zc rfl 43 _ _ rfl (w.heap.size + 1) (ZN op n s (.slice none 0 0)) rfl rfl 43 _ (((Z8 A _).block _ (Z6 n1) (by nofun)).trans n1) YT rfl (ZO _ rfl) ?_)
 have ga := both gg (Z8 A (.cells (ZN op n s (.slice none 0 0)) 43))
 have q2 := Zd _ _ _ (ZN op n s (.slice none 0 0)) _ _ (((Z8 A (.cells (ZN op n s (.slice none 0 0)) 43)).block _ (Z6 n1) (by nofun)).trans n1)
 exact Y4 (X4 rfl _ _ (w.heap.size + 1) 43 _ (0, 0) _ rfl q2 Tryz.underlying43 YT) rfl ⟨rfl, ZQ ga (by omega) _⟩
theorem Ou : (Tryz.prog.info? 43).map (fun i => (i.zero, i.size, i.bytes)) = some (some (.agg #[.int .i64 0, .int .i64 0, .string ⟨#[]⟩, .slice none 0 0, .slice none 0 0]), 5, 80) := by kernel_rfl
theorem YQ {o : Option TypeInfo} {z : Value} {s b : Nat} (h : o.map (fun i => (i.zero, i.size, i.bytes)) = some (some z, s, b)) : ∃ i, o = some i /\ i.zero = some z /\ i.size = s /\ i.bytes = b := by
 cases o with
 | none => simp at h
 | some i => simp at h; exact ⟨i, rfl, h.1, h.2.1, h.2.2⟩
theorem U2 {a b c : World} {k : Nat} (h : a.grownBy b none) (g : b.grownBy c (some k)) (hk : a.heap.size <= k) : a.grownBy c none :=
 ⟨g.os.trans h.os, g.tape.trans h.tape, g.output.trans h.output, Nat.le_trans h.size g.size, fun q hq _ => (g.block q (Nat.lt_of_lt_of_le hq h.size) (fun e => by have := Option.some.inj e; omega)).trans (h.block q hq (by nofun))⟩
theorem P5 (op n left depth l2 op' n' : Int) (s s' : ByteArray) (lv : Value) (cb : Nat) (ch : Array Value) (w : World) (h7 : op ≠ 7) (hl : 0 < left) (hl2 : left <= 20000) (hd : 0 < depth) (hd2 : depth <= 400)
 (hcb : w.heap[cb]? = some (.cells ch 176 (0, 0))) (hch : ch.size = 25) (hll : 0 <= l2)
 (HC : ∀ wx, w.grownBy wx none -> Calls Tryz.prog 111 #[.agg ch, .int .i64 (left - 1), .int .i64 (depth - 1)] wx fun e w' => (∃ al ll cl, e = .returned (.tuple #[.agg #[.int .i64 op', .int .i64 n', .string s', .slice none 0 0, .slice al ll cl], .int .i64 l2])) /\ wx.grownBy w' none) :
 Calls Tryz.prog 111 #[.agg (ZB op n s (.slice (some ⟨cb, 0, none⟩) 1 1)), .int .i64 left, .int .i64 depth] w fun e w' => ∃ q c, e = .returned (.tuple #[.agg (ZN op n s (.slice (some ⟨q, 0, none⟩) 1 c)), .int .i64 l2]) /\ w.grownBy w' none /\ w'.cell? ⟨q, 2, none⟩ = some (.string s') /\ w.heap.size <= q := by
 have HC' := Z9 HC
 clear HC
 have g0 := Z8 w (.cells (ZB op n s (.slice (some ⟨cb, 0, none⟩) 1 1)) 176)
 have n0 := Zn w (.cells (ZB op n s (.slice (some ⟨cb, 0, none⟩) 1 1)) 176)
 have e0 : (w.alloc (.cells (ZB op n s (.slice (some ⟨cb, 0, none⟩) 1 1)) 176)).heap.size = w.heap.size + 1 := by simp
 have w1 : IntKind.i64.wrap (left - 1) = left - 1 := YJ _ (by omega) (by omega)
 have w2 : IntKind.i64.wrap (depth - 1) = depth - 1 := YJ _ (by omega) (by omega)
 obtain ⟨ii0, hii, TI, TH, TG⟩ := YQ Ou
 go_in
 go_upto_region 1 with fail
 change Code.wp _ _ _ _ ((w.alloc (.cells (ZB op n s (.slice (some ⟨cb, 0, none⟩) 1 1)) 176)).alloc (.cells (ZN 0 0 ⟨#[]⟩ (.slice none 0 0)) 43))
 generalize w.alloc (.cells (ZB op n s (.slice (some ⟨cb, 0, none⟩) 1 1)) 176) = W at *
 have g1 := Z8 W (.cells (ZN 0 0 ⟨#[]⟩ (.slice none 0 0)) 43)
 have n1 := ZF e0 (.cells (ZN 0 0 ⟨#[]⟩ (.slice none 0 0)) 43)
 have e1 : (W.alloc (.cells (ZN 0 0 ⟨#[]⟩ (.slice none 0 0)) 43)).heap.size = w.heap.size + 1 + 1 := by simp [e0]
 generalize W.alloc (.cells (ZN 0 0 ⟨#[]⟩ (.slice none 0 0)) 43) = A at *
 have n2 := (g1.block _ (Z6 n0) (by nofun)).trans n0
 have c0 := (Zk _ _ 0 _ _ _ n2).trans (show _ = some (Value.int .i64 op) from rfl)
 have c1 := (Zk _ _ 1 _ _ _ n2).trans (show _ = some (Value.int .i64 n) from rfl)
 have c2 := (Zk _ _ 2 _ _ _ n2).trans (show _ = some (Value.string s) from rfl)
 have c3 := (Zk _ _ 3 _ _ _ n2).trans (show _ = some (Value.slice none 0 0) from rfl)
 have c4 := (Zk _ _ 4 _ _ _ n2).trans (show _ = some (Value.slice (some ⟨cb, 0, none⟩) 1 1) from rfl)
 have gg := both g0 g1
 have k1 := (gg.block _ (Z6 hcb) (by nofun)).trans hcb
 go_upto_region 7 with fail
 have n3 := ZF e1 (.cells (ZN op n s (.slice none 0 0)) 43)
 have e3 : (A.alloc (.cells (ZN op n s (.slice none 0 0)) 43)).heap.size = w.heap.size + 1 + 1 + 1 := by simp [e1]
 have g3 := Z8 A (.cells (ZN op n s (.slice none 0 0)) 43)
 change Code.wp _ _ _ _ (A.alloc (.cells (ZN op n s (.slice none 0 0)) 43))
 generalize A.alloc (.cells (ZN op n s (.slice none 0 0)) 43) = B at *
 have d4 := (Zk _ _ 4 _ _ _ ((g3.block _ (Z6 n2) (by nofun)).trans n2)).trans (show _ = some (Value.slice (some ⟨cb, 0, none⟩) 1 1) from rfl)
 have k3 := (g3.block _ (Z6 k1) (by nofun)).trans k1
 have n13 := (g3.block _ (Z6 n1) (by nofun)).trans n1
 have n23 := (g3.block _ (Z6 n2) (by nofun)).trans n2
 have hi : (Tryz.prog.info? 176).map (·.size) = some ch.size := by rw [hch]; exact Zl
 clear c0 c1 c2 c3 c4 n0 k1
 go_wp2_with fail
 refine XL 2 ?_
 rw [Y3]
 go_upto_region 11 with (first
  | (refine VF rfl 176 _ rfl cb rfl 176 ch (0, 0) _ k3 Tryz.underlying176 rfl hi ?_)
  | (go_at_call 111; refine (HC'.out _ (both gg g3)).mono ?_; rintro e w4 ⟨⟨al, ll, cl, rfl⟩, g4⟩; clear d4))
 have n5 := Zn w4 (.cells #[.int .i64 op', .int .i64 n', .string s', .slice none 0 0, .slice al ll cl] 43)
 have g5 := both g4 (Z8 w4 (.cells #[.int .i64 op', .int .i64 n', .string s', .slice none 0 0, .slice al ll cl] 43))
 have z5 := (Z6 n3)
 have z6 := g4.size
 generalize w4.alloc (.cells #[.int .i64 op', .int .i64 n', .string s', .slice none 0 0, .slice al ll cl] 43) = D at *
 have m1 := (g5.block _ (Z6 n13) (by nofun)).trans n13
 have m2 := (g5.block _ (Z6 n23) (by nofun)).trans n23
 have m3 := (g5.block _ (Z6 n3) (by nofun)).trans n3
 obtain ⟨q0, q1, q2, q3, q4⟩ := Yh n5
 have p1 := (Zk _ _ 4 _ _ _ m2).trans (show _ = some (Value.slice (some ⟨cb, 0, none⟩) 1 1) from rfl)
 have p4 := (Zk _ _ 4 _ _ _ m3).trans (show _ = some (Value.slice none 0 0) from rfl)
 have p5 := Lib.frozen_of_heap m3 4
 have gD := both (both gg g3) g5
 have sD := Z6 n5
 clear n23 n13 n3 g5 g4 z6 HC' k3 hi
 go_upto_region 13 with fail
 go_wp2_with (at_builtin; refine wpList_append_lies _ rfl _ _ 41 rfl D.heap.size 43 ii0 (.agg #[.int .i64 0, .int .i64 0, .string ⟨#[]⟩, .slice none 0 0, .slice none 0 0]) 5 80 Tryz.underlying41 hii TI TH TG rfl (by decide) (.slice none 0 0) 0 [] rfl ⟨rfl, .inl ⟨rfl, rfl⟩⟩ ⟨D.heap.size, 0, none⟩ 1 1 [.int .i64 op', .int .i64 n', .string s', .slice none 0 0, .slice al ll cl] rfl rfl ?c1 ?c2 (by decide) ?c3 ?c4 ?c5 _ rfl ?_)
 case c1 => exact World.news_of_block (cs := #[.int .i64 op', .int .i64 n', .string s', .slice none 0 0, .slice al ll cl]) (ZV D _)
 case c2 => intro u hu; simp at hu; rcases hu with rfl | rfl | rfl | rfl | rfl <;> rfl
 case c3 => unfold maxLen; omega
 case c4 => omega
 case c5 => simp
 intro g cap w6 hown6 Y6 Sz Ot
 have g6 := both (Z8 D _) Y6
 have r1 := (g6.block _ (Z6 m1) (by nofun)).trans m1
 have r2 := (g6.block _ (Z6 m2) (by nofun)).trans m2
 have r3 := (g6.block _ (Z6 m3) (by nofun)).trans m3
 have x1 := (Zk _ _ 4 _ _ _ r2).trans (show _ = some (Value.slice (some ⟨cb, 0, none⟩) 1 1) from rfl)
 have x4 := (Zk _ _ 4 _ _ _ r3).trans (show _ = some (Value.slice none 0 0) from rfl)
 have x5 := Lib.frozen_of_heap r3 4
 clear p1 p4 p5 q0 q1 q2 q3 q4
 go_wp2_with fail
 have hgD := (Zw hown6 g rfl).1
 have zz := Z6 m3
 have hcg := (RN (i := 2) hown6 rfl).1
 have gs := Zv w6 (w.heap.size + 1 + 1) 4 (.slice (some ⟨g, 0, none⟩) 1 cap)
 have t8 : (w6.setCell ⟨w.heap.size + 1 + 1, 4, none⟩ (.slice (some ⟨g, 0, none⟩) 1 cap)).heap[w.heap.size + 1 + 1]? = some (.cells (ZN op n s (.slice (some ⟨g, 0, none⟩) 1 cap)) 43 (0, 0)) := ZL (i := 4) r3 (.slice (some ⟨g, 0, none⟩) 1 cap)
 have t1 := (gs.block _ (Z6 r1) (fun e => by have := Option.some.inj e; omega)).trans r1
 have t2 := (gs.block _ (Z6 r2) (fun e => by have := Option.some.inj e; omega)).trans r2
 have tg : (w6.setCell ⟨w.heap.size + 1 + 1, 4, none⟩ (.slice (some ⟨g, 0, none⟩) 1 cap)).heap[g]? = w6.heap[g]? := gs.block _ Ot (fun e => by have := Option.some.inj e; omega)
 have y1 := (Zk _ _ 4 _ _ _ t2).trans (show _ = some (Value.slice (some ⟨cb, 0, none⟩) 1 1) from rfl)
 clear x1 x4 x5
 rw [Y3]
 go_wp2_with (first
  | (refine VF rfl 43 _ rfl (w.heap.size + 1 + 1) rfl 43 _ (0, 0) _ t8 Tryz.underlying43 rfl YT ?_)
  | (refine Zc rfl 43 _ _ rfl (w.heap.size + 1) (ZN op n s (.slice (some ⟨g, 0, none⟩) 1 cap)) rfl rfl 43 _ t1 YT rfl (ZO _ rfl) ?_))
 have gE := ZQ (U2 (both gD g6) gs (by omega)) (Nat.le_succ _) (ZN op n s (.slice (some ⟨g, 0, none⟩) 1 cap))
 have q2 := Zd _ _ _ (ZN op n s (.slice (some ⟨g, 0, none⟩) 1 cap)) _ _ t1
 refine Y4 (X4 rfl _ _ (w.heap.size + 1) 43 _ (0, 0) _ rfl q2 Tryz.underlying43 YT) rfl ⟨g, cap, rfl, gE, ?_, by omega⟩
 rw [cell_setRow_other _ _ _ _ (show g ≠ w.heap.size + 1 by omega), <- hcg]
 unfold World.cell?
 rw [tg]
def Yc (P : Program) (ops : Array Oper) (S : World -> Prop) : List Nat -> Act -> Act -> Prop
 | [], a, b => a = b
 | i :: r, a, b => ∃ o d v, ops[i]? = some o /\ o.dst = some d /\ Region.wanted o (yielded ops a.tmps) = true /\ (∀ w, S w -> (execOp a.eval o).run P w = .ok (.value v) w) /\ Yc P ops S r (a.put (some d) v) b
def acy : Array Bool -> List Nat -> Array Bool
 | l, [] => l
 | l, i :: r => acy (l.setIfInBounds i true) r
def acw (md : Region.Mode) (ops : Array Oper) : Array Bool -> List Nat -> Bool
 | _, [] => true
 | l, i :: r => Region.free md ops l i && ((Region.ready md ops l).contains i && acw md ops (l.setIfInBounds i true) r)
theorem yc {P : Program} {ops : Array Oper} {S : World -> Prop} {i d : Nat} {r : List Nat} {a b : Act} {o : Oper} {v : Value} (ho : ops[i]? = some o) (hd : o.dst = some d) (hw : Region.wanted o (yielded ops a.tmps) = true) (hy : ∀ w, S w -> (execOp a.eval o).run P w = .ok (.value v) w) (h : Yc P ops S r (a.put (some d) v) b) : Yc P ops S (i :: r) a b :=
 ⟨o, d, v, ho, hd, hw, hy, h⟩
theorem tks {P : Program} {ops : Array Oper} {Q : Exit -> Act -> World -> Prop} {md : Region.Mode} {S : World -> Prop} {k : Nat} {w : World} {b : Act} (hs : Region.noSelect ops = true) (hQ : ∀ d v c a w, Q (.panic c) (a.put (some d) v) w -> Q (.panic c) a w) (hS : S w) : ∀ (m : Nat) (l : List Nat) {listed : Array Bool} {a : Act}, (acw md ops listed l && l.length == m) = true ->
 Yc P ops S l a b -> wpAnyH P md ops Q S k (acy listed l) b w -> wpAnyH P md ops Q S (k + m) listed a w
 | m, [], listed, a, hc, hy, h => by
   obtain rfl : m = 0 := by simp [acw] at hc; omega
   cases hy; exact h
 | m, i :: r, listed, a, hc, hy, h => by
   obtain ⟨o, d, v, ho, hd, hw, hy, hr⟩ := hy; simp only [acw, Bool.and_eq_true, beq_iff_eq, List.length_cons] at hc; obtain ⟨⟨hf, hre, hc⟩, rfl⟩ := hc; refine Zp i d v ho hd hs hf hre (fun c a w h => hQ d v c a w (by rw [<- hd]; exact h)) (Or.inl ⟨hw, hy⟩) hS (tks hs hQ hS r.length r (by rw [hc]; simp) hr h)
theorem rd1 {P : Program} {ops : Array Oper} {Q : Exit -> Act -> World -> Prop} {md : Region.Mode} {S : World -> Prop} {fuel : Nat} {listed : Array Bool} {a : Act} {w : World} {o : Oper} (i : Nat) (hr : Region.ready md ops listed = [i]) (ho : ops[i]? = some o)
 (h : ∀ K' : Act -> World -> Prop, Shut (∀ a w, S w -> (S w -> wpAnyH P md ops Q S fuel (listed.setIfInBounds i true) a w) -> K' a w) -> if Region.wanted o (yielded ops a.tmps) = true then Oper.wp P o a w K' Q else K' (a.put o.dst undef) w) : wpAnyH P md ops Q S (fuel + 1) listed a w :=
 wpAnyH_ready hr (by simp) (AllReadyH.cons ho h AllReadyH.nil)
theorem YD {w w' : World} {b o : Nat} {cs : List Value} (h : w.rangeAt b o cs) (g : w.grownBy w' none) : w'.rangeAt b o cs := fun j v hv => by
 have h1 := h j v hv
 have h2 := World.block_lt_of_cell? w _ h1
 unfold World.cell? at h1 ⊢
 rw [g.block _ h2 (by nofun)]
 exact h1
def Xr (op n : Int) (s : ByteArray) : List Value := [.int .i64 op, .int .i64 n, .string s, .slice none 0 0, .slice none 0 0]
def uw (ok : Bool) (r : R15) (w : World) (e : Ending) (w' : World) : Prop :=
 w.grownBy w' none /\ if ok = false then e = .returned (.tuple #[.agg (ZN 0 0 ⟨#[]⟩ (.slice none 0 0)), .int .i64 0, .int .i64 1]) else
  match r with
  | .fail c => e = .returned (.tuple #[.agg (ZN 0 0 ⟨#[]⟩ (.slice none 0 0)), .int .i64 c, .int .i64 0])
  | .num n => e = .returned (.tuple #[.agg (ZN 1 n ⟨#[]⟩ (.slice none 0 0)), .int .i64 0, .int .i64 0])
  | .txt s => e = .returned (.tuple #[.agg (ZN 2 0 s (.slice none 0 0)), .int .i64 0, .int .i64 0])
  | .bool b => ∃ q c, e = .returned (.tuple #[.agg (ZN 5 0 ⟨#[]⟩ (.slice (some ⟨q, 0, none⟩) 1 c)), .int .i64 0, .int .i64 0]) /\ w'.cell? ⟨q, 2, none⟩ = some (.string (if b then ⟨#[84, 114, 117, 101]⟩ else ⟨#[70, 97, 108, 115, 101]⟩))
theorem Io {op n : Int} {s : ByteArray} (ho : op = 1 \/ op = 2) (h : XQ op n s = true) : (-4503599627370496 <= n /\ n <= 4503599627370496) /\ s.size <= 16384 := by
 unfold XQ at h
 rcases ho with rfl | rfl
 ·unfold OU at h
  rw [ZY rfl, Bool.and_eq_true, Bool.and_eq_true, decide_eq_true_iff, decide_eq_true_iff] at h; refine ⟨h.1, ?_⟩; have h2 : s.toList = [] := List.isEmpty_iff.1 h.2; have : s.toList.length = 0 := by rw [h2]; rfl
  rw [Go.ByteArray.toList_eq] at this; have hs : s.size = s.data.toList.length := by rw [Array.length_toList]; rfl
  omega
 ·unfold OT at h
  rw [Z7 (by decide), Bool.and_eq_true, decide_eq_true_iff, decide_eq_true_iff] at h; omega
theorem PD : (Tryz.prog.info? 176).map (fun i => (i.zero, i.size, i.bytes)) = some (some (.agg ZM), 25, 424) := by kernel_rfl
theorem Nw {fn : Func} {p u v : Tmp} {ty : TypeId} (h : fn.results = #[.cell p ty, .tmp u, .tmp v]) (tmps : Array Value) (P : Program) (w : World) :
 (results fn tmps).run P w =
   ((asAddr (tmps.getD p undef)).run P w).andThen fun a w₁ => ((loadVar ty a).run P w₁).andThen fun x w₂ => .ok (.tuple #[x, tmps.getD u undef, tmps.getD v undef]) w₂ := by
 simp only [results, h]
 simp [Sem.run_bind, Result.andThen]
theorem Yy {fn : Func} {p u v : Tmp} {ty : TypeId} {P : Program} (h : fn.results = #[.cell p ty, .tmp u, .tmp v]) (tmps : Array Value) (w : World) (g : Nat) (t : TypeId) (cs : Array Value) (fr : Nat × Nat) (fs : Array Field)
 (hp : tmps.getD p undef = .pointer (some ⟨g, 0, none⟩)) (hg : w.heap[g]? = some (.cells cs t fr))
 (hu : P.underlying ty = some (.struct fs)) (hi : (P.info? ty).map (·.size) = some cs.size) :
 (results fn tmps).run P w = .ok (.tuple #[.agg cs, tmps.getD u undef, tmps.getD v undef]) w := by
 have hp' : tmps[p]?.getD undef = .pointer (some ⟨g, 0, none⟩) := by simpa using hp
 rw [Nw h]
 simp [hp', asAddr, run_loadVar_row w g t ty cs fr (.struct fs) hg hu rfl hi, Result.andThen]
theorem cell_grown {w w' : World} {a : Addr} {v : Value} (h : w.cell? a = some v) (g : w.grownBy w' none) : w'.cell? a = some v := by
 have h2 := World.block_lt_of_cell? w _ h
 unfold World.cell? at h ⊢
 rw [g.block _ h2 (by nofun)]
 exact h
theorem QJ (b : Bool) (q r : Nat) (w : World) (hq : w.heap[q]? = some (.cells (ZB 4 0 (if b then ⟨#[84, 114, 117, 101]⟩ else ⟨#[70, 97, 108, 115, 101]⟩) (.slice (some ⟨r, 0, none⟩) 1 1)) 176 (0, 0)))
 (hr : w.heap[r]? = some (.cells (ZB 3 0 ⟨#[]⟩ (.slice none 0 0)) 176 (0, 0))) :
 Calls Tryz.prog 111 #[.agg (ZB 5 0 ⟨#[]⟩ (.slice (some ⟨q, 0, none⟩) 1 1)), .int .i64 20000, .int .i64 400] w fun e w' => ∃ p c, e = .returned (.tuple #[.agg (ZN 5 0 ⟨#[]⟩ (.slice (some ⟨p, 0, none⟩) 1 c)), .int .i64 19997]) /\ w.grownBy w' none /\ w'.cell? ⟨p, 2, none⟩ = some (.string (if b then ⟨#[84, 114, 117, 101]⟩ else ⟨#[70, 97, 108, 115, 101]⟩)) /\ w.heap.size <= p := by
 refine P5 5 0 20000 400 19997 4 0 ⟨#[]⟩ _ (.slice none 0 0) q _ w (by decide) (by decide) (by decide) (by decide) (by decide) hq rfl (by decide) ?_
 intro wx gx
 refine (P5 4 0 19999 399 19997 3 0 _ ⟨#[]⟩ (.slice none 0 0) r _ wx (by decide) (by decide) (by decide) (by decide) (by decide) ((gx.block _ (Z6 hr) (by nofun)).trans hr) rfl (by decide) ?_).mono ?_
 ·intro wy gy
  refine (Vz 3 0 19998 398 ⟨#[]⟩ wy (by decide) (by decide) (by decide) (by decide) (by decide)).mono ?_; rintro e w' ⟨rfl, g⟩; exact ⟨⟨_, _, _, rfl⟩, g⟩
 ·rintro e w' ⟨p, c, rfl, g, _⟩
  exact ⟨⟨_, _, _, rfl⟩, g⟩
theorem Co (rb cp : Nat) (n oa na : Int) (sa sh : ByteArray) (w : World) (ha : w.rangeAt rb 0 (Xr oa na sa)) (hc : 1 <= cp) (hn1 : 1 <= n) (hn2 : n <= 13) (hf : oa = Ye n) (har : 1 = WC n)
 (mI : -4503599627370496 <= na -> na <= 4503599627370496 -> Hid (∀ wx, Calls Tryz.prog 123 #[.int .i64 na] wx fun e w' => e = .returned (.string sh) /\ wx.grownBy w' none)) :
 Calls Tryz.prog 91 #[.int .i64 n, .slice (some ⟨rb, 0, none⟩) 1 cp] w (uw (XQ oa na sa) (Yo n na na sa sa sh) w) := by
 have ho : oa = 1 \/ oa = 2 := by
  unfold Ye at hf; split at hf <;> omega
 have HV : ∀ wx, Calls Tryz.prog 108 #[.agg (Xr oa na sa).toArray] wx fun e w' => e = .returned (.bool (XQ oa na sa)) /\ wx.grownBy w' none := fun wx => Vq oa na sa wx ho
 have HB : ∀ wx, Calls Tryz.prog 109 #[.agg (Xr oa na sa).toArray] wx fun e w' => e = .returned (.tuple #[.agg (ZB oa na sa (.slice none 0 0)), .bool true]) /\ wx.grownBy w' none := by
  intro wx; rcases ho with rfl | rfl
  ·exact LP na sa wx
  ·exact LK na sa wx
 have HN := fun h => Io (s := sa) (n := na) ho h
 have hb0 : rb < w.heap.size := World.block_lt_of_cell? w _ (ha 0 _ rfl)
 generalize XQ oa na sa = va at *
 have Hf := Z9 hf
 have fI := Z9 har
 clear hf har
 have g0 := Z8 w (.cells (ZN 0 0 ⟨#[]⟩ (.slice none 0 0)) 43)
 have n0 := Zn w (.cells (ZN 0 0 ⟨#[]⟩ (.slice none 0 0)) 43)
 have HF : ∀ g cap wx, wx.rangeAt g 0 (Yz oa na sa) -> Calls Tryz.prog 90 #[.int .i64 n, .slice (some ⟨g, 0, none⟩) 1 cap] wx fun e w' => e = .returned (.bool true) /\ wx = w' := by
  intro g cap wx hr; refine (JY g cap n oa wx (hr 0 _ rfl)).mono ?_; rintro e w' ⟨rfl, rfl⟩; refine ⟨?_, rfl⟩; rw [<- fI.out, <- Hf.out]; simp
 obtain ⟨ii0, hii, TI, TH, TG⟩ := YQ PD
 go_in
 go_upto_region 1 with fail
 change Code.wp _ _ _ _ (w.alloc (.cells (ZN 0 0 ⟨#[]⟩ (.slice none 0 0)) 43))
 generalize w.alloc (.cells (ZN 0 0 ⟨#[]⟩ (.slice none 0 0)) 43) = W at *
 have ra := YD ha g0
 go_wp2_with fail
 refine XL 2 ?_
 rw [Y3]
 cases va
 ·go_wp2_with (first
   | (refine wpList_load_mid rfl 43 _ rfl rb 0 rfl (Xr oa na sa) _ ra Tryz.underlying43 rfl YT ?_)
   | (go_at_call 108; refine (HV _).mono ?_; rintro e w1 ⟨rfl, g1⟩; have n1 := (g1.block _ (Z6 n0) (by nofun)).trans n0)
   | (refine Zc rfl 43 _ _ rfl w.heap.size (ZN 0 0 ⟨#[]⟩ (.slice none 0 0)) rfl rfl 43 _ n1 YT rfl (ZO _ rfl) ?_))
  have q1 := Zd _ _ _ (ZN 0 0 ⟨#[]⟩ (.slice none 0 0)) _ _ n1; exact Y4 (Yy (p := 4) (u := 5) (v := 6) rfl _ _ w.heap.size 43 _ (0, 0) _ rfl q1 Tryz.underlying43 YT) rfl ⟨ZQ (both g0 g1) (Nat.le_refl _) _, by rw [ZY rfl]; rfl⟩
 ·obtain ⟨hra, hsz⟩ := HN rfl
  have fH := mI hra.1 hra.2; clear HN mI; go_wp2_with (first
   | (refine wpList_load_mid rfl 43 _ rfl rb 0 rfl (Xr oa na sa) _ ra Tryz.underlying43 rfl YT ?_)
   | (go_at_call 108; refine (HV _).mono ?_; rintro e w1 ⟨rfl, g1⟩))
  have n1 := (g1.block _ (Z6 n0) (by nofun)).trans n0; have r1 := YD ra g1; have G1 := both g0 g1; clear ra n0 g1 g0 HV; rw [Y3]; go_wp2_with fail; refine XL 2 ?_; rw [Y3]; go_upto_region 13 with (first
   | (refine wpList_load_mid rfl 43 _ rfl rb 0 rfl (Xr oa na sa) _ r1 Tryz.underlying43 rfl YT ?_)
   | (go_at_call 109; refine (HB _).mono ?_; rintro e w2 ⟨rfl, g2⟩)
   | (refine Zc rfl 176 _ _ rfl w2.heap.size (ZB oa na sa (.slice none 0 0)) rfl rfl 176 _ (Zn w2 _) Zl rfl (ZO _ rfl) ?_))
  have n3 := Zd _ _ _ (ZB oa na sa (.slice none 0 0)) _ _ (Zn w2 (.cells ZM 176)); have g3 := ZQ (Z8 w2 (.cells ZM 176)) (Nat.le_refl _) (ZB oa na sa (.slice none 0 0)); have G2 := both G1 g2; have n2 := (g2.block _ (Z6 n1) (by nofun)).trans n1; change Code.wp _ _ _ _ ((w2.alloc (.cells ZM 176)).setRow w2.heap.size (ZB oa na sa (.slice none 0 0))); generalize (w2.alloc (.cells ZM 176)).setRow w2.heap.size (ZB oa na sa (.slice none 0 0)) = V at *; have G3 := both G2 g3; have n4 := (g3.block _ (Z6 n2) (by nofun)).trans n2; clear n1 n2 g2 g3 G1 G2 r1 HB; go_upto_region 15 with fail; go_wp2_with (first
   | (refine VF rfl 176 _ rfl w2.heap.size rfl 176 (ZB oa na sa (.slice none 0 0)) (0, 0) _ n3 Tryz.underlying176 rfl Zl ?_)
   | (refine Gv rfl _ rfl _ rfl rfl ?_)
   | (at_builtin; refine wpList_append_lies _ rfl _ _ 165 rfl w.heap.size 176 ii0 (.agg ZM) 25 424 Tryz.underlying165 hii TI TH TG rfl (by decide) (.slice none 0 0) 0 [] rfl ⟨rfl, .inl ⟨rfl, rfl⟩⟩ ⟨V.heap.size, 0, none⟩ 1 1 (Yz oa na sa) rfl rfl ?c1 ?c2 (by decide) ?c3 ?c4 ?c5 _ rfl ?_))
  case c1 => exact World.news_of_block (cs := ZB oa na sa (.slice none 0 0)) (ZV V _)
  case c2 => exact List.all_eq_true.1 (show (Yz oa na sa).all (·.oneCell') = true from rfl)
  case c3 => unfold maxLen; omega
  case c4 => omega
  case c5 => simp; have := G3.size; omega
  intro g cap w4 hown hgrow hat Kv; have g4 := both (Z8 V _) hgrow; have G4 := both G3 g4; have n5 := (g4.block _ (Z6 n4) (by nofun)).trans n4; have rf : w4.rangeAt g 0 (Yz oa na sa) := fun j u hu => by
   have := hown.cells rfl j u hu; rw [Addr.add_mid] at this; exact this
  have hcap : 1 <= cap := by
   obtain ⟨_, h | ⟨g', cap', cur, hv, _, _, h1, _⟩⟩ := hown
   ·cases h.1
   ·cases hv; omega
  clear n3 n4 g4 G3 hown hgrow hat; go_wp2_with fail; rw [Y3]; go_wp2_with (first
   | (go_at_call 90; refine (HF _ _ _ rf).mono ?_; rintro e w' ⟨rfl, rfl⟩))
  have hS := ZV w4 (.cells (st15 0 0) 195); have gS := Z8 w4 (.cells (st15 0 0) 195); have rg := YD rf gS; have HP := LQ w4.heap.size g cap 0 n oa na oa na sa sa sh _ hS rg (by rw [Nat.zero_mul]; exact rg) (Nat.lt_of_lt_of_le Kv gS.size) hcap (Or.inl rfl) (by omega) hra hra ⟨hsz, hsz⟩ fH; have n6 := (gS.block _ (Z6 n5) (by nofun)).trans n5; have GS := both G4 gS; have e4 : w4.heap.size < (w4.alloc (.cells (st15 0 0) 195)).heap.size := Z6 hS; have zw := G4.size; have z5 := Z6 n5; clear n5 G4 gS rf rg HF fH; generalize Yo n na na sa sa sh = r at *; change Calls _ _ _ (w4.alloc (.cells (st15 0 0) 195)) _; generalize w4.alloc (.cells (st15 0 0) 195) = X at *; refine HP.mono ?_; intro e w5 HA; cases r with
  | fail c =>
    obtain ⟨rfl, hS5, g5⟩ := HA; have n7 := (g5.block _ (Z6 n6) (fun e => by have := Option.some.inj e; omega)).trans n6; go_upto_region 20 with (refine Zc rfl 176 _ _ rfl w5.heap.size (ZM) rfl rfl 176 _ (Zn w5 _) Zl rfl (ZO _ rfl) ?_); have gN := ZQ (Z8 w5 (.cells ZM 176)) (Nat.le_refl _) (ZM); have nN := Zd _ _ _ (ZM) _ _ (Zn w5 (.cells ZM 176)); change Code.wp _ _ _ _ ((w5.alloc (.cells ZM 176)).setRow w5.heap.size (ZM)); generalize (w5.alloc (.cells ZM 176)).setRow w5.heap.size (ZM) = Y at *; have n8 := (gN.block _ (Z6 n7) (by nofun)).trans n7; have s8 := (gN.block _ (Z6 hS5) (by nofun)).trans hS5; have k3 := (Zk _ _ 3 _ _ _ s8).trans (show _ = some (Value.int .i64 2) from rfl); have k4 := (Zk _ _ 4 _ _ _ s8).trans (show _ = some (Value.int .i64 c) from rfl); have GY := both (U2 GS g5 (by omega)) gN; clear n6 n7 hS5 s8 g5 gN GS hS; go_wp2_with fail; refine XG (S := fun w9 => w9.cell? ⟨w4.heap.size, 4, none⟩ = some (.int .i64 c)) (by kernel_rfl) k4 (fun hHeld => ?_); refine tks (b := ?_) (by kernel_rfl) (fun _ _ _ _ _ h => h) (by assumption) 5 [0, 1, 2, 3, 4] (by kernel_rfl) ?_ ?_; rotate_left
    ·refine yc (v := .agg (ZN 0 0 ⟨#[]⟩ (.slice none 0 0))) rfl rfl (by rfl) (fun w9 hSw => by have hSw : w9.cell? ⟨w4.heap.size, 4, none⟩ = some (.int .i64 c) := hSw; go_simp; rfl) ?_
     simp only [Act.put, Zj, Zi, Zh]
     iterate 4 (refine yc (v := ?_) rfl rfl (by rfl) (fun w9 hSw => ?_) ?_; rotate_left; (focus go_simp; try rfl); simp only [Act.put, Zj, Zi, Zh])
     exact rfl
    have n9 : Y.drew.heap[w.heap.size]? = some (.cells (ZN 0 0 ⟨#[]⟩ (.slice none 0 0)) 43 (0, 0)) := n8; have k9 : (Y.drew.setRow w.heap.size (ZN 0 0 ⟨#[]⟩ (.slice none 0 0))).cell? ⟨w4.heap.size, 4, none⟩ = some (.int .i64 c) := (cell_setRow_other _ _ _ _ (show w4.heap.size ≠ w.heap.size by omega)).trans k4; refine Ro 5 (by kernel_rfl) (by rfl) (by rfl) (by rfl) 43 _ _ (by rfl) w.heap.size (ZN 0 0 ⟨#[]⟩ (.slice none 0 0)) (by rfl) (by rfl) 43 _ n9 YT rfl (ZO _ rfl) k9 ?_; refine tks (b := ?_) (by kernel_rfl) (fun _ _ _ _ _ h => h) k9 2 [6, 7] (by kernel_rfl) ?_ ?_; rotate_left
    ·iterate 2 (refine yc (v := ?_) rfl rfl (by rfl) (fun w9 hSw => ?_) ?_; rotate_left; (focus go_simp; try rfl); simp only [Act.put, Zj, Zi, Zh])
     exact rfl
    refine X3 (by kernel_rfl) ?_ _; go_wp2_with fail; have q9 := Zd _ _ _ (ZN 0 0 ⟨#[]⟩ (.slice none 0 0)) _ _ n9; exact Y4 (Yy (p := 4) (u := 5) (v := 6) rfl _ _ w.heap.size 43 _ (0, 0) _ rfl q9 Tryz.underlying43 YT) rfl ⟨ZQ (both GY (Z4 _)) (Nat.le_refl _) _, by rw [Z7 (by decide)]; rfl⟩
  | num m =>
    obtain ⟨rfl, g5⟩ := HA; have n7 := (g5.block _ (Z6 n6) (by nofun)).trans n6; have s7 := (g5.block _ (Z6 hS) (by nofun)).trans hS; go_upto_region 20 with (refine Zc rfl 176 _ _ rfl w5.heap.size (ZB 1 m ⟨#[]⟩ (.slice none 0 0)) rfl rfl 176 _ (Zn w5 _) Zl rfl (ZO _ rfl) ?_); have gN := ZQ (Z8 w5 (.cells ZM 176)) (Nat.le_refl _) (ZB 1 m ⟨#[]⟩ (.slice none 0 0)); have nN := Zd _ _ _ (ZB 1 m ⟨#[]⟩ (.slice none 0 0)) _ _ (Zn w5 (.cells ZM 176)); change Code.wp _ _ _ _ ((w5.alloc (.cells ZM 176)).setRow w5.heap.size (ZB 1 m ⟨#[]⟩ (.slice none 0 0))); generalize (w5.alloc (.cells ZM 176)).setRow w5.heap.size (ZB 1 m ⟨#[]⟩ (.slice none 0 0)) = Y at *; have n8 := (gN.block _ (Z6 n7) (by nofun)).trans n7; have s8 := (gN.block _ (Z6 s7) (by nofun)).trans s7; have k3 := (Zk _ _ 3 _ _ _ s8).trans (show _ = some (Value.int .i64 0) from rfl); have GY := both (both GS g5) gN; have zY := Z6 n8; have HO := Vz 1 m 20000 400 ⟨#[]⟩ Y (by decide) (by decide) (by decide) (by decide) (by decide); clear n6 n7 hS s8 g5 gN GS s7; go_upto_region 22 with fail; go_upto_region 23 with (first
     | (refine VF rfl 176 _ rfl w5.heap.size rfl 176 (ZB 1 m ⟨#[]⟩ (.slice none 0 0)) (0, 0) _ nN Tryz.underlying176 rfl Zl ?_)
     | (go_at_call 111; refine HO.mono ?_; rintro e w6 ⟨rfl, g6⟩)
     | (refine Zc rfl 43 _ _ rfl w6.heap.size (ZN 1 m ⟨#[]⟩ (.slice none 0 0)) rfl rfl 43 _ (Zn w6 _) YT rfl (ZO _ rfl) ?_))
    have gM := ZQ (Z8 w6 (.cells (ZN 0 0 ⟨#[]⟩ (.slice none 0 0)) 43)) (Nat.le_refl _) (ZN 1 m ⟨#[]⟩ (.slice none 0 0)); have nM := Zd _ _ _ (ZN 1 m ⟨#[]⟩ (.slice none 0 0)) _ _ (Zn w6 (.cells (ZN 0 0 ⟨#[]⟩ (.slice none 0 0)) 43)); have n9 := (g6.block _ (Z6 n8) (by nofun)).trans n8; change Code.wp _ _ _ _ ((w6.alloc (.cells (ZN 0 0 ⟨#[]⟩ (.slice none 0 0)) 43)).setRow w6.heap.size (ZN 1 m ⟨#[]⟩ (.slice none 0 0))); generalize (w6.alloc (.cells (ZN 0 0 ⟨#[]⟩ (.slice none 0 0)) 43)).setRow w6.heap.size (ZN 1 m ⟨#[]⟩ (.slice none 0 0)) = U at *; have nU := (gM.block _ (Z6 n9) (by nofun)).trans n9; go_wp2_with (first
     | (refine VF rfl 43 _ rfl w6.heap.size rfl 43 (ZN 1 m ⟨#[]⟩ (.slice none 0 0)) (0, 0) _ nM Tryz.underlying43 rfl YT ?_)
     | (refine Zc rfl 43 _ _ rfl w.heap.size (ZN 1 m ⟨#[]⟩ (.slice none 0 0)) rfl rfl 43 _ nU YT rfl (ZO _ rfl) ?_))
    have q9 := Zd _ _ _ (ZN 1 m ⟨#[]⟩ (.slice none 0 0)) _ _ nU; refine Y4 (Yy (p := 4) (u := 5) (v := 6) rfl _ _ w.heap.size 43 _ (0, 0) _ rfl q9 Tryz.underlying43 YT) rfl ⟨ZQ (both (both GY g6) gM) (Nat.le_refl _) _, ?_⟩; rw [Z7 (by decide)]; rfl
  | txt t =>
    obtain ⟨rfl, g5⟩ := HA; have n7 := (g5.block _ (Z6 n6) (by nofun)).trans n6; have s7 := (g5.block _ (Z6 hS) (by nofun)).trans hS; go_upto_region 20 with (refine Zc rfl 176 _ _ rfl w5.heap.size (ZB 2 0 t (.slice none 0 0)) rfl rfl 176 _ (Zn w5 _) Zl rfl (ZO _ rfl) ?_); have gN := ZQ (Z8 w5 (.cells ZM 176)) (Nat.le_refl _) (ZB 2 0 t (.slice none 0 0)); have nN := Zd _ _ _ (ZB 2 0 t (.slice none 0 0)) _ _ (Zn w5 (.cells ZM 176)); change Code.wp _ _ _ _ ((w5.alloc (.cells ZM 176)).setRow w5.heap.size (ZB 2 0 t (.slice none 0 0))); generalize (w5.alloc (.cells ZM 176)).setRow w5.heap.size (ZB 2 0 t (.slice none 0 0)) = Y at *; have n8 := (gN.block _ (Z6 n7) (by nofun)).trans n7; have s8 := (gN.block _ (Z6 s7) (by nofun)).trans s7; have k3 := (Zk _ _ 3 _ _ _ s8).trans (show _ = some (Value.int .i64 0) from rfl); have GY := both (both GS g5) gN; have zY := Z6 n8; have HO := Vz 2 0 20000 400 t Y (by decide) (by decide) (by decide) (by decide) (by decide); clear n6 n7 hS s8 g5 gN GS s7; go_upto_region 22 with fail; go_upto_region 23 with (first
     | (refine VF rfl 176 _ rfl w5.heap.size rfl 176 (ZB 2 0 t (.slice none 0 0)) (0, 0) _ nN Tryz.underlying176 rfl Zl ?_)
     | (go_at_call 111; refine HO.mono ?_; rintro e w6 ⟨rfl, g6⟩)
     | (refine Zc rfl 43 _ _ rfl w6.heap.size (ZN 2 0 t (.slice none 0 0)) rfl rfl 43 _ (Zn w6 _) YT rfl (ZO _ rfl) ?_))
    have gM := ZQ (Z8 w6 (.cells (ZN 0 0 ⟨#[]⟩ (.slice none 0 0)) 43)) (Nat.le_refl _) (ZN 2 0 t (.slice none 0 0)); have nM := Zd _ _ _ (ZN 2 0 t (.slice none 0 0)) _ _ (Zn w6 (.cells (ZN 0 0 ⟨#[]⟩ (.slice none 0 0)) 43)); have n9 := (g6.block _ (Z6 n8) (by nofun)).trans n8; change Code.wp _ _ _ _ ((w6.alloc (.cells (ZN 0 0 ⟨#[]⟩ (.slice none 0 0)) 43)).setRow w6.heap.size (ZN 2 0 t (.slice none 0 0))); generalize (w6.alloc (.cells (ZN 0 0 ⟨#[]⟩ (.slice none 0 0)) 43)).setRow w6.heap.size (ZN 2 0 t (.slice none 0 0)) = U at *; have nU := (gM.block _ (Z6 n9) (by nofun)).trans n9; go_wp2_with (first
     | (refine VF rfl 43 _ rfl w6.heap.size rfl 43 (ZN 2 0 t (.slice none 0 0)) (0, 0) _ nM Tryz.underlying43 rfl YT ?_)
     | (refine Zc rfl 43 _ _ rfl w.heap.size (ZN 2 0 t (.slice none 0 0)) rfl rfl 43 _ nU YT rfl (ZO _ rfl) ?_))
    have q9 := Zd _ _ _ (ZN 2 0 t (.slice none 0 0)) _ _ nU; refine Y4 (Yy (p := 4) (u := 5) (v := 6) rfl _ _ w.heap.size 43 _ (0, 0) _ rfl q9 Tryz.underlying43 YT) rfl ⟨ZQ (both (both GY g6) gM) (Nat.le_refl _) _, ?_⟩; rw [Z7 (by decide)]; rfl
  | bool b =>
    obtain ⟨q, r, rfl, hq1, hr1, g5, hq, hr⟩ := HA; have n7 := (g5.block _ (Z6 n6) (by nofun)).trans n6; have s7 := (g5.block _ (Z6 hS) (by nofun)).trans hS; go_upto_region 20 with (refine Zc rfl 176 _ _ rfl w5.heap.size (ZB 5 0 ⟨#[]⟩ (.slice (some ⟨q, 0, none⟩) 1 1)) rfl rfl 176 _ (Zn w5 _) Zl rfl (ZO _ rfl) ?_); have gN := ZQ (Z8 w5 (.cells ZM 176)) (Nat.le_refl _) (ZB 5 0 ⟨#[]⟩ (.slice (some ⟨q, 0, none⟩) 1 1)); have nN := Zd _ _ _ (ZB 5 0 ⟨#[]⟩ (.slice (some ⟨q, 0, none⟩) 1 1)) _ _ (Zn w5 (.cells ZM 176)); change Code.wp _ _ _ _ ((w5.alloc (.cells ZM 176)).setRow w5.heap.size (ZB 5 0 ⟨#[]⟩ (.slice (some ⟨q, 0, none⟩) 1 1))); generalize (w5.alloc (.cells ZM 176)).setRow w5.heap.size (ZB 5 0 ⟨#[]⟩ (.slice (some ⟨q, 0, none⟩) 1 1)) = Y at *; have n8 := (gN.block _ (Z6 n7) (by nofun)).trans n7; have s8 := (gN.block _ (Z6 s7) (by nofun)).trans s7; have k3 := (Zk _ _ 3 _ _ _ s8).trans (show _ = some (Value.int .i64 0) from rfl); have GY := both (both GS g5) gN; have zY := Z6 n8; have hq8 := (gN.block _ (Z6 hq) (by nofun)).trans hq; have hr8 := (gN.block _ (Z6 hr) (by nofun)).trans hr; have HO := QJ b q r Y hq8 hr8; clear n6 n7 hS s8 g5 gN GS s7; go_upto_region 22 with fail; go_upto_region 23 with (first
     | (refine VF rfl 176 _ rfl w5.heap.size rfl 176 (ZB 5 0 ⟨#[]⟩ (.slice (some ⟨q, 0, none⟩) 1 1)) (0, 0) _ nN Tryz.underlying176 rfl Zl ?_)
     | (go_at_call 111; refine HO.mono ?_; rintro e w6 ⟨p, c, rfl, g6, hcp, hpl⟩)
     | (refine Zc rfl 43 _ _ rfl w6.heap.size (ZN 5 0 ⟨#[]⟩ (.slice (some ⟨p, 0, none⟩) 1 c)) rfl rfl 43 _ (Zn w6 _) YT rfl (ZO _ rfl) ?_))
    have gM := ZQ (Z8 w6 (.cells (ZN 0 0 ⟨#[]⟩ (.slice none 0 0)) 43)) (Nat.le_refl _) (ZN 5 0 ⟨#[]⟩ (.slice (some ⟨p, 0, none⟩) 1 c)); have nM := Zd _ _ _ (ZN 5 0 ⟨#[]⟩ (.slice (some ⟨p, 0, none⟩) 1 c)) _ _ (Zn w6 (.cells (ZN 0 0 ⟨#[]⟩ (.slice none 0 0)) 43)); have n9 := (g6.block _ (Z6 n8) (by nofun)).trans n8; change Code.wp _ _ _ _ ((w6.alloc (.cells (ZN 0 0 ⟨#[]⟩ (.slice none 0 0)) 43)).setRow w6.heap.size (ZN 5 0 ⟨#[]⟩ (.slice (some ⟨p, 0, none⟩) 1 c))); generalize (w6.alloc (.cells (ZN 0 0 ⟨#[]⟩ (.slice none 0 0)) 43)).setRow w6.heap.size (ZN 5 0 ⟨#[]⟩ (.slice (some ⟨p, 0, none⟩) 1 c)) = U at *; have nU := (gM.block _ (Z6 n9) (by nofun)).trans n9; go_wp2_with (first
     | (refine VF rfl 43 _ rfl w6.heap.size rfl 43 (ZN 5 0 ⟨#[]⟩ (.slice (some ⟨p, 0, none⟩) 1 c)) (0, 0) _ nM Tryz.underlying43 rfl YT ?_)
     | (refine Zc rfl 43 _ _ rfl w.heap.size (ZN 5 0 ⟨#[]⟩ (.slice (some ⟨p, 0, none⟩) 1 c)) rfl rfl 43 _ nU YT rfl (ZO _ rfl) ?_))
    have q9 := Zd _ _ _ (ZN 5 0 ⟨#[]⟩ (.slice (some ⟨p, 0, none⟩) 1 c)) _ _ nU; refine Y4 (Yy (p := 4) (u := 5) (v := 6) rfl _ _ w.heap.size 43 _ (0, 0) _ rfl q9 Tryz.underlying43 YT) rfl ⟨ZQ (both (both GY g6) gM) (Nat.le_refl _) _, ?_⟩; rw [Z7 (by decide)]; refine ⟨p, c, rfl, ?_⟩; have hp := World.block_lt_of_cell? w6 _ hcp; have hcp2 := cell_grown hcp gM; rw [cell_setRow_other _ _ _ _ (show p ≠ w.heap.size from fun e => ?_)]
    ·exact hcp2
    ·omega
theorem E8 (rb cp : Nat) (n oa na ob nb : Int) (sa sB sh : ByteArray) (w : World) (ha : w.rangeAt rb 0 (Xr oa na sa)) (hb : w.rangeAt rb 5 (Xr ob nb sB)) (hc : 2 <= cp) (hn1 : 1 <= n) (hn2 : n <= 13) (hf : oa = Ye n) (hg : ob = Ye n) (har : 2 = WC n)
 (hva : XQ oa na sa = false) :
 Calls Tryz.prog 91 #[.int .i64 n, .slice (some ⟨rb, 0, none⟩) 2 cp] w (uw false (Yo n na nb sa sB sh) w) := by
 have ho : oa = 1 \/ oa = 2 := by
  unfold Ye at hf; split at hf <;> omega
 have hp : ob = 1 \/ ob = 2 := by
  unfold Ye at hg; split at hg <;> omega
 have qh : ∀ wx, Calls Tryz.prog 108 #[.agg (Xr oa na sa).toArray] wx fun e w' => e = .returned (.bool (XQ oa na sa)) /\ wx.grownBy w' none := fun wx => Vq oa na sa wx ho
 rw [hva] at qh
 clear hva hp
 have Hf := Z9 hf
 have Hg := Z9 hg
 have fI := Z9 har
 clear hf hg har
 have g0 := Z8 w (.cells (ZN 0 0 ⟨#[]⟩ (.slice none 0 0)) 43)
 have n0 := Zn w (.cells (ZN 0 0 ⟨#[]⟩ (.slice none 0 0)) 43)
 go_in
 go_upto_region 1 with fail
 change Code.wp _ _ _ _ (w.alloc (.cells (ZN 0 0 ⟨#[]⟩ (.slice none 0 0)) 43))
 generalize w.alloc (.cells (ZN 0 0 ⟨#[]⟩ (.slice none 0 0)) 43) = W at *
 have ra := YD ha g0
 have fG := YD hb g0
 go_wp2_with fail
 refine XL 3 ?_
 rw [Y3]
 go_wp2_with (first
  | (refine wpList_load_mid rfl 43 _ rfl rb 0 rfl (Xr oa na sa) _ ra Tryz.underlying43 rfl YT ?_)
  | (go_at_call 108; refine (qh _).mono ?_; rintro e w1 ⟨rfl, g1⟩; have n1 := (g1.block _ (Z6 n0) (by nofun)).trans n0)
  | (refine Zc rfl 43 _ _ rfl w.heap.size (ZN 0 0 ⟨#[]⟩ (.slice none 0 0)) rfl rfl 43 _ n1 YT rfl (ZO _ rfl) ?_))
 have q1 := Zd _ _ _ (ZN 0 0 ⟨#[]⟩ (.slice none 0 0)) _ _ n1
 exact Y4 (Yy (p := 4) (u := 5) (v := 6) rfl _ _ w.heap.size 43 _ (0, 0) _ rfl q1 Tryz.underlying43 YT) rfl ⟨ZQ (both g0 g1) (Nat.le_refl _) _, by rw [ZY rfl]; rfl⟩
theorem E5 (rb cp : Nat) (n oa na ob nb : Int) (sa sB sh : ByteArray) (w : World) (ha : w.rangeAt rb 0 (Xr oa na sa)) (hb : w.rangeAt rb 5 (Xr ob nb sB)) (hc : 2 <= cp) (hn1 : 1 <= n) (hn2 : n <= 13) (hf : oa = Ye n) (hg : ob = Ye n) (har : 2 = WC n)
 (hva : XQ oa na sa = true) (hvb : XQ ob nb sB = false) :
 Calls Tryz.prog 91 #[.int .i64 n, .slice (some ⟨rb, 0, none⟩) 2 cp] w (uw false (Yo n na nb sa sB sh) w) := by
 have ho : oa = 1 \/ oa = 2 := by
  unfold Ye at hf; split at hf <;> omega
 have hp : ob = 1 \/ ob = 2 := by
  unfold Ye at hg; split at hg <;> omega
 have qh : ∀ wx, Calls Tryz.prog 108 #[.agg (Xr oa na sa).toArray] wx fun e w' => e = .returned (.bool (XQ oa na sa)) /\ wx.grownBy w' none := fun wx => Vq oa na sa wx ho
 have jI : ∀ wx, Calls Tryz.prog 108 #[.agg (Xr ob nb sB).toArray] wx fun e w' => e = .returned (.bool (XQ ob nb sB)) /\ wx.grownBy w' none := fun wx => Vq ob nb sB wx hp
 rw [hva] at qh
 rw [hvb] at jI
 clear hva hvb
 have Hf := Z9 hf
 have Hg := Z9 hg
 have fI := Z9 har
 clear hf hg har
 have g0 := Z8 w (.cells (ZN 0 0 ⟨#[]⟩ (.slice none 0 0)) 43)
 have n0 := Zn w (.cells (ZN 0 0 ⟨#[]⟩ (.slice none 0 0)) 43)
 go_in
 go_upto_region 1 with fail
 change Code.wp _ _ _ _ (w.alloc (.cells (ZN 0 0 ⟨#[]⟩ (.slice none 0 0)) 43))
 generalize w.alloc (.cells (ZN 0 0 ⟨#[]⟩ (.slice none 0 0)) 43) = W at *
 have ra := YD ha g0
 have fG := YD hb g0
 go_wp2_with fail
 refine XL 3 ?_
 rw [Y3]
 go_wp2_with (first
  | (refine wpList_load_mid rfl 43 _ rfl rb 0 rfl (Xr oa na sa) _ ra Tryz.underlying43 rfl YT ?_)
  | (go_at_call 108; refine (qh _).mono ?_; rintro e w0 ⟨rfl, g1⟩))
 have n9 := (g1.block _ (Z6 n0) (by nofun)).trans n0
 have r9 := YD fG g1
 rw [Y3]
 go_wp2_with (first
  | (refine wpList_load_mid rfl 43 _ rfl rb 5 rfl (Xr ob nb sB) _ r9 Tryz.underlying43 rfl YT ?_)
  | (go_at_call 108; refine (jI _).mono ?_; rintro e w1 ⟨rfl, g2⟩; have n1 := (g2.block _ (Z6 n9) (by nofun)).trans n9)
  | (refine Zc rfl 43 _ _ rfl w.heap.size (ZN 0 0 ⟨#[]⟩ (.slice none 0 0)) rfl rfl 43 _ n1 YT rfl (ZO _ rfl) ?_))
 have q1 := Zd _ _ _ (ZN 0 0 ⟨#[]⟩ (.slice none 0 0)) _ _ n1
 exact Y4 (Yy (p := 4) (u := 5) (v := 6) rfl _ _ w.heap.size 43 _ (0, 0) _ rfl q1 Tryz.underlying43 YT) rfl ⟨ZQ (both (both g0 g1) g2) (Nat.le_refl _) _, by rw [ZY rfl]; rfl⟩
theorem Cn (rb cp : Nat) (n oa na ob nb : Int) (sa sB sh : ByteArray) (w : World) (ha : w.rangeAt rb 0 (Xr oa na sa)) (hb : w.rangeAt rb 5 (Xr ob nb sB)) (hc : 2 <= cp) (hn1 : 1 <= n) (hn2 : n <= 13) (hf : oa = Ye n) (hg : ob = Ye n) (har : 2 = WC n)
 (hva : XQ oa na sa = true) (hvb : XQ ob nb sB = true) (mI : -4503599627370496 <= na -> na <= 4503599627370496 -> Hid (∀ wx, Calls Tryz.prog 123 #[.int .i64 na] wx fun e w' => e = .returned (.string sh) /\ wx.grownBy w' none)) :
 Calls Tryz.prog 91 #[.int .i64 n, .slice (some ⟨rb, 0, none⟩) 2 cp] w (uw true (Yo n na nb sa sB sh) w) := by
 have ho : oa = 1 \/ oa = 2 := by
  unfold Ye at hf; split at hf <;> omega
 have hp : ob = 1 \/ ob = 2 := by
  unfold Ye at hg; split at hg <;> omega
 obtain ⟨hra, hsz⟩ := Io ho hva
 obtain ⟨hrb, hsy⟩ := Io hp hvb
 have fH := mI hra.1 hra.2
 have qh : ∀ wx, Calls Tryz.prog 108 #[.agg (Xr oa na sa).toArray] wx fun e w' => e = .returned (.bool (XQ oa na sa)) /\ wx.grownBy w' none := fun wx => Vq oa na sa wx ho
 have jI : ∀ wx, Calls Tryz.prog 108 #[.agg (Xr ob nb sB).toArray] wx fun e w' => e = .returned (.bool (XQ ob nb sB)) /\ wx.grownBy w' none := fun wx => Vq ob nb sB wx hp
 have HB : ∀ wx, Calls Tryz.prog 109 #[.agg (Xr oa na sa).toArray] wx fun e w' => e = .returned (.tuple #[.agg (ZB oa na sa (.slice none 0 0)), .bool true]) /\ wx.grownBy w' none := by
  intro wx; rcases ho with rfl | rfl
  ·exact LP na sa wx
  ·exact LK na sa wx
 have HBb : ∀ wx, Calls Tryz.prog 109 #[.agg (Xr ob nb sB).toArray] wx fun e w' => e = .returned (.tuple #[.agg (ZB ob nb sB (.slice none 0 0)), .bool true]) /\ wx.grownBy w' none := by
  intro wx; rcases hp with rfl | rfl
  ·exact LP nb sB wx
  ·exact LK nb sB wx
 rw [hva] at qh
 rw [hvb] at jI
 clear hva hvb mI
 have Hf := Z9 hf
 have Hg := Z9 hg
 have fI := Z9 har
 clear hf hg har
 have g0 := Z8 w (.cells (ZN 0 0 ⟨#[]⟩ (.slice none 0 0)) 43)
 have n0 := Zn w (.cells (ZN 0 0 ⟨#[]⟩ (.slice none 0 0)) 43)
 have HF : ∀ g cap wx, wx.rangeAt g 0 (Yz oa na sa) -> wx.rangeAt g 25 (Yz ob nb sB) -> Calls Tryz.prog 90 #[.int .i64 n, .slice (some ⟨g, 0, none⟩) 2 cap] wx fun e w' => e = .returned (.bool true) /\ wx = w' := by
  intro g cap wx hr hs; refine (JX g cap n oa ob wx (hr 0 _ rfl) (hs 0 _ rfl)).mono ?_; rintro e w' ⟨rfl, rfl⟩; refine ⟨?_, rfl⟩; rw [<- fI.out, <- Hf.out, Hg.out, <- Hf.out]; simp
 obtain ⟨ii0, hii, TI, TH, TG⟩ := YQ PD
 go_in
 go_upto_region 1 with fail
 change Code.wp _ _ _ _ (w.alloc (.cells (ZN 0 0 ⟨#[]⟩ (.slice none 0 0)) 43))
 generalize w.alloc (.cells (ZN 0 0 ⟨#[]⟩ (.slice none 0 0)) 43) = W at *
 have ra := YD ha g0
 have fG := YD hb g0
 go_wp2_with fail
 refine XL 3 ?_
 rw [Y3]
 go_wp2_with (first
  | (refine wpList_load_mid rfl 43 _ rfl rb 0 rfl (Xr oa na sa) _ ra Tryz.underlying43 rfl YT ?_)
  | (go_at_call 108; refine (qh _).mono ?_; rintro e w0 ⟨rfl, g1⟩))
 have n9 := (g1.block _ (Z6 n0) (by nofun)).trans n0
 have q9 := YD ra g1
 have r9 := YD fG g1
 rw [Y3]
 go_wp2_with (first
  | (refine wpList_load_mid rfl 43 _ rfl rb 5 rfl (Xr ob nb sB) _ r9 Tryz.underlying43 rfl YT ?_)
  | (go_at_call 108; refine (jI _).mono ?_; rintro e w1 ⟨rfl, g2⟩))
 have n1 := (g2.block _ (Z6 n9) (by nofun)).trans n9
 have q1 := YD q9 g2
 have r1 := YD r9 g2
 have G1 := both (both g0 g1) g2
 clear ra fG q9 r9 n0 n9 g0 g1 g2 qh jI
 rw [Y3]
 go_wp2_with fail
 refine XL 3 ?_
 rw [Y3]
 go_upto_region 13 with (first
  | (refine wpList_load_mid rfl 43 _ rfl rb 0 rfl (Xr oa na sa) _ q1 Tryz.underlying43 rfl YT ?_)
  | (go_at_call 109; refine (HB _).mono ?_; rintro e w2 ⟨rfl, g2⟩)
  | (refine Zc rfl 176 _ _ rfl w2.heap.size (ZB oa na sa (.slice none 0 0)) rfl rfl 176 _ (Zn w2 _) Zl rfl (ZO _ rfl) ?_))
 have n3 := Zd _ _ _ (ZB oa na sa (.slice none 0 0)) _ _ (Zn w2 (.cells ZM 176))
 have g3 := ZQ (Z8 w2 (.cells ZM 176)) (Nat.le_refl _) (ZB oa na sa (.slice none 0 0))
 have G2 := both G1 g2
 have n2 := (g2.block _ (Z6 n1) (by nofun)).trans n1
 have r2 := YD r1 g2
 change Code.wp _ _ _ _ ((w2.alloc (.cells ZM 176)).setRow w2.heap.size (ZB oa na sa (.slice none 0 0)))
 generalize (w2.alloc (.cells ZM 176)).setRow w2.heap.size (ZB oa na sa (.slice none 0 0)) = V at *
 have G3 := both G2 g3
 have n4 := (g3.block _ (Z6 n2) (by nofun)).trans n2
 have r3 := YD r2 g3
 clear n1 n2 g2 g3 G1 G2 r1 r2 q1 HB
 go_upto_region 15 with fail
 go_wp2_with (first
  | (refine VF rfl 176 _ rfl w2.heap.size rfl 176 (ZB oa na sa (.slice none 0 0)) (0, 0) _ n3 Tryz.underlying176 rfl Zl ?_)
  | (refine Gv rfl _ rfl _ rfl rfl ?_)
  | (at_builtin; refine wpList_append_lies _ rfl _ _ 165 rfl (w.heap.size + 1) 176 ii0 (.agg ZM) 25 424 Tryz.underlying165 hii TI TH TG rfl (by decide) (.slice none 0 0) 0 [] rfl ⟨rfl, .inl ⟨rfl, rfl⟩⟩ ⟨V.heap.size, 0, none⟩ 1 1 (Yz oa na sa) rfl rfl ?c1 ?c2 (by decide) ?c3 ?c4 ?c5 _ rfl ?_))
 case c1 => exact World.news_of_block (cs := ZB oa na sa (.slice none 0 0)) (ZV V _)
 case c2 => exact List.all_eq_true.1 (show (Yz oa na sa).all (·.oneCell') = true from rfl)
 case c3 => unfold maxLen; omega
 case c4 => omega
 case c5 => simp; have := Z6 n4; omega
 intro g cap w4 hown hgrow hat Kv
 have g4 := both (Z8 V _) hgrow
 have G4 := both G3 g4
 have n5 := (g4.block _ (Z6 n4) (by nofun)).trans n4
 have r4 := YD r3 g4
 have hcap : 1 <= cap := by
  obtain ⟨_, h | ⟨g', cap', cur, hv, _, _, h1, _⟩⟩ := hown
  ·cases h.1
  ·cases hv; omega
 clear n3 n4 g4 G3 hgrow hat r3
 go_wp2_with fail
 rw [Y3]
 go_upto_region 13 with (first
  | (refine wpList_load_mid rfl 43 _ rfl rb 5 rfl (Xr ob nb sB) _ r4 Tryz.underlying43 rfl YT ?_)
  | (go_at_call 109; refine (HBb _).mono ?_; rintro e w3 ⟨rfl, g2⟩)
  | (refine Zc rfl 176 _ _ rfl w3.heap.size (ZB ob nb sB (.slice none 0 0)) rfl rfl 176 _ (Zn w3 _) Zl rfl (ZO _ rfl) ?_))
 have n3 := Zd _ _ _ (ZB ob nb sB (.slice none 0 0)) _ _ (Zn w3 (.cells ZM 176))
 have g3 := ZQ (Z8 w3 (.cells ZM 176)) (Nat.le_refl _) (ZB ob nb sB (.slice none 0 0))
 have G2 := both G4 g2
 have n2 := (g2.block _ (Z6 n5) (by nofun)).trans n5
 have hown2 := Zx hown (both g2 g3) (by nofun)
 change Code.wp _ _ _ _ ((w3.alloc (.cells ZM 176)).setRow w3.heap.size (ZB ob nb sB (.slice none 0 0)))
 generalize (w3.alloc (.cells ZM 176)).setRow w3.heap.size (ZB ob nb sB (.slice none 0 0)) = V2 at *
 have G3 := both G2 g3
 have n4 := (g3.block _ (Z6 n2) (by nofun)).trans n2
 clear n5 n2 g2 g3 G4 G2 r4 HBb hown Kv
 have hown3 := Zx hown2 (Z8 V2 (.cells (ZB ob nb sB (.slice none 0 0)) 176)) (by nofun)
 go_upto_region 15 with fail
 go_wp2_with (first
  | (refine VF rfl 176 _ rfl w3.heap.size rfl 176 (ZB ob nb sB (.slice none 0 0)) (0, 0) _ n3 Tryz.underlying176 rfl Zl ?_)
  | (refine Gv rfl _ rfl _ rfl rfl ?_)
  | (at_builtin; refine wpList_append_lies _ rfl _ _ 165 rfl (w.heap.size + 1) 176 ii0 (.agg ZM) 25 424 Tryz.underlying165 hii TI TH TG rfl (by decide) (.slice (some ⟨g, 0, none⟩) 1 cap) 1 (Yz oa na sa) rfl hown3 ⟨V2.heap.size, 0, none⟩ 1 1 (Yz ob nb sB) rfl rfl ?c1 ?c2 (by decide) ?c3 ?c4 ?c5 _ rfl ?_))
 case c1 => exact World.news_of_block (cs := ZB ob nb sB (.slice none 0 0)) (ZV V2 _)
 case c2 => exact List.all_eq_true.1 (show (Yz ob nb sB).all (·.oneCell') = true from rfl)
 case c3 => unfold maxLen; omega
 case c4 => omega
 case c5 => simp; have := Z6 n4; omega
 have hgo := Zw hown3 g rfl
 clear hown2 hown3 hcap
 intro g' cap' w4 hown hgrow hat Kv
 have g4 := Z8 V2 (.cells (ZB ob nb sB (.slice none 0 0)) 176)
 have G4 := U2 (k := g) (both G3 g4) hgrow (Nat.le_of_succ_le hgo.1)
 have n5 := (hgrow.block _ (Z6 ((g4.block _ (Z6 n4) (by nofun)).trans n4)) (fun e => by have h1 := Option.some.inj e; have h2 := hgo.1; dsimp only at h1; omega)).trans ((g4.block _ (Z6 n4) (by nofun)).trans n4)
 have rf : w4.rangeAt g' 0 (Yz oa na sa) := fun j u hu => by
  have h0 : (Yz oa na sa ++ Yz ob nb sB)[j]? = some u := by
   have hj : j < (Yz oa na sa).length := (List.getElem?_eq_some_iff.1 hu).1; rw [List.getElem?_append_left hj]; exact hu
  have := hown.cells rfl j u h0; rw [Addr.add_mid] at this; exact this
 have re : w4.rangeAt g' 25 (Yz ob nb sB) := fun j u hu => by
  have h0 : (Yz oa na sa ++ Yz ob nb sB)[25 + j]? = some u := by
   have hl : (Yz oa na sa).length = 25 := rfl; rw [List.getElem?_append_right (by omega), hl, Nat.add_sub_cancel_left]; exact hu
  have := hown.cells rfl (25 + j) u h0; rw [Addr.add_mid, Nat.zero_add] at this; exact this
 have hcap : 2 <= cap' := by
  obtain ⟨_, h | ⟨g', cap', cur, hv, _, _, h1, _⟩⟩ := hown
  ·cases h.1
  ·cases hv; omega
 clear n3 n4 g4 G3 hown hgrow hat
 go_wp2_with fail
 rw [Y3]
 go_wp2_with (first
  | (go_at_call 90; refine (HF _ _ _ rf re).mono ?_; rintro e w' ⟨rfl, rfl⟩))
 have hS := ZV w4 (.cells (st15 0 0) 195)
 have gS := Z8 w4 (.cells (st15 0 0) 195)
 have rg := YD rf gS
 have rh := YD re gS
 have HP := LQ w4.heap.size g' cap' 1 n oa na ob nb sa sB sh _ hS rg rh (Nat.lt_of_lt_of_le Kv gS.size) hcap (Or.inr rfl) (by omega) hra hrb ⟨hsz, hsy⟩ fH
 have n6 := (gS.block _ (Z6 n5) (by nofun)).trans n5
 have GS := both G4 gS
 have e4 : w4.heap.size < (w4.alloc (.cells (st15 0 0) 195)).heap.size := Z6 hS
 have zw := G4.size
 have z5 := Z6 n5
 clear n5 G4 gS rf rg re rh HF fH
 generalize Yo n na nb sa sB sh = r at *
 change Calls _ _ _ (w4.alloc (.cells (st15 0 0) 195)) _
 generalize w4.alloc (.cells (st15 0 0) 195) = X at *
 refine HP.mono ?_
 intro e w5 HA
 cases r with
 | fail c =>
   obtain ⟨rfl, hS5, g5⟩ := HA; have n7 := (g5.block _ (Z6 n6) (fun e => by have := Option.some.inj e; omega)).trans n6; go_upto_region 20 with (refine Zc rfl 176 _ _ rfl w5.heap.size (ZM) rfl rfl 176 _ (Zn w5 _) Zl rfl (ZO _ rfl) ?_); have gN := ZQ (Z8 w5 (.cells ZM 176)) (Nat.le_refl _) (ZM); have nN := Zd _ _ _ (ZM) _ _ (Zn w5 (.cells ZM 176)); change Code.wp _ _ _ _ ((w5.alloc (.cells ZM 176)).setRow w5.heap.size (ZM)); generalize (w5.alloc (.cells ZM 176)).setRow w5.heap.size (ZM) = Y at *; have n8 := (gN.block _ (Z6 n7) (by nofun)).trans n7; have s8 := (gN.block _ (Z6 hS5) (by nofun)).trans hS5; have k3 := (Zk _ _ 3 _ _ _ s8).trans (show _ = some (Value.int .i64 2) from rfl); have k4 := (Zk _ _ 4 _ _ _ s8).trans (show _ = some (Value.int .i64 c) from rfl); have GY := both (U2 GS g5 (by omega)) gN; clear n6 n7 hS5 s8 g5 gN GS hS; go_wp2_with fail; refine XG (S := fun w9 => w9.cell? ⟨w4.heap.size, 4, none⟩ = some (.int .i64 c)) (by kernel_rfl) k4 (fun hHeld => ?_); refine tks (b := ?_) (by kernel_rfl) (fun _ _ _ _ _ h => h) (by assumption) 5 [0, 1, 2, 3, 4] (by kernel_rfl) ?_ ?_; rotate_left
   ·refine yc (v := .agg (ZN 0 0 ⟨#[]⟩ (.slice none 0 0))) rfl rfl (by rfl) (fun w9 hSw => by have hSw : w9.cell? ⟨w4.heap.size, 4, none⟩ = some (.int .i64 c) := hSw; go_simp; rfl) ?_
    simp only [Act.put, Zj, Zi, Zh]
    iterate 4 (refine yc (v := ?_) rfl rfl (by rfl) (fun w9 hSw => ?_) ?_; rotate_left; (focus go_simp; try rfl); simp only [Act.put, Zj, Zi, Zh])
    exact rfl
   have n9 : Y.drew.heap[w.heap.size]? = some (.cells (ZN 0 0 ⟨#[]⟩ (.slice none 0 0)) 43 (0, 0)) := n8; have k9 : (Y.drew.setRow w.heap.size (ZN 0 0 ⟨#[]⟩ (.slice none 0 0))).cell? ⟨w4.heap.size, 4, none⟩ = some (.int .i64 c) := (cell_setRow_other _ _ _ _ (show w4.heap.size ≠ w.heap.size by omega)).trans k4; refine Ro 5 (by kernel_rfl) (by rfl) (by rfl) (by rfl) 43 _ _ (by rfl) w.heap.size (ZN 0 0 ⟨#[]⟩ (.slice none 0 0)) (by rfl) (by rfl) 43 _ n9 YT rfl (ZO _ rfl) k9 ?_; refine tks (b := ?_) (by kernel_rfl) (fun _ _ _ _ _ h => h) k9 2 [6, 7] (by kernel_rfl) ?_ ?_; rotate_left
   ·iterate 2 (refine yc (v := ?_) rfl rfl (by rfl) (fun w9 hSw => ?_) ?_; rotate_left; (focus go_simp; try rfl); simp only [Act.put, Zj, Zi, Zh])
    exact rfl
   refine X3 (by kernel_rfl) ?_ _; go_wp2_with fail; have q9 := Zd _ _ _ (ZN 0 0 ⟨#[]⟩ (.slice none 0 0)) _ _ n9; exact Y4 (Yy (p := 4) (u := 5) (v := 6) rfl _ _ w.heap.size 43 _ (0, 0) _ rfl q9 Tryz.underlying43 YT) rfl ⟨ZQ (both GY (Z4 _)) (Nat.le_refl _) _, by rw [Z7 (by decide)]; rfl⟩
 | num m =>
   obtain ⟨rfl, g5⟩ := HA; have n7 := (g5.block _ (Z6 n6) (by nofun)).trans n6; have s7 := (g5.block _ (Z6 hS) (by nofun)).trans hS; go_upto_region 20 with (refine Zc rfl 176 _ _ rfl w5.heap.size (ZB 1 m ⟨#[]⟩ (.slice none 0 0)) rfl rfl 176 _ (Zn w5 _) Zl rfl (ZO _ rfl) ?_); have gN := ZQ (Z8 w5 (.cells ZM 176)) (Nat.le_refl _) (ZB 1 m ⟨#[]⟩ (.slice none 0 0)); have nN := Zd _ _ _ (ZB 1 m ⟨#[]⟩ (.slice none 0 0)) _ _ (Zn w5 (.cells ZM 176)); change Code.wp _ _ _ _ ((w5.alloc (.cells ZM 176)).setRow w5.heap.size (ZB 1 m ⟨#[]⟩ (.slice none 0 0))); generalize (w5.alloc (.cells ZM 176)).setRow w5.heap.size (ZB 1 m ⟨#[]⟩ (.slice none 0 0)) = Y at *; have n8 := (gN.block _ (Z6 n7) (by nofun)).trans n7; have s8 := (gN.block _ (Z6 s7) (by nofun)).trans s7; have k3 := (Zk _ _ 3 _ _ _ s8).trans (show _ = some (Value.int .i64 0) from rfl); have GY := both (both GS g5) gN; have zY := Z6 n8; have HO := Vz 1 m 20000 400 ⟨#[]⟩ Y (by decide) (by decide) (by decide) (by decide) (by decide); clear n6 n7 hS s8 g5 gN GS s7; go_upto_region 22 with fail; go_upto_region 23 with (first
    | (refine VF rfl 176 _ rfl w5.heap.size rfl 176 (ZB 1 m ⟨#[]⟩ (.slice none 0 0)) (0, 0) _ nN Tryz.underlying176 rfl Zl ?_)
    | (go_at_call 111; refine HO.mono ?_; rintro e w6 ⟨rfl, g6⟩)
    | (refine Zc rfl 43 _ _ rfl w6.heap.size (ZN 1 m ⟨#[]⟩ (.slice none 0 0)) rfl rfl 43 _ (Zn w6 _) YT rfl (ZO _ rfl) ?_))
   have gM := ZQ (Z8 w6 (.cells (ZN 0 0 ⟨#[]⟩ (.slice none 0 0)) 43)) (Nat.le_refl _) (ZN 1 m ⟨#[]⟩ (.slice none 0 0)); have nM := Zd _ _ _ (ZN 1 m ⟨#[]⟩ (.slice none 0 0)) _ _ (Zn w6 (.cells (ZN 0 0 ⟨#[]⟩ (.slice none 0 0)) 43)); have n9 := (g6.block _ (Z6 n8) (by nofun)).trans n8; change Code.wp _ _ _ _ ((w6.alloc (.cells (ZN 0 0 ⟨#[]⟩ (.slice none 0 0)) 43)).setRow w6.heap.size (ZN 1 m ⟨#[]⟩ (.slice none 0 0))); generalize (w6.alloc (.cells (ZN 0 0 ⟨#[]⟩ (.slice none 0 0)) 43)).setRow w6.heap.size (ZN 1 m ⟨#[]⟩ (.slice none 0 0)) = U at *; have nU := (gM.block _ (Z6 n9) (by nofun)).trans n9; go_wp2_with (first
    | (refine VF rfl 43 _ rfl w6.heap.size rfl 43 (ZN 1 m ⟨#[]⟩ (.slice none 0 0)) (0, 0) _ nM Tryz.underlying43 rfl YT ?_)
    | (refine Zc rfl 43 _ _ rfl w.heap.size (ZN 1 m ⟨#[]⟩ (.slice none 0 0)) rfl rfl 43 _ nU YT rfl (ZO _ rfl) ?_))
   have q9 := Zd _ _ _ (ZN 1 m ⟨#[]⟩ (.slice none 0 0)) _ _ nU; refine Y4 (Yy (p := 4) (u := 5) (v := 6) rfl _ _ w.heap.size 43 _ (0, 0) _ rfl q9 Tryz.underlying43 YT) rfl ⟨ZQ (both (both GY g6) gM) (Nat.le_refl _) _, ?_⟩; rw [Z7 (by decide)]; rfl
 | txt t =>
   obtain ⟨rfl, g5⟩ := HA; have n7 := (g5.block _ (Z6 n6) (by nofun)).trans n6; have s7 := (g5.block _ (Z6 hS) (by nofun)).trans hS; go_upto_region 20 with (refine Zc rfl 176 _ _ rfl w5.heap.size (ZB 2 0 t (.slice none 0 0)) rfl rfl 176 _ (Zn w5 _) Zl rfl (ZO _ rfl) ?_); have gN := ZQ (Z8 w5 (.cells ZM 176)) (Nat.le_refl _) (ZB 2 0 t (.slice none 0 0)); have nN := Zd _ _ _ (ZB 2 0 t (.slice none 0 0)) _ _ (Zn w5 (.cells ZM 176)); change Code.wp _ _ _ _ ((w5.alloc (.cells ZM 176)).setRow w5.heap.size (ZB 2 0 t (.slice none 0 0))); generalize (w5.alloc (.cells ZM 176)).setRow w5.heap.size (ZB 2 0 t (.slice none 0 0)) = Y at *; have n8 := (gN.block _ (Z6 n7) (by nofun)).trans n7; have s8 := (gN.block _ (Z6 s7) (by nofun)).trans s7; have k3 := (Zk _ _ 3 _ _ _ s8).trans (show _ = some (Value.int .i64 0) from rfl); have GY := both (both GS g5) gN; have zY := Z6 n8; have HO := Vz 2 0 20000 400 t Y (by decide) (by decide) (by decide) (by decide) (by decide); clear n6 n7 hS s8 g5 gN GS s7; go_upto_region 22 with fail; go_upto_region 23 with (first
    | (refine VF rfl 176 _ rfl w5.heap.size rfl 176 (ZB 2 0 t (.slice none 0 0)) (0, 0) _ nN Tryz.underlying176 rfl Zl ?_)
    | (go_at_call 111; refine HO.mono ?_; rintro e w6 ⟨rfl, g6⟩)
    | (refine Zc rfl 43 _ _ rfl w6.heap.size (ZN 2 0 t (.slice none 0 0)) rfl rfl 43 _ (Zn w6 _) YT rfl (ZO _ rfl) ?_))
   have gM := ZQ (Z8 w6 (.cells (ZN 0 0 ⟨#[]⟩ (.slice none 0 0)) 43)) (Nat.le_refl _) (ZN 2 0 t (.slice none 0 0)); have nM := Zd _ _ _ (ZN 2 0 t (.slice none 0 0)) _ _ (Zn w6 (.cells (ZN 0 0 ⟨#[]⟩ (.slice none 0 0)) 43)); have n9 := (g6.block _ (Z6 n8) (by nofun)).trans n8; change Code.wp _ _ _ _ ((w6.alloc (.cells (ZN 0 0 ⟨#[]⟩ (.slice none 0 0)) 43)).setRow w6.heap.size (ZN 2 0 t (.slice none 0 0))); generalize (w6.alloc (.cells (ZN 0 0 ⟨#[]⟩ (.slice none 0 0)) 43)).setRow w6.heap.size (ZN 2 0 t (.slice none 0 0)) = U at *; have nU := (gM.block _ (Z6 n9) (by nofun)).trans n9; go_wp2_with (first
    | (refine VF rfl 43 _ rfl w6.heap.size rfl 43 (ZN 2 0 t (.slice none 0 0)) (0, 0) _ nM Tryz.underlying43 rfl YT ?_)
    | (refine Zc rfl 43 _ _ rfl w.heap.size (ZN 2 0 t (.slice none 0 0)) rfl rfl 43 _ nU YT rfl (ZO _ rfl) ?_))
   have q9 := Zd _ _ _ (ZN 2 0 t (.slice none 0 0)) _ _ nU; refine Y4 (Yy (p := 4) (u := 5) (v := 6) rfl _ _ w.heap.size 43 _ (0, 0) _ rfl q9 Tryz.underlying43 YT) rfl ⟨ZQ (both (both GY g6) gM) (Nat.le_refl _) _, ?_⟩; rw [Z7 (by decide)]; rfl
 | bool b =>
   obtain ⟨q, r, rfl, hq1, hr1, g5, hq, hr⟩ := HA; have n7 := (g5.block _ (Z6 n6) (by nofun)).trans n6; have s7 := (g5.block _ (Z6 hS) (by nofun)).trans hS; go_upto_region 20 with (refine Zc rfl 176 _ _ rfl w5.heap.size (ZB 5 0 ⟨#[]⟩ (.slice (some ⟨q, 0, none⟩) 1 1)) rfl rfl 176 _ (Zn w5 _) Zl rfl (ZO _ rfl) ?_); have gN := ZQ (Z8 w5 (.cells ZM 176)) (Nat.le_refl _) (ZB 5 0 ⟨#[]⟩ (.slice (some ⟨q, 0, none⟩) 1 1)); have nN := Zd _ _ _ (ZB 5 0 ⟨#[]⟩ (.slice (some ⟨q, 0, none⟩) 1 1)) _ _ (Zn w5 (.cells ZM 176)); change Code.wp _ _ _ _ ((w5.alloc (.cells ZM 176)).setRow w5.heap.size (ZB 5 0 ⟨#[]⟩ (.slice (some ⟨q, 0, none⟩) 1 1))); generalize (w5.alloc (.cells ZM 176)).setRow w5.heap.size (ZB 5 0 ⟨#[]⟩ (.slice (some ⟨q, 0, none⟩) 1 1)) = Y at *; have n8 := (gN.block _ (Z6 n7) (by nofun)).trans n7; have s8 := (gN.block _ (Z6 s7) (by nofun)).trans s7; have k3 := (Zk _ _ 3 _ _ _ s8).trans (show _ = some (Value.int .i64 0) from rfl); have GY := both (both GS g5) gN; have zY := Z6 n8; have hq8 := (gN.block _ (Z6 hq) (by nofun)).trans hq; have hr8 := (gN.block _ (Z6 hr) (by nofun)).trans hr; have HO := QJ b q r Y hq8 hr8; clear n6 n7 hS s8 g5 gN GS s7; go_upto_region 22 with fail; go_upto_region 23 with (first
    | (refine VF rfl 176 _ rfl w5.heap.size rfl 176 (ZB 5 0 ⟨#[]⟩ (.slice (some ⟨q, 0, none⟩) 1 1)) (0, 0) _ nN Tryz.underlying176 rfl Zl ?_)
    | (go_at_call 111; refine HO.mono ?_; rintro e w6 ⟨p, c, rfl, g6, hcp, hpl⟩)
    | (refine Zc rfl 43 _ _ rfl w6.heap.size (ZN 5 0 ⟨#[]⟩ (.slice (some ⟨p, 0, none⟩) 1 c)) rfl rfl 43 _ (Zn w6 _) YT rfl (ZO _ rfl) ?_))
   have gM := ZQ (Z8 w6 (.cells (ZN 0 0 ⟨#[]⟩ (.slice none 0 0)) 43)) (Nat.le_refl _) (ZN 5 0 ⟨#[]⟩ (.slice (some ⟨p, 0, none⟩) 1 c)); have nM := Zd _ _ _ (ZN 5 0 ⟨#[]⟩ (.slice (some ⟨p, 0, none⟩) 1 c)) _ _ (Zn w6 (.cells (ZN 0 0 ⟨#[]⟩ (.slice none 0 0)) 43)); have n9 := (g6.block _ (Z6 n8) (by nofun)).trans n8; change Code.wp _ _ _ _ ((w6.alloc (.cells (ZN 0 0 ⟨#[]⟩ (.slice none 0 0)) 43)).setRow w6.heap.size (ZN 5 0 ⟨#[]⟩ (.slice (some ⟨p, 0, none⟩) 1 c))); generalize (w6.alloc (.cells (ZN 0 0 ⟨#[]⟩ (.slice none 0 0)) 43)).setRow w6.heap.size (ZN 5 0 ⟨#[]⟩ (.slice (some ⟨p, 0, none⟩) 1 c)) = U at *; have nU := (gM.block _ (Z6 n9) (by nofun)).trans n9; go_wp2_with (first
    | (refine VF rfl 43 _ rfl w6.heap.size rfl 43 (ZN 5 0 ⟨#[]⟩ (.slice (some ⟨p, 0, none⟩) 1 c)) (0, 0) _ nM Tryz.underlying43 rfl YT ?_)
    | (refine Zc rfl 43 _ _ rfl w.heap.size (ZN 5 0 ⟨#[]⟩ (.slice (some ⟨p, 0, none⟩) 1 c)) rfl rfl 43 _ nU YT rfl (ZO _ rfl) ?_))
   have q9 := Zd _ _ _ (ZN 5 0 ⟨#[]⟩ (.slice (some ⟨p, 0, none⟩) 1 c)) _ _ nU; refine Y4 (Yy (p := 4) (u := 5) (v := 6) rfl _ _ w.heap.size 43 _ (0, 0) _ rfl q9 Tryz.underlying43 YT) rfl ⟨ZQ (both (both GY g6) gM) (Nat.le_refl _) _, ?_⟩; rw [Z7 (by decide)]; refine ⟨p, c, rfl, ?_⟩; have hp := World.block_lt_of_cell? w6 _ hcp; have hcp2 := cell_grown hcp gM; rw [cell_setRow_other _ _ _ _ (show p ≠ w.heap.size from fun e => ?_)]
   ·exact hcp2
   ·omega
end Go.Proofs.YtbcfdebdikgijaaGreatDoor
