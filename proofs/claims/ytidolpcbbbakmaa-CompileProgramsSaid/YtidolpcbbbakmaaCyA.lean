/- strings: the texts of an expression. Grow and Concat of texts: nil, and a row of the call. with: the texts of bodies, each once. -/
import Derived.Test.YtidolpcbbbakmaaCxA
import Derived.Lib.AppendZeros
import Derived.Test.YtidolpcbbbakmaaCb2
namespace Go.Proofs.Ytidolpcbbbakmaa
open Go Go.RowKit
open Go.Maps

mutual
/-- The texts of an expression, from left to right. -/
def textsX : ExpD → List ByteArray
  | .mk op _ s _ l => if op = 3 then [s] else textsL l
def textsL : List ExpD → List ByteArray
  | [] => []
  | x :: r => textsX x ++ textsL r
end
theorem textsL_nil : textsL [] = [] := by rw [textsL]
theorem textsL_cons (x : ExpD) (r : List ExpD) : textsL (x :: r) = textsX x ++ textsL r := by rw [textsL]
theorem textsX_mk (op n : Int) (s : ByteArray) (v : Value) (l : List ExpD) : textsX (.mk op n s v l) = if op = 3 then [s] else textsL l := by rw [textsX]
theorem textsL_snoc (x : ExpD) (l : List ExpD) : textsL (l ++ [x]) = textsL l ++ textsX x := by
  induction l with
  | nil => rw [List.nil_append, textsL_cons, textsL_nil]; simp
  | cons y l ih => rw [List.cons_append, textsL_cons, textsL_cons, ih]; simp
theorem textsL_le (l : List ExpD) (h : ∀ y ∈ l, (textsX y).length ≤ sizeX y) : (textsL l).length ≤ sizeL l := by
  induction l with
  | nil => rw [textsL_nil, sizeL_nil]; simp
  | cons x r ih => rw [textsL_cons, sizeL_cons, List.length_append]; have := h x (by simp); have := ih fun y hy => h y (by simp [hy]); omega
theorem textsX_le (x : ExpD) : (textsX x).length ≤ sizeX x := by
  induction x using ExpD.induct with
  | h op n s lv l ih =>
    rw [textsX_mk, sizeX_mk]
    split
    · simp
    · have := textsL_le l ih; omega
/-- A row of texts that the call has made; nil as long as there is none. -/
def OwnS (V : World) (B : Nat) (lv : Value) (acc : List ByteArray) : Prop := V.ownsRow B 9 1 lv acc.length (strCells acc) ∧ (acc = [] → lv = .slice none 0 0)
theorem OwnS.grown {V V' : World} {B : Nat} {lv : Value} {acc : List ByteArray} {r : Option Nat} (h : OwnS V B lv acc) (hg : V.grownBy V' r) (hr : ∀ k, r = some k → lv.ownBlock ≠ some k) : OwnS V' B lv acc := ⟨owns_grown h.1 hg hr, h.2⟩
theorem OwnS.texts {V : World} {B : Nat} {lv : Value} {acc : List ByteArray} (h : OwnS V B lv acc) : IsTexts V lv acc := isRow_owns h.1
theorem OwnS.nil (V : World) (B : Nat) : OwnS V B (.slice none 0 0) [] := ⟨World.ownsRow_nil _ _ _ _, fun _ => rfl⟩
def FreshOr (w : World) (r r' : Option Nat) : Prop := r' = r ∨ ∃ g, r' = some g ∧ w.heap.size ≤ g
theorem both_fresh {a b c : World} {r s : Option Nat} (h : a.grownBy b r) (hs : FreshOr a r s) (k : b.grownBy c s) : a.grownBy c r :=
  ⟨k.os.trans h.os, k.tape.trans h.tape, k.output.trans h.output, Nat.le_trans h.size k.size, fun q hq hr => (k.block q (Nat.lt_of_lt_of_le hq h.size) (fun e => by
    rcases hs with e2 | ⟨g, e2, hg⟩
    · rw [e2] at e; exact hr e
    · rw [e2] at e; cases e; omega)).trans (h.block q hq hr)⟩
theorem FreshOr.trans {a b : World} {r s t : Option Nat} (h : FreshOr a r s) (k : FreshOr b s t) (hs : a.heap.size ≤ b.heap.size) : FreshOr a r t := by
  rcases k with e | ⟨g, e, hg⟩
  · rw [e]; exact h
  · exact .inr ⟨g, e, Nat.le_trans hs hg⟩
def StrOk (B1 : Nat) (acc new : List ByteArray) (lv : Value) (w : World) (e : Ending) (w' : World) : Prop :=
  ∃ lv', e = .returned lv' ∧ OwnS w' B1 lv' (acc ++ new) ∧ w.grownBy w' lv.ownBlock ∧ FreshOr w lv.ownBlock lv'.ownBlock
theorem strCells_snoc (l : List ByteArray) (s : ByteArray) : strCells (l ++ [s]) = strCells l ++ [.string s] := by simp [strCells]
set_option maxHeartbeats 4000000 in
set_option maxRecDepth 100000 in
theorem strings_any (B B1 : Nat) (hB1 : B ≤ B1) (x : ExpD) : ∀ (lv : Value) (acc : List ByteArray) (w : World), B1 ≤ w.heap.size → IsExp B w x → OwnS w B1 lv acc → acc.length + sizeX x ≤ 100000 →
    Calls Try.prog 41 #[lv, expV x] w (StrOk B1 acc (textsX x) lv w) := by
  induction x using ExpD.induct with
  | h op n s xv l ih =>
    intro lv acc w hBw hx hO hsz
    rw [expV_mk]
    have HIH := Lib.hid ih
    obtain ⟨hr, hm, hy⟩ := hx.parts
    have HY := Lib.hid hy
    have HR := Lib.hid hr
    have hm' : l.length ≤ 9223372036854775807 := by unfold maxLen at hm; omega
    rw [sizeX_mk] at hsz
    obtain ⟨a, c, rfl, hlc, _⟩ := hr
    obtain ⟨oa, oc, rfl⟩ := own_shape hO.1
    have hown0 := owns_lt hO.1
    have hg1 := grown_alloc w (.cells #[.int .i64 op, .int .i64 n, .string s, .slice a l.length c] 36)
    have gP := new_heap w (.cells #[.int .i64 op, .int .i64 n, .string s, .slice a l.length c] 36)
    obtain ⟨p0, p1, p2, p3⟩ := exp_box gP
    have HO1 := Lib.hid (hO.grown hg1 (by nofun))
    have HG1 := Lib.hid (free_of hg1 (Value.slice oa acc.length oc).ownBlock)
    have HGP := Lib.hid gP
    have hsz1 := hg1.size
    clear ih hx hy hm gP hO hg1
    by_cases h3 : op = 3
    · subst h3
      obtain ⟨is0, his, isz0, isz1, isz2⟩ := info_parts info_str
      generalize hW0 : w.alloc (.cells #[.int .i64 3, .int .i64 n, .string s, .slice a l.length c] 36) = W at *
      have hst : textsX (.mk 3 n s (.slice a l.length c) l) = [s] := by rw [textsX_mk, if_pos rfl]
      rw [hst]
      clear hst
      go_enter Try.func41, Try.ntmps41
      go_wp2_with (at_builtin; refine wpList_append_lies _ rfl _ _ 26 rfl B1 9 is0 (.string ByteArray.empty) 1 16 Try.underlying26 his isz0 isz1 isz2 rfl (by decide) _ acc.length (strCells acc) rfl (HO1.out.1.alloc _) ⟨W.heap.size, 0, none⟩ 1 1 [.string s] rfl rfl ?c1 ?c2 (by decide) ?c3 ?c4 ?c5 _ rfl ?_)
      case c1 => exact World.news_of_block (cs := #[.string s]) (new_heap W _)
      case c2 => intro u hu; simp at hu; subst hu; rfl
      case c3 => unfold maxLen; omega
      case c4 => omega
      case c5 => simp; omega
      intro g cap w4 hown4 hgrow4 hat4 hlt4
      have hg3 := grown_alloc W (.cells #[.string s] 9)
      have HG4 := Lib.hid (both (both HG1.out (free_of hg3 _)) hgrow4)
      have HO4 : Hid (OwnS w4 B1 (.slice (some ⟨g, 0, none⟩) (acc.length + 1) cap) (acc ++ [s])) := ⟨by rw [strCells_snoc, List.length_append, List.length_singleton]; exact hown4, fun e => by simp at e⟩
      have HF4 : Hid (FreshOr w (Value.slice oa acc.length oc).ownBlock (Value.slice (some ⟨g, 0, none⟩) (acc.length + 1) cap).ownBlock) := by
        rcases hat4 with e | e
        · exact .inl e.symm
        · exact .inr ⟨g, rfl, by omega⟩
      clear hg3 hown4 hgrow4 hat4
      go_wp2_with fail
      go_ret
      exact ⟨_, rfl, HO4.out, HG4.out, HF4.out⟩
    · have hst : textsX (.mk op n s (.slice a l.length c) l) = textsL l := by rw [textsX_mk, if_neg h3]
      rw [hst]
      clear hst
      have h3' : (op == 3) = false := beq_eq_false_iff_ne.2 h3
      have HF1 : Hid (FreshOr w (Value.slice oa acc.length oc).ownBlock (Value.slice oa acc.length oc).ownBlock) := .inl rfl
      go_enter Try.func41, Try.ntmps41
      go_wp2_with fail
      generalize w.alloc (.cells #[.int .i64 op, .int .i64 n, .string s, .slice a l.length c] 36) = W at *
      go_loopw [0, 18] (fun lv i wr => ∃ (k : Nat), k ≤ l.length ∧ i = .int .i64 k ∧ Hid (OwnS wr B1 lv (acc ++ textsL (l.take k))) ∧ Hid (w.grownBy wr (Value.slice oa acc.length oc).ownBlock) ∧ Hid (FreshOr w (Value.slice oa acc.length oc).ownBlock lv.ownBlock)) (fun _ i _ => l.length - (intOf i).toNat)
      case atStart => exact ⟨0, Nat.zero_le _, rfl, by rw [List.take_zero, textsL_nil, List.append_nil]; exact HO1, HG1, HF1⟩
      case round =>
        obtain ⟨k, hk, rfl, HO, HG, HF⟩ := hrel
        by_cases hkl : k < l.length
        · have hbB : Below B w wr := grown_under HG.out (by omega) (fun j hj => by have := (hown0 j hj).1; omega)
          obtain ⟨b, off, rfl, hbB2, c0, c1, c2, c3⟩ := parts_at HR.out hbB k hkl
          have hmem := getD_mem default l k hkl
          have hsy := sizeL_mem hmem
          have HT := Lib.hid (show textsL (l.take (k + 1)) = textsL (l.take k) ++ textsX (l.getD k default) from by rw [take_one default l k hkl, textsL_snoc])
          have hyk := (HY.out _ hmem).under hbB
          have hih := HIH.out _ hmem
          have hlen : (acc ++ textsL (l.take k)).length + sizeX (l.getD k default) ≤ 100000 := by
            have h1 := textsL_le (l.take k) fun y _ => textsX_le y
            have h2 := sizeL_take l (k + 1)
            rw [take_one default l k hkl, sizeL_snoc] at h2
            rw [List.length_append]; omega
          clear hmem
          generalize l.getD k default = x at *
          obtain ⟨xo, xn, xs, xv, xl⟩ := x
          obtain ⟨xa, xc, rfl, _⟩ := hyk.parts.1
          simp only [ExpD.op, ExpD.n, ExpD.s, ExpD.lv] at c0 c1 c2 c3
          have hg3 := grown_alloc wr (.cells #[.int .i64 xo, .int .i64 xn, .string xs, .slice xa xl.length xc] 36)
          have gX := new_heap wr (.cells #[.int .i64 xo, .int .i64 xn, .string xs, .slice xa xl.length xc] 36)
          obtain ⟨e0, e1, e2, e3⟩ := exp_box gX
          have hszr := HG.out.size
          have HM := Lib.hid (hih u0 _ (wr.alloc (.cells #[.int .i64 xo, .int .i64 xn, .string xs, .slice xa xl.length xc] 36)) (by have := hg3.size; omega) (hyk.grown hg3 (by omega) (by nofun)) (HO.out.grown hg3 (by nofun)) hlen)
          have HG2 := Lib.hid (both HG.out (free_of hg3 _))
          have hszg := hg3.size
          rw [expV_mk] at HM
          clear hih hyk gX hg3 hlen
          go_wp2_with fail
          refine HM.out.mono ?_
          rintro e w2 ⟨lv2, rfl, hO2, hg4, hf4⟩
          have HO2 : Hid (OwnS w2 B1 lv2 (acc ++ textsL (l.take (k + 1)))) := by rw [HT.out, ← List.append_assoc]; exact hO2
          have HG3 := Lib.hid (both_fresh HG2.out HF.out hg4)
          have HF3 := Lib.hid (HF.out.trans hf4 (by omega))
          clear hO2 hg4 hf4 HM c0 c1 c2 c3 e0 e1 e2 e3
          go_wp2_with fail
          go_roundw
          case rel => exact ⟨k + 1, by omega, by go_num, HO2, HG3, HF3⟩
          case measure => simp [intOf]; omega
        · have HO2 := HO.out
          rw [List.take_of_length_le (by omega)] at HO2
          have HO3 := Lib.hid HO2
          clear HO2
          go_wp2_with fail
          go_ret
          exact ⟨_, rfl, HO3.out, HG.out, HF.out⟩
end Go.Proofs.Ytidolpcbbbakmaa
namespace Go.Proofs.Ytidolpcbbbakmaa
open Go Go.RowKit
open Go.Maps

set_option maxHeartbeats 2000000 in
set_option maxRecDepth 100000 in
theorem grow_n (n : Nat) (hn : 0 < n) (h1 : n ≤ 1000000) (w : World) : Calls Try.prog 65 #[.slice none 0 0, .int .i64 n] w fun e w' => ∃ g cap, e = .returned (.slice (some ⟨g, 0, none⟩) 0 cap) ∧ w'.ownsRow w.heap.size 9 1 (.slice (some ⟨g, 0, none⟩) 0 cap) 0 [] ∧ w.grownBy w' none := by
  obtain ⟨is0, his, isz0, isz1, isz2⟩ := info_parts info_str
  have hrz : ∀ ty, (Builtin.append_ #[26, 3] ty #[.slice none 0 0, .int .i64 (n : Int)]).run Try.prog w = .ok (.slice (some ⟨w.heap.size, 0, none⟩) n (grownCap w n 0 9)) (w.drew.alloc (.cells (Builtin.zeroCells (Value.string ByteArray.empty).cells n ++ Builtin.zeroCells (Value.string ByteArray.empty).cells (grownCap w n 0 9 - n)) 9)) := fun ty =>
    Lib.run_append_nil_zeros w 26 3 ty 9 is0 (.string ByteArray.empty) .i64 .i64 Try.underlying26 Try.underlying3 his isz0 n hn (by omega) (by omega) (by rw [isz2]; omega)
  have hge := grownCap_ge w n 0 9
  have hle := grownCap_le_maxLen w n 0 9 (by unfold maxLen; omega)
  have hown : (w.drew.alloc (.cells (Builtin.zeroCells (Value.string ByteArray.empty).cells n ++ Builtin.zeroCells (Value.string ByteArray.empty).cells (grownCap w n 0 9 - n)) 9)).ownsRow w.heap.size 9 1 (.slice (some ⟨w.heap.size, 0, none⟩) 0 (grownCap w n 0 9)) 0 [] := by
    refine ⟨rfl, .inr ⟨_, _, _, rfl, Nat.le_refl _, new_heap w.drew _, Nat.zero_le _, hle, ?_, by simp⟩⟩
    rw [Array.size_append, size_zeroCells, size_zeroCells, show (Value.string ByteArray.empty).cells.size = 1 from rfl]
    omega
  have HG := Lib.hid (both (grown_drew w) (grown_alloc w.drew (.cells (Builtin.zeroCells (Value.string ByteArray.empty).cells n ++ Builtin.zeroCells (Value.string ByteArray.empty).cells (grownCap w n 0 9 - n)) 9)))
  have HO := Lib.hid hown
  have hG63 : grownCap w n 0 9 ≤ 9223372036854775807 := by unfold maxLen at hle; omega
  clear hown hle
  generalize grownCap w n 0 9 = G at *
  generalize w.drew.alloc (.cells (Builtin.zeroCells (Value.string ByteArray.empty).cells n ++ Builtin.zeroCells (Value.string ByteArray.empty).cells (G - n)) 9) = W at *
  have hn0 : ¬ (n : Int) < 0 := by omega
  have hn1 : (0 : Int) < (n : Int) := by omega
  go_enter Try.func65, Try.ntmps65
  go_wp2_with (at_builtin; refine Lib.wpList_append_run _ rfl _ _ _ _ rfl _ _ rfl rfl _ _ (hrz _) ?_)
  all_goals
    go_ret
    exact ⟨_, _, rfl, HO.out, HG.out⟩
set_option maxHeartbeats 2000000 in
set_option maxRecDepth 100000 in
theorem concat_n (g : Nat) (a : Option Addr) (c : Nat) (all : List ByteArray) (w : World) (h : w.heap[g]? = some (.cells #[.slice none 0 0, .slice a all.length c] 26 (0, 0))) (B : Nat) (hO : OwnS w B (.slice a all.length c) all) (hn : 0 < all.length) (hl : all.length ≤ 1000000) :
    Calls Try.prog 42 #[.slice (some ⟨g, 0, none⟩) 2 2] w fun e w' => ∃ v, e = .returned v ∧ w'.ownsRow w.heap.size 9 1 v all.length (strCells all) ∧ w.grownBy w' none := by
  have c0 : w.cell? ⟨g, 0, none⟩ = some (.slice none 0 0) := by simp [World.cell?, h]
  have c1 : w.cell? ⟨g, 1, none⟩ = some (.slice a all.length c) := by simp [World.cell?, h]
  have HH := Lib.hid h
  clear h
  obtain ⟨is0, his, isz0, isz1, isz2⟩ := info_parts info_str
  have HO := Lib.hid hO
  clear hO
  have hwr : IntKind.i64.wrap (0 + (all.length : Int)) = (all.length : Int) := by rw [wrap_ok _ (by omega) (by omega)]; omega
  go_enter Try.func42, Try.ntmps42
  go_wp2_with fail
  go_loop [3, 11] (fun n i => n = .int .i64 0 ∧ i = .int .i64 0 ∨ n = .int .i64 0 ∧ i = .int .i64 1 ∨ n = .int .i64 all.length ∧ i = .int .i64 2) (fun _ i => 2 - (intOf i).toNat)
  case atStart => exact .inl ⟨rfl, rfl⟩
  case round =>
    rcases hrel with ⟨rfl, rfl⟩ | ⟨rfl, rfl⟩ | ⟨rfl, rfl⟩
    · go_wp2_with fail
      go_round
      case rel => exact .inr (.inl ⟨rfl, rfl⟩)
      case measure => simp [intOf]
    · go_wp2_with fail
      go_round
      case rel => exact .inr (.inr ⟨by go_num, rfl⟩)
      case measure => simp [intOf]
    · have HGR := Lib.hid (grow_n all.length hn hl w)
      go_wp2_with fail
      refine HGR.out.mono ?_
      rintro e w2 ⟨gg, cap, rfl, hown, hg⟩
      have HO2 := Lib.hid (HO.out.grown hg (by nofun))
      have HG2 := Lib.hid hg
      have HOW := Lib.hid hown
      have hh2 := (hg.block g (heap_lt HH.out) (by nofun)).trans HH.out
      have hsz := hg.size
      clear c0 c1
      have c0 : w2.cell? ⟨g, 0, none⟩ = some (.slice none 0 0) := by simp [World.cell?, hh2]
      have c1 : w2.cell? ⟨g, 1, none⟩ = some (.slice a all.length c) := by simp [World.cell?, hh2]
      clear hg hown hh2 HGR
      go_wp2_with fail
      go_loopw [6, 27] (fun v i wr => (i = .int .i64 0 ∧ v = .slice (some ⟨gg, 0, none⟩) 0 cap ∨ i = .int .i64 1 ∧ v = .slice (some ⟨gg, 0, none⟩) 0 cap) ∧ wr = w2 ∨ i = .int .i64 2 ∧ Hid (wr.ownsRow w.heap.size 9 1 v all.length (strCells all)) ∧ Hid (w.grownBy wr none)) (fun _ i _ => 2 - (intOf i).toNat)
      case atStart => exact .inl ⟨.inl ⟨rfl, rfl⟩, rfl⟩
      case round =>
        rcases hrel with ⟨⟨rfl, rfl⟩ | ⟨rfl, rfl⟩, rfl⟩ | ⟨rfl, HOE, HGE⟩
        · go_wp2_with (at_builtin; refine wpList_append_own_none rfl _ _ 26 rfl w.heap.size 9 is0 1 Try.underlying26 his _ 0 [] rfl HOW.out rfl ?_)
          go_roundw
          case rel => exact .inl ⟨.inr ⟨rfl, rfl⟩, trivial⟩
          case measure => simp [intOf]
        · obtain ⟨ga, ca, hea, hgB, cur, hcur⟩ := own_some HO2.out.1 hn
          obtain rfl : a = some ⟨ga, 0, none⟩ := by injection hea
          go_wp2_with (at_builtin; refine wpList_append_lies _ rfl _ _ 26 rfl w.heap.size 9 is0 (.string ByteArray.empty) 1 16 Try.underlying26 his isz0 isz1 isz2 rfl (by decide) _ 0 [] rfl HOW.out ⟨ga, 0, none⟩ all.length c (strCells all) rfl (by rw [strCells_length, Nat.mul_one]) ?c1 ?c2 hn ?c3 ?c4 ?c5 _ rfl ?_)
          case c1 =>
            intro j u hj
            have := (owns_cell (i := j) HO2.out.1 hj).1
            rcases j with _ | j <;> simpa [Addr.add] using this
          case c2 => intro u hu; unfold strCells at hu; obtain ⟨x, _, rfl⟩ := List.mem_map.1 hu; rfl
          case c3 => unfold maxLen; omega
          case c4 => omega
          case c5 => omega
          intro g4 cap4 w4 hown4 hgrow4 hat4 hlt4
          have hgb := (owns_lt HOW.out gg rfl).1
          have HG4 := Lib.hid (grown_below ((grown_under HG2.out (Nat.le_refl _) (by nofun)).trans (grown_under (B := w.heap.size) hgrow4 hsz (fun k hk => by cases hk; exact hgb))))
          have HO4 := Lib.hid hown4
          clear hown4 hgrow4 hat4
          go_wp2_with fail
          go_roundw
          case rel => exact .inr ⟨rfl, HO4, HG4⟩
          case measure => simp [intOf]
        · go_wp2_with fail
          go_ret
          exact ⟨_, rfl, HOE.out, HGE.out⟩
end Go.Proofs.Ytidolpcbbbakmaa
namespace Go.Proofs.Ytidolpcbbbakmaa
open Go Go.RowKit
open Go.Maps

/-- A list of texts with a further one, if it is not among them. -/
def addT (acc : List ByteArray) (s : ByteArray) : List ByteArray := if (findT acc s).isSome = true then acc else acc ++ [s]
def dedup (l : List ByteArray) : List ByteArray := l.foldl addT []
theorem dedup_take (l : List ByteArray) (k : Nat) (h : k < l.length) : dedup (l.take (k + 1)) = addT (dedup (l.take k)) (l.getD k default) := by
  unfold dedup; rw [take_one default l k h, List.foldl_append]; rfl
theorem addT_len (acc : List ByteArray) (s : ByteArray) : (addT acc s).length ≤ acc.length + 1 := by unfold addT; split <;> simp
theorem dedup_len (l : List ByteArray) : (dedup l).length ≤ l.length := by
  have : ∀ (l acc : List ByteArray), (l.foldl addT acc).length ≤ acc.length + l.length := fun l => by
    induction l with
    | nil => intro acc; simp
    | cons x r ih => intro acc; rw [List.foldl_cons]; have := ih (addT acc x); have := addT_len acc x; simp; omega
  have := this l []
  unfold dedup; simpa using this
theorem zero_bool (w : World) : (zeroValue 4).run Try.prog w = .ok (.bool false) w := by kernel_rfl
/-- The map holds just these texts. -/
def SeenT (V : World) (mb : Nat) (acc : List ByteArray) (k : Nat) : Prop :=
  ∃ (n : Nat) (D : DataW Unit), n ≤ k ∧ V.ownsMap Try.prog 9 (plainElem Try.prog 4) mb n D ∧ ∀ s : ByteArray, D.atKey (keyT s) (.lit (.bool false)) = .lit (.bool (findT acc s).isSome)
theorem SeenT.start {V : World} : SeenT (V.alloc (.map #[] 0)) V.heap.size [] 0 := ⟨0, .map [], Nat.le_refl _, World.ownsMap_made V _ _ _, fun s => rfl⟩
theorem SeenT.stays {V V' : World} {mb : Nat} {acc : List ByteArray} {k : Nat} (h : SeenT V mb acc k) (e : V'.heap[mb]? = V.heap[mb]?) : SeenT V' mb acc k := by
  obtain ⟨n, D, hn, ⟨es, clock, hb, hr⟩, hat⟩ := h
  exact ⟨n, D, hn, ⟨es, clock, e.trans hb, hr⟩, hat⟩
theorem SeenT.lt {V : World} {mb : Nat} {acc : List ByteArray} {k : Nat} (h : SeenT V mb acc k) : mb < V.heap.size := by obtain ⟨n, D, _, hown, _⟩ := h; exact hown.lt
theorem SeenT.mono {V : World} {mb : Nat} {acc : List ByteArray} {k : Nat} (h : SeenT V mb acc k) : SeenT V mb acc (k + 1) := by obtain ⟨n, D, hn, hr⟩ := h; exact ⟨n, D, by omega, hr⟩
set_option maxRecDepth 100000 in
theorem SeenT.look {V : World} {mb : Nat} {acc : List ByteArray} {k : Nat} (h : SeenT V mb acc k) (s : ByteArray) (hs : s.size ≤ maxLen) : (Instr.lookup 87 (.map (some mb)) (.string s) false).run Try.prog V = .ok (.bool (findT acc s).isSome) V := by
  obtain ⟨n, D, hn, hown, hat⟩ := h
  obtain ⟨v, ps, hrun, hv⟩ := hown.lookup keyed_str Try.underlying87 (zero_bool V) (plainElem_bool Try.underlying4 false) (WideMaps.keyOf_string_mk Try.underlying9 hs)
  rw [show D.atKey (.string s.data.toList) (.lit (.bool false)) = _ from hat s] at hv
  have : v = .bool (findT acc s).isSome := by
    unfold plainElem at hv
    rw [Try.underlying4] at hv
    cases v <;> simp at hv
    rw [hv.1]
  rw [hrun, this]
set_option maxRecDepth 100000 in
theorem SeenT.put {V : World} {mb : Nat} {acc : List ByteArray} {k : Nat} (h : SeenT V mb acc k) (hk : k ≤ 1000000) (s : ByteArray) (hs : s.size ≤ maxLen) :
    ∃ V', (Instr.mapUpdate 87 (.map (some mb)) (.string s) (.bool true)).run Try.prog V = .ok () V' ∧ SeenT V' mb (acc ++ [s]) (k + 1) ∧ V.grownBy V' (some mb) := by
  obtain ⟨n, D, hn, hown, hat⟩ := h
  obtain ⟨V', hrun, hown', hg⟩ := hown.update keyed_str Try.underlying87 (by unfold maxLen; omega) (WideMaps.keyOf_string_mk Try.underlying9 hs) (plainElem_bool Try.underlying4 true)
  refine ⟨V', hrun, ⟨n + 1, _, by omega, hown', fun t => ?_⟩, hg⟩
  rw [findT_snoc]
  by_cases e : s = t
  · subst e
    rw [if_pos rfl]
    have : (D.put (keyT s) (.lit (.bool true))).atKey (keyT s) (.lit (.bool false)) = .lit (.bool true) := atKey_put_same hown.isMap (keyT_key _) _ _
    refine this.trans ?_
    cases findT acc s <;> rfl
  · rw [if_neg e, Option.or_none]
    have : (D.put (keyT s) (.lit (.bool true))).atKey (keyT t) (.lit (.bool false)) = D.atKey (keyT t) (.lit (.bool false)) := atKey_put_other (keyT_ne (Ne.symm e)) _ _
    exact this.trans (hat t)
theorem quote_notQ (s : ByteArray) : ((quoteT s).2 = 0 ∧ notQ s = false) ∨ ((quoteT s).2 ≠ 0 ∧ notQ s = true) := by
  unfold quoteT notQ quotedB
  by_cases h : s.size ≤ 16384
  · by_cases h2 : s.data.toList.all visB = true
    · left; rw [if_pos h, if_pos h2, h2]; simp [h]
    · right; rw [if_pos h, if_neg h2]; simp [h, h2]
  · right; rw [if_neg h]; simp [h]
theorem concat_all (g : Nat) (a : Option Addr) (c : Nat) (all : List ByteArray) (w : World) (h : w.heap[g]? = some (.cells #[.slice none 0 0, .slice a all.length c] 26 (0, 0))) (B : Nat) (hO : OwnS w B (.slice a all.length c) all) (hl : all.length ≤ 1000000) :
    Calls Try.prog 42 #[.slice (some ⟨g, 0, none⟩) 2 2] w fun e w' => ∃ v, e = .returned v ∧ w'.ownsRow w.heap.size 9 1 v all.length (strCells all) ∧ w.grownBy w' none := by
  by_cases hn : all = []
  · have := hO.2 hn
    subst hn
    injection this with h1 h2 h3
    subst h1; subst h3
    refine (concat_0 g w h).mono ?_
    rintro e w' ⟨rfl, rfl⟩
    exact ⟨_, rfl, World.ownsRow_nil _ _ _ _, ⟨rfl, rfl, rfl, Nat.le_refl _, fun _ _ _ => rfl⟩⟩
  · exact concat_n g a c all w h B hO (List.length_pos_iff.2 hn) hl
/-- What with answers of these texts. -/
def WithOk (all : List ByteArray) (w : World) (e : Ending) (w' : World) : Prop :=
  Below w.heap.size w w' ∧ ((all.any notQ = true ∧ e = .returned (.tuple #[.slice none 0 0, .int .i64 3])) ∨ (all.any notQ = false ∧ 1000 < (dedup all).length ∧ e = .returned (.tuple #[.slice none 0 0, .int .i64 5])) ∨
    (all.any notQ = false ∧ (dedup all).length ≤ 1000 ∧ ∃ v, e = .returned (.tuple #[v, .int .i64 0]) ∧ IsTexts w' v (dedup all) ∧ ∀ g, v.ownBlock = some g → w.heap.size ≤ g))
theorem RowB.mono {B B' : Nat} {w : World} {v : Value} {n : Nat} {xs : List Value} (h : RowB B w v n xs) (hB : B ≤ B') : RowB B' w v n xs := by
  obtain ⟨a, c, hv, hlc, hl⟩ := h
  refine ⟨a, c, hv, hlc, fun hne => ?_⟩
  obtain ⟨b, off, ha, hlt, hc⟩ := hl hne
  exact ⟨b, off, ha, by omega, hc⟩
theorem IsExp.mono {B B' : Nat} {w : World} {x : ExpD} (h : IsExp B w x) (hB : B ≤ B') : IsExp B' w x := by
  induction h with
  | mk h1 h2 _ ih => exact .mk (h1.mono hB) h2 ih
set_option maxHeartbeats 4000000 in
set_option maxRecDepth 100000 in
theorem with_nil (bv : Value) (bodies : List ExpD) (w : World) (hR : RowB w.heap.size w bv bodies.length (expCells bodies)) (hY : ∀ y ∈ bodies, IsExp w.heap.size w y) (hs : sizeL bodies ≤ 10000) (hsz : ∀ s ∈ textsL bodies, s.size ≤ maxLen) :
    Calls Try.prog 19 #[.slice none 0 0, bv] w (WithOk (textsL bodies) w) := by
  have hmm := @run_makeMap Try.prog
  have hll := length_le bodies
  have HR := Lib.hid hR
  have HY := Lib.hid hY
  have HSZ := Lib.hid hsz
  obtain ⟨ba, bc, rfl, hbc, _⟩ := hR
  obtain ⟨is0, his, isz0, isz1, isz2⟩ := info_parts info_str
  have htl : (textsL bodies).length ≤ 10000 := by have := textsL_le bodies fun y _ => textsX_le y; omega
  have HB0 := Lib.hid (Below.refl w.heap.size w)
  clear hY hsz
  go_enter Try.func19, Try.ntmps19
  go_wp2_with fail
  go_loopw [6, 21] (fun lv i wr => ∃ k : Nat, k ≤ bodies.length ∧ i = .int .i64 k ∧ Hid (OwnS wr w.heap.size lv (textsL (bodies.take k))) ∧ Hid (Below w.heap.size w wr)) (fun _ i _ => bodies.length - (intOf i).toNat)
  case atStart => exact ⟨0, Nat.zero_le _, rfl, by rw [List.take_zero, textsL_nil]; exact OwnS.nil _ _, HB0⟩
  case round =>
    obtain ⟨k, hk, rfl, HO, HB⟩ := hrel
    by_cases hkl : k < bodies.length
    · obtain ⟨b, off, rfl, hbB2, c0, c1, c2, c3⟩ := parts_at HR.out HB.out k hkl
      have hmem := getD_mem default bodies k hkl
      have HT := Lib.hid (show textsL (bodies.take (k + 1)) = textsL (bodies.take k) ++ textsX (bodies.getD k default) from by rw [take_one default bodies k hkl, textsL_snoc])
      have hyk := (HY.out _ hmem).under HB.out
      have hlen : (textsL (bodies.take k)).length + sizeX (bodies.getD k default) ≤ 100000 := by
        have h1 := textsL_le (bodies.take k) fun y _ => textsX_le y
        have h2 := sizeL_take bodies (k + 1)
        rw [take_one default bodies k hkl, sizeL_snoc] at h2
        omega
      clear hmem
      generalize bodies.getD k default = x at *
      obtain ⟨xo, xn, xs, xv, xl⟩ := x
      obtain ⟨xa, xc, rfl, _⟩ := hyk.parts.1
      simp only [ExpD.op, ExpD.n, ExpD.s, ExpD.lv] at c0 c1 c2 c3
      have hg3 := grown_alloc wr (.cells #[.int .i64 xo, .int .i64 xn, .string xs, .slice xa xl.length xc] 36)
      have gX := new_heap wr (.cells #[.int .i64 xo, .int .i64 xn, .string xs, .slice xa xl.length xc] 36)
      obtain ⟨e0, e1, e2, e3⟩ := exp_box gX
      have hszr := HB.out.size
      have hszg := hg3.size
      have hlv := owns_lt HO.out.1
      have HM := Lib.hid (strings_any w.heap.size w.heap.size (Nat.le_refl _) _ u6 _ (wr.alloc (.cells #[.int .i64 xo, .int .i64 xn, .string xs, .slice xa xl.length xc] 36)) (by omega) (hyk.grown hg3 hszr (by nofun)) (HO.out.grown hg3 (by nofun)) hlen)
      have HB2 := Lib.hid (HB.out.trans (grown_under hg3 hszr (by nofun)))
      rw [expV_mk] at HM
      clear hyk gX hg3 hlen
      go_wp2_with fail
      refine HM.out.mono ?_
      rintro e w2 ⟨lv2, rfl, hO2, hg4, hf4⟩
      have HO2 : Hid (OwnS w2 w.heap.size lv2 (textsL (bodies.take (k + 1)))) := by rw [HT.out]; exact hO2
      have HB3 := Lib.hid (HB2.out.trans (grown_under (B := w.heap.size) hg4 (by omega) (fun j hj => (hlv j hj).1)))
      clear hO2 hg4 hf4 HM c0 c1 c2 c3 e0 e1 e2 e3
      go_wp2_with fail
      go_roundw
      case rel => exact ⟨k + 1, by omega, by go_num, HO2, HB3⟩
      case measure => simp [intOf]; omega
    · have hO2 := HO.out
      rw [List.take_of_length_le (by omega)] at hO2
      obtain ⟨la, lc, rfl⟩ := own_shape hO2.1
      obtain ⟨all, hall⟩ : ∃ all, textsL bodies = all := ⟨_, rfl⟩
      rw [hall] at hO2 htl HSZ
      simp only [hall]
      have hlv := owns_lt hO2.1
      have hg3 := grown_alloc wr (.cells #[.slice none 0 0, .slice la all.length lc] 26)
      have gA := new_heap wr (.cells #[.slice none 0 0, .slice la all.length lc] 26)
      have HO3 := Lib.hid (hO2.grown hg3 (by nofun))
      have HC := Lib.hid (concat_all _ la lc all _ gA w.heap.size HO3.out (by omega))
      have HB3 := Lib.hid (HB.out.trans (grown_under hg3 HB.out.size (by nofun)))
      have hsz3 := hg3.size
      clear gA hg3 hO2
      go_wp2_with fail
      refine HC.out.mono ?_
      rintro e w2 ⟨cv, rfl, hcv, hgc⟩
      obtain ⟨ca, cc, rfl⟩ := own_shape hcv
      have hT2 : IsTexts w2 (.slice ca all.length cc) all := isRow_owns hcv
      have HT2 := Lib.hid hT2
      have HB4 := Lib.hid (HB3.out.trans (grown_under (B := w.heap.size) hgc HB3.out.size (by nofun)))
      have HO4 := Lib.hid (HO3.out.grown hgc (by nofun))
      have HBR := Lib.hid (Below.refl w2.heap.size w2)
      clear hcv hgc HC hT2
      have ham : all.length ≤ 9223372036854775807 := by omega
      go_wp2_with fail
      go_loopw [34] (fun i wr => ∃ k : Nat, k ≤ all.length ∧ i = .int .i64 k ∧ Hid ((all.take k).any notQ = false) ∧ Hid (Below w2.heap.size w2 wr)) (fun i _ => all.length - (intOf i).toNat)
      case atStart => exact ⟨0, Nat.zero_le _, rfl, rfl, HBR⟩
      case round =>
        obtain ⟨k, hk, rfl, hno, HB⟩ := hrel
        by_cases hkl : k < all.length
        · obtain ⟨tb, toff, tc', hta, _, _, t0⟩ := texts_at (IsRow.below HT2.out HB.out) k hkl
          obtain rfl := (Value.slice.inj hta).1
          have HQ := Lib.hid (quote_any (all.getD k default) wr)
          have Hn := Lib.hid (any_next default all notQ k hkl hno.out)
          have Hy := Lib.hid (any_hit default all notQ k hkl)
          have hq := quote_notQ (all.getD k default)
          generalize all.getD k default = x at *
          clear hta
          obtain ⟨q1, hq1⟩ : ∃ q1, (quoteT x).1 = q1 := ⟨_, rfl⟩
          obtain ⟨q2, hq2⟩ : ∃ q2, (quoteT x).2 = q2 := ⟨_, rfl⟩
          unfold QuoteOk at HQ
          rw [hq1, hq2] at HQ
          rw [hq2] at hq
          clear hq1 hq2
          rcases hq with ⟨rfl, hq⟩ | ⟨hqe, hq⟩
          · have HN := Lib.hid (Hn.out hq)
            go_wp2_with fail
            refine HQ.out.mono ?_
            rintro e w3 ⟨rfl, hb3⟩
            have HB5 := Lib.hid (HB.out.trans (hb3.mono HB.out.size))
            clear hb3
            go_wp2_with fail
            go_roundw
            case rel => exact ⟨k + 1, by omega, by go_num, HN, HB5⟩
            case measure => simp [intOf]; omega
          · have HN := Lib.hid (Hy.out hq)
            have hqe2 : (q2 == 0) = false := beq_eq_false_iff_ne.2 hqe
            go_wp2_with fail
            refine HQ.out.mono ?_
            rintro e w3 ⟨rfl, hb3⟩
            have HB5 := Lib.hid (HB4.out.trans ((HB.out.trans (hb3.mono HB.out.size)).mono HB4.out.size))
            clear hb3
            go_wp2_with fail
            go_ret2
            exact ⟨HB5.out, by rw [hall]; exact .inl ⟨HN.out, rfl⟩⟩
        · have hno2 := hno.out
          rw [List.take_of_length_le (by omega)] at hno2
          have HNO := Lib.hid hno2
          have HB5 := Lib.hid (HB4.out.trans (HB.out.mono HB4.out.size))
          have HO5 := Lib.hid (HO4.out.grown (grown_below HB.out) (by nofun))
          clear hno2
          go_wp2_with fail
          refine (clone_0 _).mono ?_
          rintro e w' ⟨rfl, rfl⟩
          go_wp2_with fail
          go_loop [51] (fun i => i = .int .i64 0) (fun _ => 0)
          case atStart => rfl
          case round =>
            subst hrel
            have hgm := grown_alloc wr (.map #[] 0)
            have HS6 : Hid (SeenT (wr.alloc (.map #[] 0)) wr.heap.size [] 0) := SeenT.start
            have HO6 := Lib.hid (HO5.out.grown hgm (by nofun))
            have HB6 := Lib.hid (HB5.out.trans (grown_under (B := w.heap.size) hgm HB5.out.size (by nofun)))
            have hszm : (wr.alloc (.map #[] 0)).heap.size = wr.heap.size + 1 := by simp
            have hszw := HB5.out.size
            have hlvm := owns_lt HO5.out.1
            clear hgm
            go_wp2_with fail
            generalize wr.alloc (.map #[] 0) = W at *
            generalize wr.heap.size = mb at *
            have HBW := Lib.hid (Below.refl mb W)
            have HOV : Hid (OwnS W (mb + 1) (.slice none 0 0) []) := OwnS.nil _ _
            go_loopw [13, 60] (fun ov i wr => ∃ k : Nat, k ≤ all.length ∧ i = .int .i64 k ∧ Hid (OwnS wr (mb + 1) ov (dedup (all.take k))) ∧ Hid (SeenT wr mb (dedup (all.take k)) k) ∧ Hid (Below mb W wr)) (fun _ i _ => all.length - (intOf i).toNat)
            case atStart => exact ⟨0, Nat.zero_le _, rfl, by rw [List.take_zero]; exact HOV, by rw [List.take_zero]; exact HS6, HBW⟩
            case round =>
              obtain ⟨k, hk, rfl, HOv, HS, HB⟩ := hrel
              have hszr := HB.out.size
              have hdl := dedup_len (all.take k)
              have htk : (all.take k).length ≤ k := by rw [List.length_take]; omega
              have hovl := owns_lt HOv.out.1
              by_cases hkl : k < all.length
              · have hO7 := owns_lt HO6.out.1
                have HO7 : Hid (OwnS wr w.heap.size (.slice la all.length lc) all) := ⟨by
                  obtain ⟨h1, h2⟩ := HO6.out.1
                  refine ⟨h1, ?_⟩
                  rcases h2 with h2 | ⟨g, cap, cur, hv, hb, hh, hrest⟩
                  · exact .inl h2
                  · exact .inr ⟨g, cap, cur, hv, hb, (HB.out.block g (by
                      have := hlvm g (by rw [hv]; rfl)
                      omega)).trans hh, hrest⟩, HO6.out.2⟩
                obtain ⟨tb, toff, tc', hta, _, _, t0⟩ := texts_at HO7.out.texts k hkl
                obtain rfl := (Value.slice.inj hta).1
                have hsx := HSZ.out _ (getD_mem default all k hkl)
                have hlook := HS.out.look (all.getD k default) hsx
                have hdt := dedup_take all k hkl
                have HPUT := Lib.hid (HS.out.put (by omega) (all.getD k default) hsx)
                unfold addT at hdt
                generalize all.getD k default = x at *
                obtain ⟨bb, hbb⟩ : ∃ bb, (findT (dedup (all.take k)) x).isSome = bb := ⟨_, rfl⟩
                rw [hbb] at hlook hdt
                clear hta hbb hsx hO7
                cases bb
                · rw [if_neg (by simp)] at hdt
                  obtain ⟨V', hput, hS2, hg2⟩ := HPUT.out
                  rw [← hdt] at hS2
                  have hOv2 := HOv.out.grown hg2 (fun j hj e => by cases hj; have := (hovl _ e).1; omega)
                  obtain ⟨oa, oc, rfl⟩ := own_shape HOv.out.1
                  have HBP := Lib.hid (HB.out.trans (grown_under (B := mb) hg2 (by omega) (fun j hj => by cases hj; exact Nat.le_refl _)))
                  have HS2 := Lib.hid hS2
                  have HOv2 := Lib.hid hOv2
                  have hszv := hg2.size
                  have HDT := Lib.hid hdt
                  clear hS2 hOv2 hg2 hdt HPUT
                  go_wp2_with (at_builtin; refine wpList_append_lies _ rfl _ _ 26 rfl (mb + 1) 9 is0 (.string ByteArray.empty) 1 16 Try.underlying26 his isz0 isz1 isz2 rfl (by decide) _ (dedup (all.take k)).length (strCells (dedup (all.take k))) rfl (HOv2.out.1.alloc _) ⟨V'.heap.size, 0, none⟩ 1 1 [.string x] rfl rfl ?c1 ?c2 (by decide) ?c3 ?c4 ?c5 _ rfl ?_)
                  case c1 => exact World.news_of_block (cs := #[.string x]) (new_heap V' _)
                  case c2 => intro u hu; simp at hu; subst hu; rfl
                  case c3 => unfold maxLen; omega
                  case c4 => omega
                  case c5 => simp; omega
                  intro g8 cap8 w8 hown8 hgrow8 hat8 hlt8
                  have hg7 := grown_alloc V' (.cells #[.string x] 9)
                  have hov7 := owns_lt (HOv2.out.grown hg7 (by nofun)).1
                  have HO8 : Hid (OwnS w8 (mb + 1) (.slice (some ⟨g8, 0, none⟩) ((dedup (all.take k)).length + 1) cap8) (dedup (all.take (k + 1)))) := ⟨by rw [HDT.out, strCells_snoc, List.length_append, List.length_singleton]; exact hown8, fun e => by rw [HDT.out] at e; simp at e⟩
                  have HS8 := Lib.hid (HS2.out.stays ((hgrow8.block mb (by have := HS2.out.lt; simp; omega) (fun e => by have := (hov7 mb e.symm).1; omega)).trans (hg7.block mb HS2.out.lt (by nofun))))
                  have HB8 := Lib.hid ((HBP.out.trans (grown_under (B := mb) hg7 (by omega) (by nofun))).trans (grown_under (B := mb) hgrow8 (by have := hg7.size; omega) (fun j hj => by have := (hov7 j hj).1; omega)))
                  clear hg7 hov7 hown8 hgrow8 hat8
                  go_wp2_with fail
                  go_roundw
                  case rel => exact ⟨k + 1, by omega, by go_num, HO8, HS8, HB8⟩
                  case measure => simp [intOf]; omega
                · rw [if_pos rfl] at hdt
                  have HO8 : Hid (OwnS wr (mb + 1) u13 (dedup (all.take (k + 1)))) := by rw [hdt]; exact HOv
                  have HS8 : Hid (SeenT wr mb (dedup (all.take (k + 1))) (k + 1)) := by rw [hdt]; exact HS.out.mono
                  clear hdt HPUT
                  go_wp2_with fail
                  go_roundw
                  case rel => exact ⟨k + 1, by omega, by go_num, HO8, HS8, HB⟩
                  case measure => simp [intOf]; omega
              · have hO8 := HOv.out
                rw [List.take_of_length_le (by omega)] at hO8
                obtain ⟨oa, oc, rfl⟩ := own_shape hO8.1
                have HT8 := Lib.hid hO8.texts
                have HTB := Lib.hid (fun g hg => show w.heap.size ≤ g from by have := (owns_lt hO8.1 g hg).1; omega)
                have HB8 := Lib.hid (HB6.out.trans (HB.out.mono hszw))
                have hdl2 := dedup_len all
                clear hO8
                by_cases h1000 : 1000 < ((dedup all).length : Int)
                · go_wp2_with fail
                  go_ret2
                  refine ⟨HB8.out, ?_⟩
                  try rw [hall]
                  exact .inr (.inl ⟨HNO.out, by omega, rfl⟩)
                · go_wp2_with fail
                  go_ret2
                  refine ⟨HB8.out, ?_⟩
                  try rw [hall]
                  exact .inr (.inr ⟨HNO.out, by omega, _, rfl, HT8.out, HTB.out⟩)
end Go.Proofs.Ytidolpcbbbakmaa
