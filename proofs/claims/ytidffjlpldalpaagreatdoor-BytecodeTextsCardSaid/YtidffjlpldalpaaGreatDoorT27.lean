/- The reference's split and Op. The state while a text is read: texts, functions and codes are owned; their blocks lie apart. Texts of programs: what is written is read, and what is read was so written. The program's read: what is plain. -/
import Derived.Test.YtidffjlpldalpaaGreatDoorT25
import Derived.Test.YtidffjlpldalpaaGreatDoorT26
import Derived.Test.YtidffjlpldalpaaGreatDoorT24
set_option linter.unusedVariables false
set_option linter.unusedSimpArgs false
namespace Go.Proofs.YtidffjlpldalpaaGreatDoor
open Go Go.RowKit

def SplitR (s : ByteArray) (w : World) (e : Ending) (w' : World) : Prop :=
  ∃ (a b : ByteArray) (m : Bool), e = .returned (.tuple #[.string a, .string b, .bool m]) ∧ Below w.heap.size w w' ∧ (spl 32 s.data.toList).headD [] = a.data.toList ∧ a.size ≤ s.size ∧ b.size ≤ s.size ∧ (m = true → (spl 32 s.data.toList).tail = spl 32 b.data.toList ∧ b.data.toList = s.data.toList.drop (a.size + 1)) ∧ (m = false → (spl 32 s.data.toList).tail = [])
set_option maxHeartbeats 2000000 in
set_option maxRecDepth 100000 in
theorem rsplit_any (s : ByteArray) (w : World) (hs : s.size ≤ 1000000) :
    Calls Tryz.prog 42 #[.string s] w (SplitR s w) := by
  go_enter Tryz.func42, Tryz.ntmps42
  go_wp2_with fail
  go_loopw [5] (fun i wx => ∃ j : Nat, j ≤ s.size ∧ i = .int .i64 j ∧ Hid ((32 : UInt8) ∉ s.data.toList.take j) ∧ wx = w) (fun i _ => s.size - (intOf i).toNat)
  case atStart => exact ⟨0, Nat.zero_le _, rfl, by show _ ∉ _; simp, rfl⟩
  case round =>
    obtain ⟨j, hj, rfl, HJ, rfl⟩ := hrel
    rename World => V
    by_cases hlt : j < s.size
    · obtain ⟨u0, u1⟩ := ub s[j]
      by_cases h32 : s[j] = 32
      · have q32 : (s[j].toNat : Int) = 32 := by rw [h32]; rfl
        have hsp := at_space s 32 j hlt h32
        have hS := spl_hit 32 _ (s.data.toList.drop (j + 1)) HJ.out
        rw [← hsp] at hS
        have e1 : (s.extract 0 j).size = j := by simp; omega
        have e2 : (s.extract (j + 1) s.size).size = s.size - (j + 1) := by simp
        have HS : Hid ((spl 32 s.data.toList).headD [] = (s.extract 0 j).data.toList ∧ (spl 32 s.data.toList).tail = spl 32 (s.extract (j + 1) s.size).data.toList ∧ (s.extract (j + 1) s.size).data.toList = s.data.toList.drop ((s.extract 0 j).size + 1)) := by
          show _ ∧ _ ∧ _
          rw [ext_take, ext_drop, hS, e1]; exact ⟨rfl, rfl, rfl⟩
        clear hsp hS HJ
        go_wp2_with fail
        go_region
        all_goals go_wp2_with fail
        all_goals
          refine bodyPost_ret (results_tmp3 rfl _ _ _) rfl ?_
          exact ⟨_, _, _, rfl, (Below.refl _ _).drew, HS.out.1, by omega, by omega, fun _ => HS.out.2, by nofun⟩
      · have e32 : ((s[j].toNat : Int) == 32) = false := u8_ne s[j] 32 (by decide) h32
        have HJ2 := Lib.hid (not_in_next s 32 j hlt h32 HJ.out)
        clear HJ h32
        go_wp2_with fail
        go_round
        case rel => exact ⟨j + 1, by omega, by go_num, HJ2, trivial⟩
        case measure => simp [intOf]; omega
    · obtain rfl : j = s.size := by omega
      have hnot : (32 : UInt8) ∉ s.data.toList := by
        have h := HJ.out
        rw [List.take_of_length_le (by rw [data_len]; exact Nat.le_refl _)] at h
        exact h
      have HS := Lib.hid (spl_none 32 _ hnot)
      clear HJ hnot
      go_wp2_with fail
      go_ret3
      exact ⟨_, _, _, rfl, Below.refl _ _, by rw [HS.out]; rfl, Nat.le_refl _, Nat.zero_le _, by nofun, fun _ => by rw [HS.out]; rfl⟩
theorem opU_of {f : List UInt8} {j : Nat} (h1 : 1 ≤ j) (h2 : j ≤ 16) (h : wordU (j : Int) = f) : opU f = (j : Int) := by rw [← h]; exact (opU_word (j : Int) (by omega) (by omega)).1
set_option maxHeartbeats 2000000 in
set_option maxRecDepth 100000 in
theorem rop_any (s : ByteArray) (w : World) :
    Calls Tryz.prog 45 #[.string s] w fun e w' => e = .returned (.int .i64 (opU s.data.toList)) ∧ Below w.heap.size w w' := by
  obtain ⟨f, hf⟩ : ∃ f, s.data.toList = f := ⟨_, rfl⟩
  have HF := Lib.hid hf
  rw [hf]
  clear hf
  go_enter Tryz.func45, Tryz.ntmps45
  go_wp2_with fail
  go_loopw [3] (fun i wr => ∃ j : Nat, 1 ≤ j ∧ j ≤ 17 ∧ i = .int .i64 j ∧ Hid (NoWord f j) ∧ Below w.heap.size w wr) (fun i _ => 17 - (intOf i).toNat)
  case atStart => exact ⟨1, by decide, by decide, rfl, fun k h1 h2 => absurd h2 (by omega), Below.refl _ _⟩
  case round =>
    rename World => V
    obtain ⟨j, hj1, hj, rfl, HNW, hbr⟩ := hrel
    by_cases hj17 : j < 17
    · have HW := Lib.hid (word_any (j : Int) V)
      by_cases hw : wordU (j : Int) = f
      · have hSe : ((wordS (j : Int)).toList == s.toList) = true := by rw [Go.ByteArray.toList_eq, Go.ByteArray.toList_eq, HF.out, beq_iff_eq]; exact hw
        have HO := Lib.hid (opU_of hj1 (by omega) hw)
        clear hw HNW
        go_wp2_with fail
        refine HW.out.mono ?_
        rintro e w2 ⟨rfl, hb2⟩
        go_wp2_with fail
        go_ret
        exact ⟨by rw [HO.out]; rfl, hbr.trans (hb2.mono hbr.size)⟩
      · have hSe : ((wordS (j : Int)).toList == s.toList) = false := by rw [Go.ByteArray.toList_eq, Go.ByteArray.toList_eq, HF.out, beq_eq_false_iff_ne]; exact hw
        have HN := Lib.hid (noWord_next f j HNW.out (.inr hw))
        clear hw HNW
        go_wp2_with fail
        refine HW.out.mono ?_
        rintro e w2 ⟨rfl, hb2⟩
        go_wp2_with fail
        go_round
        case rel => exact ⟨j + 1, by omega, by omega, by go_num, HN, hbr.trans (hb2.mono hbr.size)⟩
        case measure => simp [intOf]; omega
    · obtain rfl : j = 17 := by omega
      have HO := Lib.hid (noWord_end f HNW.out)
      clear HNW
      go_wp2_with fail
      go_ret
      exact ⟨by rw [HO.out]; rfl, hbr⟩

theorem owns_set {V : World} {B : Nat} {e : TypeId} {s n : Nat} {g c : Nat} {xs : List Value} (h : V.ownsRow B e s (.slice (some ⟨g, 0, none⟩) n c) n xs) (i : Nat) (u : Value) : (V.setCell ⟨g, i, none⟩ u).ownsRow B e s (.slice (some ⟨g, 0, none⟩) n c) n (xs.set i u) := by
  obtain ⟨h1, h2⟩ := h
  refine ⟨by rw [List.length_set]; exact h1, ?_⟩
  rcases h2 with ⟨h2, _⟩ | ⟨g', cap, cur, hv, hb, hh, hn, hc, hs, ht⟩
  · cases h2
  · injection hv with ha _ hcap
    injection ha with ha
    injection ha with hg _ _
    subst hg
    subst hcap
    exact .inr ⟨_, _, _, rfl, hb, heap_set_same hh u, hn, hc, by simp [hs], by rw [Array.toList_setIfInBounds, List.take_set, ht]⟩
theorem owns_type {V : World} {B : Nat} {e : TypeId} {s n : Nat} {v : Value} {xs : List Value} (h : V.ownsRow B e s v n xs) (g : Nat) (hg : v.ownBlock = some g) : ∃ cur, V.heap[g]? = some (.cells cur e (0, 0)) := by
  obtain ⟨_, h2⟩ := h
  rcases h2 with ⟨rfl, _⟩ | ⟨g', cap, cur, rfl, hb, hh, _⟩
  · cases hg
  · cases hg; exact ⟨cur, hh⟩
theorem owns_apart {V : World} {B B' : Nat} {e e' : TypeId} {s s' n n' : Nat} {v v' : Value} {xs xs' : List Value} (h : V.ownsRow B e s v n xs) (h' : V.ownsRow B' e' s' v' n' xs') (hne : e ≠ e') (b : Nat) (hb : v.ownBlock = some b) : v'.ownBlock ≠ some b := fun hb' => by
  obtain ⟨c1, h1⟩ := owns_type h b hb
  obtain ⟨c2, h2⟩ := owns_type h' b hb'
  rw [h1] at h2
  injection h2 with h2
  injection h2 with _ h2 _
  exact hne h2
structure PSt (V : World) (B : Nat) (fv tv : Value) (fs : List FunD) (ts : List ByteArray) : Prop where
  fns : V.ownsRow B 48 4 fv fs.length (funCells fs)
  txt : V.ownsRow B 9 1 tv ts.length (strCells ts)
  code : ∀ f ∈ fs, V.ownsRow B 64 3 f.v f.code.length (insCells f.code)
  apart : fs.Pairwise fun f g => ∀ b, f.v.ownBlock = some b → g.v.ownBlock ≠ some b
theorem owns_low {V V' : World} {B : Nat} {e : TypeId} {s n : Nat} {v : Value} {xs : List Value} {r : Option Nat} (h : V.ownsRow B e s v n xs) (hg : V.grownBy V' r) (hr : ∀ k, r = some k → k < B) : V'.ownsRow B e s v n xs :=
  owns_grown h hg fun k hk e => by have := (owns_lt h k e).1; have := hr k hk; omega
theorem PSt.grown {V V' : World} {B : Nat} {fv tv : Value} {fs : List FunD} {ts : List ByteArray} {r : Option Nat} (h : PSt V B fv tv fs ts) (hg : V.grownBy V' r) (hr : ∀ k, r = some k → k < B) : PSt V' B fv tv fs ts :=
  ⟨owns_low h.fns hg hr, owns_low h.txt hg hr, fun f hf => owns_low (h.code f hf) hg hr, h.apart⟩
theorem PSt.nil (V : World) (B : Nat) : PSt V B (.slice none 0 0) (.slice none 0 0) [] [] :=
  ⟨⟨rfl, .inl ⟨rfl, rfl⟩⟩, ⟨rfl, .inl ⟨rfl, rfl⟩⟩, fun f hf => (by cases hf), .nil⟩
/-- One more text. -/
theorem PSt.text {V V' : World} {B : Nat} {fv tv : Value} {fs : List FunD} {ts : List ByteArray} (h : PSt V B fv tv fs ts) (s : ByteArray) {g cap n : Nat} (hn : ts.length = n)
    (ho : V'.ownsRow B 9 1 (.slice (some ⟨g, 0, none⟩) (n + 1) cap) (n + 1) (strCells ts ++ [.string s])) (hg : V.grownBy V' tv.ownBlock) : PSt V' B fv (.slice (some ⟨g, 0, none⟩) (n + 1) cap) fs (ts ++ [s]) := by
  subst hn
  refine ⟨owns_grown h.fns hg fun k hk e => owns_apart h.txt h.fns (by decide) k hk e, ?_, fun f hf => owns_grown (h.code f hf) hg fun k hk e => owns_apart h.txt (h.code f hf) (by decide) k hk e, h.apart⟩
  rw [show strCells (ts ++ [s]) = strCells ts ++ [.string s] by simp [strCells], List.length_append]
  exact ho
/-- One more function. -/
theorem PSt.fn {V V' : World} {B : Nat} {fv tv : Value} {fs : List FunD} {ts : List ByteArray} (h : PSt V B fv tv fs ts) (c l d : Int) {g cap n : Nat} (hn : fs.length = n)
    (ho : V'.ownsRow B 48 4 (.slice (some ⟨g, 0, none⟩) (n + 1) cap) (n + 1) (funCells fs ++ [.int .i64 c, .int .i64 l, .int .i64 d, .slice none 0 0])) (hg : V.grownBy V' fv.ownBlock) : PSt V' B (.slice (some ⟨g, 0, none⟩) (n + 1) cap) tv (fs ++ [⟨c, l, d, .slice none 0 0, []⟩]) ts := by
  subst hn
  refine ⟨?_, owns_grown h.txt hg fun k hk e => owns_apart h.fns h.txt (by decide) k hk e, fun f hf => ?_, ?_⟩
  · rw [funCells_app, List.length_append]; exact ho
  · rcases List.mem_append.1 hf with hf | hf
    · exact owns_grown (h.code f hf) hg fun k hk e => owns_apart h.fns (h.code f hf) (by decide) k hk e
    · obtain rfl : f = _ := by simpa using hf
      exact ⟨rfl, .inl ⟨rfl, rfl⟩⟩
  · refine List.pairwise_append.2 ⟨h.apart, List.pairwise_singleton _ _, fun f _ g hg b _ => ?_⟩
    obtain rfl : g = _ := by simpa using hg
    nofun
theorem funCells_set (fs : List FunD) (f : FunD) (v : Value) {k : Nat} (hk : fs.length = k) (is : List Ins) : (funCells (fs ++ [f])).set (k * 4 + 3) v = funCells (fs ++ [⟨f.c, f.l, f.d, v, is⟩]) := by
  subst hk
  have hl : ∀ l : List FunD, (funCells l).length = l.length * 4 := fun l => by
    induction l with
    | nil => rfl
    | cons a l ih => simp [funCells] at ih ⊢; omega
  rw [funCells_app, funCells_app, List.set_append_right _ _ (by rw [hl]; omega), hl, show fs.length * 4 + 3 - fs.length * 4 = 3 by omega]
  rfl
/-- One more instruction of the last function: its code has grown, and the function's cell is set. -/
theorem PSt.ins {V V' : World} {B : Nat} {tv : Value} {fs : List FunD} {f : FunD} {ts : List ByteArray} {fb fn fc : Nat} (h : PSt V B (.slice (some ⟨fb, 0, none⟩) fn fc) tv (fs ++ [f]) ts) (i : Ins) {g cap n k H : Nat} (hn : f.code.length = n) (hk : fs.length = k) (hH : V.heap.size = H)
    (ho : V'.ownsRow B 64 3 (.slice (some ⟨g, 0, none⟩) (n + 1) cap) (n + 1) (insCells f.code ++ [.int .i64 i.op, .int .i64 i.a, .int .i64 i.b])) (hg : V.grownBy V' f.v.ownBlock) (hat : f.v.ownBlock = some g ∨ g = H) :
    PSt (V'.setCell ⟨fb, k * 4 + 3, none⟩ (.slice (some ⟨g, 0, none⟩) (n + 1) cap)) B (.slice (some ⟨fb, 0, none⟩) fn fc) tv (fs ++ [⟨f.c, f.l, f.d, .slice (some ⟨g, 0, none⟩) (n + 1) cap, f.code ++ [i]⟩]) ts := by
  subst hn hH
  have hf : f ∈ fs ++ [f] := by simp
  have hfn : fn = (fs ++ [f]).length := by
    obtain ⟨_, h2⟩ := h.fns
    rcases h2 with ⟨h2, _⟩ | ⟨_, _, _, hv, _⟩
    · cases h2
    · injection hv
  have hff : V'.ownsRow B 48 4 (.slice (some ⟨fb, 0, none⟩) fn fc) (fs ++ [f]).length (funCells (fs ++ [f])) := owns_grown h.fns hg fun q hq e => owns_apart (h.code f hf) h.fns (by decide) q hq e
  have hset := grown_set V' fb (k * 4 + 3) (.slice (some ⟨g, 0, none⟩) (f.code.length + 1) cap)
  have hfe : (Value.slice (some ⟨fb, 0, none⟩) fn fc).ownBlock = some fb := rfl
  have hap := List.pairwise_append.1 h.apart
  refine ⟨?_, ?_, fun x hx => ?_, ?_⟩
  · have := owns_set (by rw [← hfn] at hff; exact hff) (k * 4 + 3) (.slice (some ⟨g, 0, none⟩) (f.code.length + 1) cap)
    rw [funCells_set fs f _ hk (f.code ++ [i])] at this
    rw [show (fs ++ [(⟨f.c, f.l, f.d, .slice (some ⟨g, 0, none⟩) (f.code.length + 1) cap, f.code ++ [i]⟩ : FunD)]).length = fn by rw [hfn]; simp]
    exact this
  · have ht : V'.ownsRow B 9 1 tv ts.length (strCells ts) := owns_grown h.txt hg fun q hq e => owns_apart (h.code f hf) h.txt (by decide) q hq e
    exact owns_grown ht hset fun q hq e => by cases hq; exact owns_apart hff ht (by decide) fb hfe e
  · rcases List.mem_append.1 hx with hx | hx
    · have hc := h.code x (List.mem_append_left _ hx)
      have hxx : V'.ownsRow B 64 3 x.v x.code.length (insCells x.code) := owns_grown hc hg fun q hq e => hap.2.2 x hx f (by simp) q e hq
      exact owns_grown hxx hset fun q hq e => by cases hq; exact owns_apart hff hxx (by decide) fb hfe e
    · obtain rfl : x = _ := by simpa using hx
      refine owns_grown (r := some fb) ?_ hset fun q hq e => by cases hq; exact owns_apart hff ho (by decide) fb hfe e
      show World.ownsRow _ _ _ _ _ (f.code ++ [i]).length (insCells (f.code ++ [i]))
      rw [insCells_app, List.length_append]; exact ho
  · refine List.pairwise_append.2 ⟨hap.1, List.pairwise_singleton _ _, fun x hx y hy b hb e => ?_⟩
    obtain rfl : y = _ := by simpa using hy
    cases e
    have hlt := (owns_lt (h.code x (List.mem_append_left _ hx)) g hb).2
    rcases hat with h1 | h1
    · exact hap.2.2 x hx f (by simp) g hb h1
    · omega
/-- What was read is a program. -/
theorem PSt.prog {V : World} {B : Nat} {fv tv : Value} {fs : List FunD} {ts : List ByteArray} (h : PSt V B fv tv fs ts) (main : Int) : IsProg V fv tv ⟨fs, ts, main⟩ :=
  ⟨⟨isRow_owns h.fns, fun f hf => isRow_owns (h.code f hf)⟩, isRow_owns h.txt⟩

structure InsOk (i : Ins) : Prop where
  lo : 1 ≤ i.op
  hi : i.op ≤ 16
  a : Num52 i.a
  b : Num52 i.b
  tight : tightI i
structure TextsOk (p : ProgS) : Prop where
  main : Num52 p.main
  texts : ∀ s ∈ p.texts, s.size ≤ 16384 ∧ s.data.toList.all visB = true
  heads : ∀ f ∈ p.funs, Num52 f.c ∧ Num52 f.l ∧ Num52 f.d
  codes : ∀ f ∈ p.funs, ∀ i ∈ f.code, InsOk i
theorem join_nl : ∀ (ps : List (List UInt8)) (w : List UInt8), (w ++ ps.flatMap fun x => 10 :: x) ++ [10] = (w :: ps).flatMap fun x => x ++ [10]
  | [], w => by simp
  | p :: ps, w => by
    have := join_nl ps p
    rw [List.flatMap_cons, List.flatMap_cons, ← this]
    simp
theorem drop_nl (ps : List (List UInt8)) (w : List UInt8) : ((w :: ps).flatMap fun x => x ++ [10]).dropLast = w ++ ps.flatMap fun x => 10 :: x := by
  rw [← join_nl, List.dropLast_concat]
theorem last_nl (ps : List (List UInt8)) (w : List UInt8) : ((w :: ps).flatMap fun x => x ++ [10]).getLast? = some 10 := by
  rw [← join_nl, List.getLast?_concat]

theorem suffix_nl (l : List UInt8) : Lib.hasSuffix l [10] = decide (l.getLast? = some 10) := by
  unfold Lib.hasSuffix
  rcases List.eq_nil_or_concat l with rfl | ⟨r, c, rfl⟩
  · rfl
  · rw [Bool.eq_iff_iff, List.isSuffixOf_iff_suffix, decide_eq_true_iff]
    simp only [List.concat_eq_append, List.getLast?_append, List.getLast?_singleton, Option.some_or, Option.some.injEq]
    constructor
    · rintro ⟨t, ht⟩
      have := congrArg List.getLast? ht
      simp at this
      exact this.symm
    · rintro rfl; exact ⟨r, rfl⟩
theorem trim_nl (l : List UInt8) (h : l.getLast? = some 10) : Lib.trimSuffix l [10] = l.dropLast := by
  unfold Lib.trimSuffix
  rw [if_pos (by rw [suffix_nl, h]; rfl), List.dropLast_eq_take]; rfl
theorem readT_no (l : List UInt8) (h : ¬ l.getLast? = some 10) : readT l = none := by unfold readT; rw [if_neg h]
theorem readT_yes (l : List UInt8) (h : l.getLast? = some 10) : readT l = foldT true ⟨[], [], 0⟩ (spl 10 l.dropLast) := by unfold readT; rw [if_pos h]
theorem foldT_cons (first : Bool) (p : ProgS) (x : List UInt8) (r : List (List UInt8)) : foldT first p (x :: r) = match stepT p (lineP first x) with | none => none | some q => foldT false q r := rfl
theorem foldT_some {A : Option ProgS} {first : Bool} {p q : ProgS} {x : List UInt8} {r : List (List UInt8)} (h : A = foldT first p (x :: r)) (hs : stepT p (lineP first x) = some q) : A = foldT false q r := by rw [h, foldT_cons, hs]
theorem foldT_none {A : Option ProgS} {first : Bool} {p : ProgS} {x : List UInt8} {r : List (List UInt8)} (h : A = foldT first p (x :: r)) (hs : stepT p (lineP first x) = none) : A = none := by rw [h, foldT_cons, hs]
theorem lineP_first (x : List UInt8) : lineP true x = if Lib.hasPrefix x [109, 97, 105, 110, 32] = true then mainU' (numsU (spl 32 x).tail) else .bad := by unfold lineP; rw [if_pos rfl]; rfl
theorem lineP_no (x : List UInt8) : lineP false x = if (wString ++ [32]).isPrefixOf x = true then (match unqU (x.drop 7) with | some t => .text t | none => .bad) else if (wFun ++ [32]).isPrefixOf x = true then funU' (numsU (spl 32 x).tail) else restK x := rfl
theorem lineP_string (x : List UInt8) (h : Lib.hasPrefix x [115, 116, 114, 105, 110, 103, 32] = true) : lineP false x = match unqU (x.drop 7) with | some t => .text t | none => .bad := by
  have h' : (wString ++ [32]).isPrefixOf x = true := h
  rw [lineP_no, if_pos h']
theorem lineP_function (x : List UInt8) (h1 : Lib.hasPrefix x [115, 116, 114, 105, 110, 103, 32] = false) (h : Lib.hasPrefix x [102, 117, 110, 32] = true) : lineP false x = funU' (numsU (spl 32 x).tail) := by
  have h1' : (wString ++ [32]).isPrefixOf x = false := h1
  have h' : (wFun ++ [32]).isPrefixOf x = true := h
  rw [lineP_no, h1', if_neg (by decide), if_pos h']
theorem lineP_other (x : List UInt8) (h1 : Lib.hasPrefix x [115, 116, 114, 105, 110, 103, 32] = false) (h : Lib.hasPrefix x [102, 117, 110, 32] = false) : lineP false x = restK x := by
  have h1' : (wString ++ [32]).isPrefixOf x = false := h1
  have h' : (wFun ++ [32]).isPrefixOf x = false := h
  rw [lineP_no, h1', if_neg (by decide), h', if_neg (by decide)]
def ReadAns (l : List UInt8) (w : World) (e : Ending) (w' : World) : Prop :=
  ∃ fv tv p ok, e = .returned (.tuple #[.agg #[fv, tv, .int .i64 p.main], .bool ok]) ∧ Below w.heap.size w w' ∧ IsProg w' fv tv p ∧ readT l = (if ok = true then some (strip p) else none) ∧ (ok = true → p.funs.length ≤ l.length ∧ p.texts.length ≤ l.length)
end Go.Proofs.YtidffjlpldalpaaGreatDoor
