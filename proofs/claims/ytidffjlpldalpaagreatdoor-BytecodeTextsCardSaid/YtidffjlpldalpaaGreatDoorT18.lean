/- lexer.literal: what stands behind an opening quote. The reference's Quote: the literal of a text. -/
import Derived.Test.YtidffjlpldalpaaGreatDoorT10
import Derived.Test.YtidffjlpldalpaaGreatDoorT17
set_option linter.unusedVariables false
set_option linter.unusedSimpArgs false
namespace Go.Proofs.YtidffjlpldalpaaGreatDoor
open Go Go.RowKit

def LitAns (s : ByteArray) (w : World) (e : Ending) (w' : World) : Prop :=
  ∃ (t : ByteArray) (n a er : Int), e = .returned (.tuple #[.string t, .int .i64 n, .int .i64 a, .int .i64 er]) ∧ Below w.heap.size w w' ∧ (er = 0 → ∃ r, litU (s.data.toList.drop 1) = some (t.data.toList, r) ∧ n = (s.size : Int) - (r.length : Int)) ∧ (er ≠ 0 → litU (s.data.toList.drop 1) = none)
abbrev preM (pre : List UInt8) (x : List UInt8 × List UInt8) : List UInt8 × List UInt8 := (pre ++ x.1, x.2)
theorem lit_get {A : Option (List UInt8 × List UInt8)} {pre l : List UInt8} {c : UInt8} (h : A = (litU (c :: l)).map (preM pre)) (h1 : c ≠ 34) (h2 : c ≠ 92) (h3 : 32 ≤ c.toNat ∧ c.toNat ≤ 126) : A = (litU l).map (preM (pre ++ [c])) := by
  rw [h]
  cases l with
  | nil => unfold litU; rw [if_neg h1]; rfl
  | cons d r =>
    rw [lit_step, if_neg h1, if_neg h2, if_pos h3]
    cases litU (d :: r) with
    | none => rfl
    | some x => simp [preM]
theorem lit_esc1 {A : Option (List UInt8 × List UInt8)} {pre l : List UInt8} {d : UInt8} (h : A = (litU (92 :: d :: l)).map (preM pre)) (hd : d = 34 ∨ d = 92) : A = (litU l).map (preM (pre ++ [d])) := by
  rw [h, lit_step, if_neg (by decide), if_pos rfl, if_pos hd]
  cases litU l with
  | none => rfl
  | some x => simp [preM]
theorem lit_esc2 {A : Option (List UInt8 × List UInt8)} {pre l : List UInt8} (h : A = (litU (92 :: 110 :: l)).map (preM pre)) : A = (litU l).map (preM (pre ++ [10])) := by
  rw [h, lit_step, if_neg (by decide), if_pos rfl, if_neg (by decide), if_pos rfl]
  cases litU l with
  | none => rfl
  | some x => simp [preM]
theorem lit_bad1 {A : Option (List UInt8 × List UInt8)} {pre l : List UInt8} {c : UInt8} (h : A = (litU (c :: l)).map (preM pre)) (h1 : c ≠ 34) (h2 : c ≠ 92) (h3 : ¬ (32 ≤ c.toNat ∧ c.toNat ≤ 126)) : A = none := by
  rw [h]
  cases l with
  | nil => unfold litU; rw [if_neg h1]; rfl
  | cons d r => rw [lit_step, if_neg h1, if_neg h2, if_neg h3]; rfl
theorem lit_bad2 {A : Option (List UInt8 × List UInt8)} {pre l : List UInt8} {d : UInt8} (h : A = (litU (92 :: d :: l)).map (preM pre)) (h1 : d ≠ 34) (h2 : d ≠ 92) (h3 : d ≠ 110) : A = none := by
  rw [h, lit_step, if_neg (by decide), if_pos rfl, if_neg (by rintro (e | e); exact h1 e; exact h2 e), if_neg h3]; rfl
theorem lit_bad3 {A : Option (List UInt8 × List UInt8)} {pre : List UInt8} (h : A = (litU [92]).map (preM pre)) : A = none := by rw [h]; rfl
theorem lit_bad4 {A : Option (List UInt8 × List UInt8)} {pre : List UInt8} (h : A = (litU []).map (preM pre)) : A = none := by rw [h]; rfl
theorem lit_good {A : Option (List UInt8 × List UInt8)} {pre l : List UInt8} (h : A = (litU (34 :: l)).map (preM pre)) : A = some (pre, l) := by rw [h, lit_end]; simp [preM]
theorem data_len (s : ByteArray) : s.data.toList.length = s.size := Array.length_toList
theorem drop_next (s : ByteArray) (k : Nat) (h : k < s.size) : s.data.toList.drop k = s[k] :: s.data.toList.drop (k + 1) := by
  rw [List.drop_eq_getElem_cons (by simpa using h)]; rfl
theorem u8_ne (b : UInt8) (n : Nat) (hn : n < 256) (h : b ≠ UInt8.ofNat n) : ((b.toNat : Int) == (n : Int)) = false := by rw [u8_of b n hn]; simpa using h
theorem results_tmp4 {fn : Func} {t u v x : Tmp} (h : fn.results = #[.tmp t, .tmp u, .tmp v, .tmp x]) (tmps : Array Value) (P : Program) (w : World) :
    (results fn tmps).run P w = .ok (.tuple #[tmps.getD t undef, tmps.getD u undef, tmps.getD v undef, tmps.getD x undef]) w := by
  simp [results, h]
set_option maxHeartbeats 2000000 in
set_option maxRecDepth 100000 in
theorem literal_any (s : ByteArray) (w : World) (hs : s.size ≤ 40000) (h1 : 1 ≤ s.size) :
    Calls Tryz.prog 81 #[.string s] w (LitAns s w) := by
  have HB1 : Hid (Lib.IsBuilder 52 5 w.heap.size w.heap.size (Lib.byteCells []) (w.alloc (.cells #[.pointer none, .slice none 0 0] 52))) := bld_fresh w _ (Nat.le_refl _)
  have hb1 : Below w.heap.size w (w.alloc (.cells #[.pointer none, .slice none 0 0] 52)) := (Below.refl _ _).alloc (Nat.le_refl _) _
  go_enter Tryz.func81, Tryz.ntmps81
  go_wp2_with fail
  generalize w.alloc (.cells #[.pointer none, .slice none 0 0] 52) = w1 at *
  go_loopw [7] (fun i wr => (∃ (k : Nat) (pre : List UInt8), 1 ≤ k ∧ k ≤ s.size ∧ pre.length ≤ k ∧ i = .int .i64 k ∧ Hid (litU (s.data.toList.drop 1) = (litU (s.data.toList.drop k)).map (preM pre)) ∧ Hid (Lib.IsBuilder 52 5 w.heap.size w.heap.size (Lib.byteCells pre) wr)) ∧ Below w.heap.size w wr) (fun i _ => s.size - (intOf i).toNat)
  case atStart => exact ⟨⟨1, [], Nat.le_refl 1, h1, Nat.zero_le _, rfl, by show _ = _; cases litU (s.data.toList.drop 1) <;> rfl, HB1⟩, hb1⟩
  case round =>
    clear HB1 hb1 w1
    rename World => V
    obtain ⟨⟨k, pre, hk1, hk, hpl, rfl, HL, HB⟩, hbr⟩ := hrel
    have hwz := hbr.size
    by_cases hlt : k < s.size
    · obtain ⟨u0, u1⟩ := ub s[k]
      have hL := HL.out
      rw [drop_next s k hlt] at hL
      by_cases c34 : s[k] = 34
      · rw [c34] at hL
        have HG := Lib.hid (lit_good hL)
        have q34 : (s[k].toNat : Int) = 34 := by rw [c34]; rfl
        clear hL HL
        go_wp2_with fail
        refine (Tryz.Builder_String_any _ _ pre _ HB.out hwz).mono ?_
        rintro e w4 ⟨rfl, hb4⟩
        go_wp2_with fail
        try simp only [Exit.inBlock, Exit.then]
        refine bodyPost_ret (results_tmp4 rfl _ _ _) rfl ?_
        exact ⟨_, _, _, _, rfl, hbr.trans hb4, fun _ => ⟨_, HG.out, by simp; omega⟩, fun h => absurd rfl h⟩
      · have e34 : ((s[k].toNat : Int) == 34) = false := u8_ne s[k] 34 (by decide) c34
        by_cases c92 : s[k] = 92
        · rw [c92] at hL
          have q92 : (s[k].toNat : Int) = 92 := by rw [c92]; rfl
          clear e34
          by_cases hk2 : k + 1 < s.size
          · obtain ⟨d0, d1⟩ := ub s[k + 1]
            rw [drop_next s (k + 1) hk2] at hL
            by_cases d34 : s[k + 1] = 34
            · rw [d34] at hL
              have HN := Lib.hid (lit_esc1 hL (.inl rfl))
              have qd : (s[k + 1].toNat : Int) = 34 := by rw [d34]; rfl
              clear hL HL
              go_wp2_with fail
              refine (bld_WriteByte w.heap.size w.heap.size _ _ _ HB.out (by rw [cellsLen]; omega) hwz).mono ?_
              rintro e w3 ⟨rfl, hbd, hb3, _⟩
              have HB3 : Hid (Lib.IsBuilder 52 5 w.heap.size w.heap.size (Lib.byteCells (pre ++ [34])) w3) := .inr (by have h := hbd; rw [Lib.byteCells_append]; exact h)
              clear hbd
              go_wp2_with fail
              go_round
              case rel => exact ⟨⟨k + 2, pre ++ [34], by omega, by omega, by simp; omega, by go_num, HN.out, HB3⟩, hbr.trans hb3⟩
              case measure => simp [intOf]; omega
            · have f34 : ((s[k + 1].toNat : Int) == 34) = false := u8_ne s[k + 1] 34 (by decide) d34
              by_cases d92 : s[k + 1] = 92
              · rw [d92] at hL
                have HN := Lib.hid (lit_esc1 hL (.inr rfl))
                have qd : (s[k + 1].toNat : Int) = 92 := by rw [d92]; rfl
                clear hL HL f34
                go_wp2_with fail
                refine (bld_WriteByte w.heap.size w.heap.size _ _ _ HB.out (by rw [cellsLen]; omega) hwz).mono ?_
                rintro e w3 ⟨rfl, hbd, hb3, _⟩
                have HB3 : Hid (Lib.IsBuilder 52 5 w.heap.size w.heap.size (Lib.byteCells (pre ++ [92])) w3) := .inr (by have h := hbd; rw [Lib.byteCells_append]; exact h)
                clear hbd
                go_wp2_with fail
                go_round
                case rel => exact ⟨⟨k + 2, pre ++ [92], by omega, by omega, by simp; omega, by go_num, HN.out, HB3⟩, hbr.trans hb3⟩
                case measure => simp [intOf]; omega
              · have f92 : ((s[k + 1].toNat : Int) == 92) = false := u8_ne s[k + 1] 92 (by decide) d92
                by_cases d110 : s[k + 1] = 110
                · rw [d110] at hL
                  have HN := Lib.hid (lit_esc2 hL)
                  have qd : (s[k + 1].toNat : Int) = 110 := by rw [d110]; rfl
                  clear hL HL f34 f92
                  go_wp2_with fail
                  refine (bld_WriteByte w.heap.size w.heap.size _ _ _ HB.out (by rw [cellsLen]; omega) hwz).mono ?_
                  rintro e w3 ⟨rfl, hbd, hb3, _⟩
                  have HB3 : Hid (Lib.IsBuilder 52 5 w.heap.size w.heap.size (Lib.byteCells (pre ++ [10])) w3) := .inr (by have h := hbd; rw [Lib.byteCells_append]; exact h)
                  clear hbd
                  go_wp2_with fail
                  go_round
                  case rel => exact ⟨⟨k + 2, pre ++ [10], by omega, by omega, by simp; omega, by go_num, HN.out, HB3⟩, hbr.trans hb3⟩
                  case measure => simp [intOf]; omega
                · have f110 : ((s[k + 1].toNat : Int) == 110) = false := u8_ne s[k + 1] 110 (by decide) d110
                  have HE := Lib.hid (lit_bad2 hL d34 d92 d110)
                  clear hL HL
                  go_wp2_with fail
                  try simp only [Exit.inBlock, Exit.then]
                  refine bodyPost_ret (results_tmp4 rfl _ _ _) rfl ?_
                  exact ⟨_, _, _, _, rfl, hbr, fun h => absurd h (by decide), fun _ => HE.out⟩
          · have hke : k + 1 = s.size := by omega
            have hkn : ((k : Int) + 1 < (s.size : Int)) = False := eq_false (by omega)
            have hnil : s.data.toList.drop (k + 1) = [] := List.drop_eq_nil_of_le (by rw [data_len]; omega)
            rw [hnil] at hL
            have HE := Lib.hid (lit_bad3 hL)
            clear hL HL hnil
            go_wp2_with fail
            try simp only [Exit.inBlock, Exit.then]
            refine bodyPost_ret (results_tmp4 rfl _ _ _) rfl ?_
            exact ⟨_, _, _, _, rfl, hbr, fun h => absurd h (by decide), fun _ => HE.out⟩
        · have e92 : ((s[k].toNat : Int) == 92) = false := u8_ne s[k] 92 (by decide) c92
          obtain ⟨qv, hv⟩ : ∃ q, showB (s[k].toNat : Int) = q := ⟨_, rfl⟩
          have HV := Lib.hid hv
          cases qv
          · have HE := Lib.hid (lit_bad1 hL c34 c92 (by unfold showB at hv; simp at hv; omega))
            clear hL HL hv
            go_wp2_with fail
            refine (visible_any _ _ u0 u1).mono ?_
            rintro e w' ⟨rfl, rfl⟩
            rw [HV.out]
            go_wp2_with fail
            try simp only [Exit.inBlock, Exit.then]
            refine bodyPost_ret (results_tmp4 rfl _ _ _) rfl ?_
            exact ⟨_, _, _, _, rfl, hbr, fun h => absurd h (by decide), fun _ => HE.out⟩
          · have HN := Lib.hid (lit_get hL c34 c92 (by unfold showB at hv; simp at hv; omega))
            clear hL HL hv
            go_wp2_with fail
            refine (visible_any _ _ u0 u1).mono ?_
            rintro e w' ⟨rfl, rfl⟩
            rw [HV.out]
            go_wp2_with fail
            refine (bld_WriteByte w.heap.size w.heap.size _ _ _ HB.out (by rw [cellsLen]; omega) hwz).mono ?_
            rintro e w3 ⟨rfl, hbd, hb3, _⟩
            have HB3 : Hid (Lib.IsBuilder 52 5 w.heap.size w.heap.size (Lib.byteCells (pre ++ [s[k]])) w3) := .inr (by have h := hbd; rw [Lib.byteCells_append]; exact h)
            clear hbd
            go_wp2_with fail
            go_round
            case rel => exact ⟨⟨k + 1, pre ++ [s[k]], by omega, by omega, by simp; omega, by go_num, HN.out, HB3⟩, hbr.trans hb3⟩
            case measure => simp [intOf]; omega
    · obtain rfl : k = s.size := by omega
      have hL := HL.out
      have hnil : s.data.toList.drop s.size = [] := List.drop_eq_nil_of_le (by rw [data_len]; exact Nat.le_refl _)
      rw [hnil] at hL
      have HE := Lib.hid (lit_bad4 hL)
      clear hL HL hnil
      go_wp2_with fail
      try simp only [Exit.inBlock, Exit.then]
      refine bodyPost_ret (results_tmp4 rfl _ _ _) rfl ?_
      exact ⟨_, _, _, _, rfl, hbr, fun h => absurd h (by decide), fun _ => HE.out⟩

theorem esc_34 {b : UInt8} (h : b = 34) : escU b = [92, 34] := by subst h; rfl
theorem esc_92 {b : UInt8} (h : b = 92) : escU b = [92, 92] := by subst h; rfl
theorem esc_10 {b : UInt8} (h : b = 10) : escU b = [92, 110] := by subst h; rfl
theorem esc_self {b : UInt8} (h1 : b ≠ 34) (h2 : b ≠ 92) (h3 : b ≠ 10) : escU b = [b] := by unfold escU; rw [if_neg (by simpa using h3), if_neg (by simp [h1, h2])]
/-- A piece of a string, one byte long. -/
theorem slice_one (s : ByteArray) (k : Nat) (h : k < s.size) : (s.extract k (k + 1)).data.toList = [s[k]] := by
  rw [ByteArray.data_extract, Array.toList_extract, List.extract_eq_take_drop]
  rw [show k + 1 - k = 1 by omega, drop_next s k h]; rfl
theorem byt_of (S : ByteArray) (l : List UInt8) (h : S.data.toList = l) : S = ⟨l.toArray⟩ := by subst h; simp
set_option maxHeartbeats 2000000 in
set_option maxRecDepth 100000 in
theorem rquote_any (s : ByteArray) (w : World) (hs : s.size ≤ 1000000) :
    Calls Tryz.prog 36 #[.string s] w fun e w' => e = .returned (.string ⟨(quoteU s).toArray⟩) ∧ w' = w := by
  go_enter Tryz.func36, Tryz.ntmps36
  go_wp2_with fail
  go_loopw [3, 4] (fun o i wr => ∃ (k : Nat) (S : ByteArray), k ≤ s.size ∧ i = .int .i64 k ∧ o = .string S ∧ S.size ≤ 2 * k + 1 ∧ Hid (S.data.toList = 34 :: (s.data.toList.take k).flatMap escU) ∧ wr = w) (fun o i _ => s.size - (intOf i).toNat)
  case atStart => exact ⟨0, _, Nat.zero_le _, rfl, rfl, by decide, rfl, rfl⟩
  case round =>
    obtain ⟨k, S, hk, rfl, rfl, hS, HS, rfl⟩ := hrel
    rename World => V
    by_cases hlt : k < s.size
    · obtain ⟨u0, u1⟩ := ub s[k]
      have hT := take_next s k hlt
      have a1 : ∀ b c : UInt8, (S ++ (⟨#[b, c]⟩ : ByteArray)).size = S.size + 2 := fun b c => by simp only [ByteArray.size_append]; rfl
      have HN : ∀ b c : UInt8, escU s[k] = [b, c] → Hid ((S ++ (⟨#[b, c]⟩ : ByteArray)).data.toList = 34 :: (s.data.toList.take (k + 1)).flatMap escU) := fun b c e => by
        show _ = _; rw [hT, List.flatMap_append, ← List.cons_append, ← HS.out]; simp [ByteArray.data_append, e]
      have g2 : ¬ (9223372036854775807 < S.size + 2) := by omega
      by_cases c34 : s[k] = 34
      · have q34 : (s[k].toNat : Int) = 34 := by rw [c34]; rfl
        have HN' := HN _ _ (esc_34 c34)
        clear hT HN HS
        have hz := a1 92 34
        go_wp2_with fail
        go_roundw
        case rel => exact ⟨k + 1, _, by omega, by go_num, rfl, by omega, HN', trivial⟩
        case measure => simp [intOf]; omega
      · have e34 : ((s[k].toNat : Int) == 34) = false := u8_ne s[k] 34 (by decide) c34
        by_cases c92 : s[k] = 92
        · have q92 : (s[k].toNat : Int) = 92 := by rw [c92]; rfl
          have HN' := HN _ _ (esc_92 c92)
          clear hT HN HS e34
          have hz := a1 92 92
          go_wp2_with fail
          go_roundw
          case rel => exact ⟨k + 1, _, by omega, by go_num, rfl, by omega, HN', trivial⟩
          case measure => simp [intOf]; omega
        · have e92 : ((s[k].toNat : Int) == 92) = false := u8_ne s[k] 92 (by decide) c92
          by_cases c10 : s[k] = 10
          · have q10 : (s[k].toNat : Int) = 10 := by rw [c10]; rfl
            have HN' := HN _ _ (esc_10 c10)
            clear hT HN HS e34 e92
            have hz := a1 92 110
            go_wp2_with fail
            go_roundw
            case rel => exact ⟨k + 1, _, by omega, by go_num, rfl, by omega, HN', trivial⟩
            case measure => simp [intOf]; omega
          · have e10 : ((s[k].toNat : Int) == 10) = false := u8_ne s[k] 10 (by decide) c10
            have hx := slice_one s k hlt
            have HN' : Hid ((S ++ s.extract k (k + 1)).data.toList = 34 :: (s.data.toList.take (k + 1)).flatMap escU) := by
              show _ = _; rw [hT, List.flatMap_append, ← List.cons_append, ← HS.out]; rw [ByteArray.data_append, Array.toList_append, hx, List.flatMap_cons, List.flatMap_nil, esc_self c34 c92 c10]; simp
            have hz1 : (s.extract k (k + 1)).size = 1 := by have := congrArg List.length hx; rw [data_len] at this; exact this
            have hz : (S ++ s.extract k (k + 1)).size = S.size + 1 := by simp only [ByteArray.size_append, hz1]
            have g3 : ¬ (9223372036854775807 < S.size + 1) := by omega
            clear hT HN HS hx
            go_wp2_with fail
            go_roundw
            case rel => exact ⟨k + 1, _, by omega, by go_num, rfl, by omega, HN', trivial⟩
            case measure => simp [intOf]; omega
    · obtain rfl : k = s.size := by omega
      have g3 : ¬ (9223372036854775807 < S.size + 1) := by omega
      have HE : Hid (S ++ (⟨#[34]⟩ : ByteArray) = ⟨(quoteU s).toArray⟩) := by
        refine byt_of _ _ ?_
        have h := HS.out
        rw [List.take_of_length_le (by rw [data_len]; exact Nat.le_refl _)] at h
        simp [ByteArray.data_append, h, quoteU]
      go_wp2_with fail
      go_ret
      exact ⟨by rw [HE.out]; rfl, rfl⟩
end Go.Proofs.YtidffjlpldalpaaGreatDoor
