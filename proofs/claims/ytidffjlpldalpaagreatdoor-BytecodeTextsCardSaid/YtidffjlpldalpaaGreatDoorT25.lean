/- The program's numbers: the numbers of a line after its first word. The reference's numbers: the numbers of a text, separated by single spaces. Lines: what is written is read, and what is read was so written. -/
import Derived.Test.YtidffjlpldalpaaGreatDoorT21
import Derived.Test.YtidffjlpldalpaaGreatDoorT24
import Derived.Test.YtidffjlpldalpaaGreatDoorT17
import Derived.Test.YtidffjlpldalpaaGreatDoorT9
set_option linter.unusedVariables false
set_option linter.unusedSimpArgs false
namespace Go.Proofs.YtidffjlpldalpaaGreatDoor
open Go Go.RowKit

def NumsAns (l : List UInt8) (m : Nat) (w : World) (e : Ending) (w' : World) : Prop :=
  ∃ v ok, e = .returned (.tuple #[v, .bool ok]) ∧ Below w.heap.size w w' ∧ (ok = true → ∃ ns, numsU (spl 32 l).tail = some ns ∧ ns.length = m ∧ w'.ownsRow w.heap.size 3 1 v m (ints ns)) ∧ (ok = false → v = .slice none 0 0 ∧ ∀ ns, numsU (spl 32 l).tail = some ns → ns.length ≠ m)
theorem numsU_cons (x : List UInt8) (r : List (List UInt8)) : numsU (x :: r) = match intU x with | none => none | some n => (numsU r).map (fun l => n :: l) := rfl
theorem numsU_len : ∀ (L : List (List UInt8)) (ns : List Int), numsU L = some ns → ns.length = L.length
  | [], ns, h => by rw [show ns = [] from (Option.some.inj h).symm]; rfl
  | x :: r, ns, h => by
    rw [numsU_cons] at h
    cases hx : intU x with
    | none => rw [hx] at h; simp at h
    | some n =>
      rw [hx] at h
      simp only [Option.map_eq_some_iff] at h
      obtain ⟨q, hq, rfl⟩ := h
      rw [List.length_cons, List.length_cons, numsU_len r q hq]
theorem numsU_next (A : Option (List Int)) (x : List UInt8) (r : List (List UInt8)) (ns : List Int) (n : Int) (h : A = (numsU (x :: r)).map (fun q => ns ++ q)) (hx : intU x = some n) : A = (numsU r).map (fun q => (ns ++ [n]) ++ q) := by
  rw [h, numsU_cons, hx]
  cases numsU r with
  | none => rfl
  | some q => simp
theorem numsU_none (A : Option (List Int)) (x : List UInt8) (r : List (List UInt8)) (ns : List Int) (h : A = (numsU (x :: r)).map (fun q => ns ++ q)) (hx : intU x = none) : A = none := by
  rw [h, numsU_cons, hx]; rfl
theorem ints_app (l : List Int) (n : Int) : ints (l ++ [n]) = ints l ++ [.int .i64 n] := by simp [ints]
set_option maxHeartbeats 2000000 in
set_option maxRecDepth 100000 in
theorem numbers_any (s : ByteArray) (m : Nat) (w : World) (hE : EnvN w) (hs : s.size ≤ 1000000) (hm : m ≤ 3) :
    Calls Tryz.prog 64 #[.string s, .int .i64 m] w (NumsAns s.data.toList m w) := by
  have HS := Lib.hid (split_any 32 s w hE hs)
  have hle := spB_le 32 s
  have Hsz := Lib.hid (spB_small 32 s 1000000 hs)
  have hdat := spB_data 32 s
  have hne : 1 ≤ (spB 32 s).length := by rw [spB_length]; omega
  obtain ⟨i0, hii, hiz0, hiz1, hiz2⟩ := info_parts info_int
  generalize spB 32 s = ps at *
  obtain ⟨p0, pr, rfl⟩ : ∃ p0 pr, ps = p0 :: pr := by
    cases ps with
    | nil => simp at hne
    | cons a b => exact ⟨a, b, rfl⟩
  have hL : (spl 32 s.data.toList).tail = pr.map (fun x => x.data.toList) := by rw [← hdat]; rfl
  have HL := Lib.hid hL
  have hpl : (p0 :: pr).length = pr.length + 1 := rfl
  rw [hpl] at HS hle
  have hpr : pr.length ≤ 1000000 := by omega
  clear hdat hne hL hpl
  go_enter Tryz.func64, Tryz.ntmps64
  go_wp2_with fail
  refine HS.out.mono ?_
  rintro e w1 ⟨rfl, hT, hb1⟩
  have Hc : Hid (w.heap.size < w1.heap.size ∧ ∀ k, k < pr.length → w1.cell? ⟨w.heap.size, 1 + k, none⟩ = some (.string (pr.getD k default))) := by
    obtain ⟨a, c, hv, hlc, hcell⟩ := hT
    obtain ⟨b, off, rfl, hlt, hc⟩ := hcell (by simp)
    have hv' := (Value.slice.inj hv).1
    simp at hv'
    obtain ⟨hb', ho'⟩ := hv'
    subst hb' ho'
    refine ⟨hlt, fun k hk => ?_⟩
    have := hc (1 + k) (by rw [strCells_length]; simp; omega)
    rw [Nat.zero_add, strCells_at _ _ (by simp; omega), show 1 + k = k + 1 by omega] at this
    rw [show 1 + k = k + 1 by omega, this]; simp
  have hE1 := hE.below hb1
  have HB1 := Lib.hid hb1
  clear hT HS hb1
  by_cases hp0 : pr.length = 0
  · obtain rfl : pr = [] := List.length_eq_zero_iff.1 hp0
    by_cases hm0 : m = 0
    · subst hm0
      go_wp2_with fail
      all_goals
        go_loop [7, 21] (fun o i => o = .slice none 0 0 ∧ i = .int .i64 0) (fun _ _ => 0)
        case atStart => exact ⟨rfl, rfl⟩
        case round =>
          obtain ⟨rfl, rfl⟩ := hrel
          go_wp2_with fail
          go_ret2
          exact ⟨_, true, rfl, HB1.out, fun _ => ⟨[], by rw [HL.out]; rfl, rfl, ⟨rfl, .inl ⟨rfl, rfl⟩⟩⟩, by nofun⟩
    · have hlb : ((0 : Int) == (m : Int)) = false := beq_eq_false_iff_ne.2 (by omega)
      go_wp2_with fail
      all_goals
        go_ret2
        exact ⟨_, false, rfl, HB1.out, by nofun, fun _ => ⟨rfl, fun ns hn => by rw [HL.out] at hn; have := numsU_len _ _ hn; simp at this; rw [this]; simp; omega⟩⟩
  · have hp1 : 0 < pr.length := by omega
    by_cases hlen : pr.length = m
    · subst hlen
      go_wp2_with fail
      go_loopw [7, 21] (fun o i wr => ∃ (k : Nat) (ns : List Int), k ≤ pr.length ∧ ns.length = k ∧ i = .int .i64 k ∧ Hid (numsU (pr.map fun x => x.data.toList) = (numsU ((pr.drop k).map fun x => x.data.toList)).map (fun q => ns ++ q)) ∧ Hid (wr.ownsRow w1.heap.size 3 1 o k (ints ns)) ∧ Below w1.heap.size w1 wr) (fun _ i _ => pr.length - (intOf i).toNat)
      case atStart => exact ⟨0, [], Nat.zero_le _, rfl, rfl, by show _ = _; rw [List.drop_zero]; cases numsU (pr.map fun x => x.data.toList) <;> rfl, ⟨rfl, .inl ⟨rfl, rfl⟩⟩, Below.refl _ _⟩
      case round =>
        rename World => V
        obtain ⟨k, ns, hk, hnl, rfl, HN, HO, hbr⟩ := hrel
        obtain ⟨oa, om, oc, rfl⟩ := owns_slice HO.out
        by_cases hkl : k < pr.length
        · have c0 := (hbr.cell (p := ⟨w.heap.size, 1 + k, none⟩) Hc.out.1).trans (Hc.out.2 k hkl)
          have hx := Hsz.out _ (List.mem_cons_of_mem p0 (getD_mem default pr k hkl))
          have hN := HN.out
          rw [List.drop_eq_getElem_cons hkl, List.map_cons, show pr[k] = pr.getD k default by simp [List.getD, hkl]] at hN
          have HP := Lib.hid (pnumber_any (pr.getD k default) V (hE1.below hbr) hx)
          have HN2 := Lib.hid hN
          clear hN HN
          generalize pr.getD k default = x at *
          go_wp2_with fail
          refine HP.out.mono ?_
          rintro e w2 ⟨⟨n, ok, rfl, hin⟩, hb2⟩
          have hbr2 := hbr.trans (hb2.mono hbr.size)
          have HO2 := Lib.hid (owns_grown HO.out (grown_below hb2) (by nofun))
          have hz2 := hbr2.size
          clear HP hb2 hbr HO c0
          cases ok
          · have HF : Hid (numsU (pr.map fun x => x.data.toList) = none) := numsU_none _ _ _ _ HN2.out hin
            clear HN2 hin
            go_wp2_with fail
            go_ret2
            exact ⟨_, false, rfl, HB1.out.trans (hbr2.mono HB1.out.size), by nofun, fun _ => ⟨rfl, fun ns hn => by rw [HL.out, HF.out] at hn; cases hn⟩⟩
          · have HN3 : Hid (numsU (pr.map fun x => x.data.toList) = (numsU ((pr.drop (k + 1)).map fun x => x.data.toList)).map (fun q => (ns ++ [n]) ++ q)) := numsU_next _ _ _ _ _ HN2.out hin
            clear HN2 hin
            go_wp2_with (at_builtin; refine wpList_append_lies _ rfl _ _ 65 rfl w1.heap.size 3 i0 (.int .i64 0) 1 8 Tryz.underlying65 hii hiz0 hiz1 hiz2 rfl (by decide) _ k (ints ns) rfl (HO2.out.alloc _) ⟨w2.heap.size, 0, none⟩ 1 1 [.int .i64 n] rfl rfl ?c1 ?c2 (by decide) ?c3 ?c4 ?c5 _ rfl ?_)
            case c1 => exact cell_one_new _ _ _
            case c2 => intro u hu; simp at hu; subst hu; rfl
            case c3 => unfold maxLen; omega
            case c4 => omega
            case c5 => simp; omega
            intro g cap w7 hown7 hgrow7 hat7 hlt7
            have hbr7 := (hbr2.trans ((grown_under (grown_alloc w2 (.cells #[.int .i64 n] 3)) (Nat.le_refl _) (by nofun)).mono hz2)).trans (grown_under hgrow7 (by simp; omega) (fun q hq => (owns_lt HO2.out q hq).1))
            have HO7 : Hid (w7.ownsRow w1.heap.size 3 1 (.slice (some ⟨g, 0, none⟩) (k + 1) cap) (k + 1) (ints (ns ++ [n]))) := by
              show World.ownsRow _ _ _ _ _ _ _
              rw [ints_app]; exact hown7
            clear hown7 hgrow7 hat7 HO2
            go_wp2_with fail
            go_round
            case rel => exact ⟨k + 1, ns ++ [n], by omega, by simp [hnl], by go_num, HN3, HO7, hbr7⟩
            case measure => simp [intOf]; omega
        · obtain rfl : k = pr.length := by omega
          have HF : Hid (numsU (pr.map fun x => x.data.toList) = some ns) := by show _ = _; rw [HN.out, List.drop_length]; simp [numsU]
          clear HN
          go_wp2_with fail
          go_ret2
          exact ⟨_, true, rfl, HB1.out.trans (hbr.mono HB1.out.size), fun _ => ⟨ns, by rw [HL.out]; exact HF.out, hnl, ownsRow_mono HO.out HB1.out.size⟩, by nofun⟩
    · have hlb : ((pr.length : Int) == (m : Int)) = false := beq_eq_false_iff_ne.2 (by omega)
      go_wp2_with fail
      go_ret2
      exact ⟨_, false, rfl, HB1.out, by nofun, fun _ => ⟨rfl, fun ns hn => by rw [HL.out] at hn; have := numsU_len _ _ hn; simp at this; omega⟩⟩

def NumsR (l : List UInt8) (w : World) (e : Ending) (w' : World) : Prop :=
  ∃ v ok, e = .returned (.tuple #[v, .bool ok]) ∧ Below w.heap.size w w' ∧ (ok = true → ∃ ns, numsU (spl 32 l) = some ns ∧ ns.length ≤ l.length + 1 ∧ w'.ownsRow w.heap.size 3 1 v ns.length (ints ns)) ∧ (ok = false → v = .slice none 0 0 ∧ numsU (spl 32 l) = none)
theorem ext_take (s : ByteArray) (k : Nat) : (s.extract 0 k).data.toList = s.data.toList.take k := by
  rw [ByteArray.data_extract, Array.toList_extract, List.extract_eq_take_drop]; simp
theorem ext_drop (s : ByteArray) (k : Nat) : (s.extract k s.size).data.toList = s.data.toList.drop k := by
  rw [ByteArray.data_extract, Array.toList_extract, List.extract_eq_take_drop, List.take_of_length_le (by rw [List.length_drop, data_len]; omega)]
theorem at_space (s : ByteArray) (c : UInt8) (k : Nat) (h : k < s.size) (hc : s[k] = c) : s.data.toList = s.data.toList.take k ++ c :: s.data.toList.drop (k + 1) := by
  have := drop_next s k h
  rw [hc] at this
  rw [← this, List.take_append_drop]
theorem not_in_next (s : ByteArray) (c : UInt8) (k : Nat) (h : k < s.size) (hc : s[k] ≠ c) (hn : c ∉ s.data.toList.take k) : c ∉ s.data.toList.take (k + 1) := by
  rw [take_next s k h]
  intro hm
  rcases List.mem_append.1 hm with hm | hm
  · exact hn hm
  · exact hc (by simpa using hm : c = s[k]).symm
set_option maxHeartbeats 2000000 in
set_option maxRecDepth 100000 in
theorem rnumbers_any (s : ByteArray) (w : World) (hs : s.size ≤ 1000000) :
    Calls Tryz.prog 44 #[.string s] w (NumsR s.data.toList w) := by
  obtain ⟨i0, hii, hiz0, hiz1, hiz2⟩ := info_parts info_int
  have Hl := Lib.hid (data_len s)
  obtain ⟨L, hL⟩ : ∃ L, numsU (spl 32 s.data.toList) = L := ⟨_, rfl⟩
  have HA := Lib.hid hL
  clear hL
  go_enter Tryz.func44, Tryz.ntmps44
  go_wp2_with fail
  go_loopw [0, 4] (fun z o wr => ∃ (S : ByteArray) (k : Nat) (ns : List Int), z = .string S ∧ ns.length = k ∧ k + S.size ≤ s.size ∧ Hid (L = (numsU (spl 32 S.data.toList)).map (fun q => ns ++ q)) ∧ Hid (wr.ownsRow w.heap.size 3 1 o k (ints ns)) ∧ Below w.heap.size w wr) (fun z _ _ => (match z with | .string S => S.size | _ => 0))
  case atStart => exact ⟨s, 0, [], rfl, rfl, by omega, by show _ = _; rw [HA.out]; cases L <;> rfl, ⟨rfl, .inl ⟨rfl, rfl⟩⟩, Below.refl _ _⟩
  case round =>
    rename World => V
    obtain ⟨S, k, ns, rfl, hnl, hSz, HN, HO, hbr⟩ := hrel
    obtain ⟨oa, om, oc, rfl⟩ := owns_slice HO.out
    go_wp2_with fail
    go_loopw [5] (fun i wx => ∃ j : Nat, j ≤ S.size ∧ i = .int .i64 j ∧ Hid ((32 : UInt8) ∉ S.data.toList.take j) ∧ wx = V) (fun i _ => S.size - (intOf i).toNat)
    case atStart => exact ⟨0, Nat.zero_le _, rfl, by show _ ∉ _; simp, rfl⟩
    case round =>
      obtain ⟨j, hj, rfl, HJ, rfl⟩ := hrel
      rename World => V
      by_cases hlt : j < S.size ∧ ∀ h : j < S.size, S[j] ≠ 32
      · obtain ⟨hlt, h32⟩ := hlt
        have h32 := h32 hlt
        obtain ⟨u0, u1⟩ := ub S[j]
        have n32 := bne_of (u8_ne S[j] 32 (by decide) h32)
        have HJ2 := Lib.hid (not_in_next S 32 j hlt h32 HJ.out)
        clear HJ h32
        go_wp2_with fail
        go_round
        case rel => exact ⟨j + 1, by omega, by go_num, HJ2, trivial⟩
        case measure => simp [intOf]; omega
      · have hez : (S.extract 0 j).size = j := by simp; omega
        have HP := Lib.hid (rnumber_any 1000000 (by decide) (S.extract 0 j) V (by omega))
        have HT := Lib.hid (ext_take S j)
        clear hez
        by_cases hjs : j < S.size
        · have h32 : S[j] = 32 := by
            by_cases h : S[j] = 32
            · exact h
            · exact absurd ⟨hjs, fun _ => h⟩ hlt
          have n32 : ((S[j].toNat : Int) != 32) = false := bne_no (by rw [h32]; rfl)
          obtain ⟨u0, u1⟩ := ub S[j]
          have hsp := at_space S 32 j hjs h32
          have hN := HN.out
          rw [hsp, spl_hit 32 _ _ HJ.out, ← HT.out] at hN
          have HN2 := Lib.hid hN
          have HD := Lib.hid (ext_drop S (j + 1))
          have hjn : ((j : Int) == (S.size : Int)) = false := beq_eq_false_iff_ne.2 (by omega)
          have hez : (S.extract (j + 1) S.size).size = S.size - (j + 1) := by simp
          clear hsp hN HN HT HJ hlt h32
          go_wp2_with fail
          refine HP.out.mono ?_
          clear HP
          rintro e w2 ⟨n, ok, rfl, rfl, hin, b0, b1⟩
          cases ok
          · have HF : Hid (L = none) := numsU_none _ _ _ _ HN2.out hin
            clear HN2 hin
            go_wp2_with fail
            go_ret2
            exact ⟨_, false, rfl, hbr, by nofun, fun _ => ⟨rfl, by rw [HA.out, HF.out]⟩⟩
          · have HN3 := Lib.hid (numsU_next _ _ _ _ _ HN2.out hin)
            clear HN2 hin
            have hz2 := hbr.size
            go_wp2_with (at_builtin; refine wpList_append_lies _ rfl _ _ 65 rfl w.heap.size 3 i0 (.int .i64 0) 1 8 Tryz.underlying65 hii hiz0 hiz1 hiz2 rfl (by decide) _ k (ints ns) rfl (HO.out.alloc _) ⟨w2.heap.size, 0, none⟩ 1 1 [.int .i64 n] rfl rfl ?c1 ?c2 (by decide) ?c3 ?c4 ?c5 _ rfl ?_)
            case c1 => exact cell_one_new _ _ _
            case c2 => intro u hu; simp at hu; subst hu; rfl
            case c3 => unfold maxLen; omega
            case c4 => omega
            case c5 => simp; omega
            intro g cap w7 hown7 hgrow7 hat7 hlt7
            have hbr7 := (hbr.trans ((grown_under (grown_alloc w2 (.cells #[.int .i64 n] 3)) (Nat.le_refl _) (by nofun)).mono hz2)).trans (grown_under hgrow7 (by simp; omega) (fun q hq => (owns_lt HO.out q hq).1))
            have HO7 : Hid (w7.ownsRow w.heap.size 3 1 (.slice (some ⟨g, 0, none⟩) (k + 1) cap) (k + 1) (ints (ns ++ [n]))) := by
              show World.ownsRow _ _ _ _ _ _ _
              rw [ints_app]; exact hown7
            clear hown7 hgrow7 hat7 HO
            go_wp2_with fail
            go_roundw
            case rel => exact ⟨_, k + 1, ns ++ [n], rfl, by simp [hnl], by rw [hez]; omega, by show _ = _; rw [HD.out]; exact HN3.out, HO7, hbr7⟩
            case measure => simp only [hez]; omega
        · obtain rfl : j = S.size := by omega
          have hnot : (32 : UInt8) ∉ S.data.toList := by
            have h := HJ.out
            rw [List.take_of_length_le (by rw [data_len]; exact Nat.le_refl _)] at h
            exact h
          have hN := HN.out
          rw [spl_none 32 _ hnot] at hN
          have HN2 := Lib.hid hN
          clear hN HN HT HJ hlt hnot HP
          have HP := Lib.hid (rnumber_any 1000000 (by decide) S V (by omega))
          go_wp2_with fail
          refine HP.out.mono ?_
          clear HP
          rintro e w2 ⟨n, ok, rfl, rfl, hin, b0, b1⟩
          cases ok
          · have HF : Hid (L = none) := numsU_none _ _ _ _ HN2.out hin
            clear HN2 hin
            go_wp2_with fail
            go_ret2
            exact ⟨_, false, rfl, hbr, by nofun, fun _ => ⟨rfl, by rw [HA.out, HF.out]⟩⟩
          · have HN3 := Lib.hid (numsU_next _ _ _ _ _ HN2.out hin)
            clear HN2 hin
            have hz2 := hbr.size
            go_wp2_with (at_builtin; refine wpList_append_lies _ rfl _ _ 65 rfl w.heap.size 3 i0 (.int .i64 0) 1 8 Tryz.underlying65 hii hiz0 hiz1 hiz2 rfl (by decide) _ k (ints ns) rfl (HO.out.alloc _) ⟨w2.heap.size, 0, none⟩ 1 1 [.int .i64 n] rfl rfl ?c1 ?c2 (by decide) ?c3 ?c4 ?c5 _ rfl ?_)
            case c1 => exact cell_one_new _ _ _
            case c2 => intro u hu; simp at hu; subst hu; rfl
            case c3 => unfold maxLen; omega
            case c4 => omega
            case c5 => simp; omega
            intro g cap w7 hown7 hgrow7 hat7 hlt7
            have hbr7 := (hbr.trans ((grown_under (grown_alloc w2 (.cells #[.int .i64 n] 3)) (Nat.le_refl _) (by nofun)).mono hz2)).trans (grown_under hgrow7 (by simp; omega) (fun q hq => (owns_lt HO.out q hq).1))
            have HO7 : Hid (w7.ownsRow w.heap.size 3 1 (.slice (some ⟨g, 0, none⟩) (k + 1) cap) (k + 1) (ints (ns ++ [n]))) := by
              show World.ownsRow _ _ _ _ _ _ _
              rw [ints_app]; exact hown7
            clear hown7 hgrow7 hat7 HO
            go_wp2_with fail
            go_ret2
            refine ⟨_, true, rfl, hbr7, fun _ => ⟨ns ++ [n], ?_, ?_, ?_⟩, by nofun⟩
            · rw [HA.out, HN3.out]; simp [numsU]
            · rw [Hl.out]; simp; omega
            · rw [show (ns ++ [n]).length = k + 1 by simp [hnl]]; exact HO7.out

theorem spl_of (c : UInt8) : ∀ (ps : List (List UInt8)) (w : List UInt8), c ∉ w → (∀ x ∈ ps, c ∉ x) → spl c (w ++ ps.flatMap fun x => c :: x) = w :: ps
  | [], w, hw, _ => by rw [List.flatMap_nil, List.append_nil, spl_none c w hw]
  | p :: ps, w, hw, hp => by
    rw [List.flatMap_cons]
    show spl c (w ++ c :: (p ++ ps.flatMap fun x => c :: x)) = _
    rw [spl_hit c w _ hw, spl_of c ps p (hp p (by simp)) fun x hx => hp x (by simp [hx])]
def Num52 (n : Int) : Prop := -4503599627370496 ≤ n ∧ n ≤ 4503599627370496
/-- A line of numbers behind a word. -/
def lineT (w : List UInt8) (l : List Int) : List UInt8 := w ++ l.flatMap fun n => 32 :: Lib.itoa n
def wordU (op : Int) : List UInt8 := (wordS op).data.toList
theorem opU_word : ∀ op : Int, 1 ≤ op → op ≤ 16 → opU (wordU op) = op ∧ 32 ∉ wordU op ∧ 10 ∉ wordU op ∧ wordU op ≠ wMain ∧ wordU op ≠ wString ∧ wordU op ≠ wFun := fun op h1 h2 => by
  rcases (by omega : op = 1 ∨ op = 2 ∨ op = 3 ∨ op = 4 ∨ op = 5 ∨ op = 6 ∨ op = 7 ∨ op = 8 ∨ op = 9 ∨ op = 10 ∨ op = 11 ∨ op = 12 ∨ op = 13 ∨ op = 14 ∨ op = 15 ∨ op = 16) with rfl | rfl | rfl | rfl | rfl | rfl | rfl | rfl | rfl | rfl | rfl | rfl | rfl | rfl | rfl | rfl
  all_goals exact ⟨by kernel_rfl, by decide, by decide, by decide, by decide, by decide⟩
theorem opU_inv {w : List UInt8} (h : opU w ≠ 0) : 1 ≤ opU w ∧ opU w ≤ 16 ∧ wordU (opU w) = w := by
  unfold opU at h ⊢
  cases hf : (List.range 16).find? fun k : Nat => (wordS ((k : Int) + 1)).data.toList == w with
  | none => rw [hf] at h; exact absurd rfl h
  | some k =>
    have h1 := List.find?_some hf
    have h2 := List.mem_range.1 (List.mem_of_find?_eq_some hf)
    simp only at h1 ⊢
    exact ⟨by omega, by omega, by simpa [wordU] using h1⟩
theorem opnds_two (op : Int) : 0 ≤ opnds op ∧ opnds op ≤ 2 := by
  unfold opnds
  split
  · decide
  · split <;> decide
def insT (i : Ins) : List UInt8 := lineT (wordU i.op) ([i.a, i.b].take (opnds i.op).toNat)
/-- What an operation doesn't take is zero. -/
def tightI (i : Ins) : Prop := (opnds i.op < 1 → i.a = 0) ∧ (opnds i.op < 2 → i.b = 0)
end Go.Proofs.YtidffjlpldalpaaGreatDoor
