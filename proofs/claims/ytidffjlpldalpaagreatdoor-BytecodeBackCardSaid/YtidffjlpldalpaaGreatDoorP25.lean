/- Split at one byte; the program's number. The program's numbers: the numbers of a line after its first word. -/
import Derived.Test.YtidffjlpldalpaaGreatDoorP24
import Derived.Test.YtidffjlpldalpaaGreatDoorP22
import Derived.Test.YtidffjlpldalpaaGreatDoorP21
import Derived.Lib.SplitLaws
set_option linter.unusedVariables false
set_option linter.unusedSimpArgs false
namespace Go.Proofs.YtidffjlpldalpaaGreatDoor
open Go Go.RowKit

/-- The pieces of a string between the bytes c. -/
def spB (c : UInt8) (s : ByteArray) : List ByteArray := Lib.splitB ⟨#[c]⟩ 0 (Lib.countB s ⟨#[c]⟩) s
theorem spB_data (c : UInt8) (s : ByteArray) : (spB c s).map (fun x => x.data.toList) = spl c s.data.toList := by
  unfold spB
  rw [Lib.splitB_data]
  have : Lib.countB s ⟨#[c]⟩ = s.data.toList.count c := Lib.count_one c _
  rw [this]
  exact splitK_spl c _ _ rfl
theorem spB_length (c : UInt8) (s : ByteArray) : (spB c s).length = Lib.countB s ⟨#[c]⟩ + 1 := Lib.splitB_all ⟨#[c]⟩ (by exact Nat.le_refl 1) 0 _ s rfl
theorem spB_small (c : UInt8) (s : ByteArray) (N : Nat) (h : s.size ≤ N) : ∀ x ∈ spB c s, x.size ≤ N := splitB_small _ N _ s h
theorem spB_le (c : UInt8) (s : ByteArray) : (spB c s).length ≤ s.size + 1 := by
  rw [spB_length]
  have := Lib.countB_le ⟨#[c]⟩ (by exact Nat.le_refl 1) s.size s (Nat.le_refl _)
  omega
theorem split_any (c : UInt8) (s : ByteArray) (w : World) (hE : EnvN w) (hs : s.size ≤ 1000000) :
    Calls Tryz.prog 62 #[.string s, .string ⟨#[c]⟩] w fun e w' => e = .returned (.slice (some ⟨w.heap.size, 0, none⟩) (spB c s).length (spB c s).length) ∧ IsTexts w' (.slice (some ⟨w.heap.size, 0, none⟩) (spB c s).length (spB c s).length) (spB c s) ∧ Below w.heap.size w w' := by
  obtain ⟨m, hm⟩ := hE.ml
  refine (Tryz.strings_Split s ⟨#[c]⟩ m w (by omega) hm (by exact Nat.le_refl 1)).mono ?_
  rintro e w' ⟨rfl, rfl⟩
  rw [← spB_length]
  refine ⟨rfl, ?_, (Below.refl _ _).alloc (Nat.le_refl _) _⟩
  exact isRow_alloc' w w.heap.size (spB c s).length (strCells (spB c s)) 9 rfl
def NumAns (l : List UInt8) (w : World) (e : Ending) (w' : World) : Prop := (∃ (n : Int) (ok : Bool), e = .returned (.tuple #[.int .i64 n, .bool ok]) ∧ intU l = if ok = true then some n else none) ∧ Below w.heap.size w w'
theorem intU_cons (c : UInt8) (r : List UInt8) : intU (c :: r) = if c = 45 then (match natU r with | some n => if n = 0 then none else some (-(n : Int)) | none => none) else (match natU (c :: r) with | some n => some (n : Int) | none => none) := rfl
theorem minus_or (l : List UInt8) : (∃ r, l = 45 :: r) ∨ (Lib.hasPrefix l [45] = false ∧ intU l = match natU l with | some u => some (u : Int) | none => none) := by
  cases l with
  | nil => right; exact ⟨rfl, rfl⟩
  | cons c r =>
    by_cases h : c = 45
    · left; exact ⟨r, by rw [h]⟩
    · right
      refine ⟨?_, ?_⟩
      · show (45 == c && _) = false; rw [beq_eq_false_iff_ne.2 (Ne.symm h)]; rfl
      · rw [intU_cons, if_neg h]
theorem bs_mk (l : List UInt8) : bs ⟨l.toArray⟩ = l := by simp [bs]
set_option maxHeartbeats 1000000 in
set_option maxRecDepth 100000 in
theorem pnumber_any (s : ByteArray) (w : World) (hE : EnvN w) (hs : s.size ≤ 1000000) :
    Calls Tryz.prog 79 #[.string s] w (NumAns s.data.toList w) := by
  have hC := Tryz.strings_CutPrefix s ⟨#[45]⟩ w
  have hsl : s.data.toList.length = s.size := Array.length_toList
  rcases minus_or s.data.toList with ⟨r, hr⟩ | ⟨h1, h2⟩
  · have e1 : Lib.hasPrefix s.data.toList (⟨#[45]⟩ : ByteArray).data.toList = true := by rw [hr]; rfl
    have e2 : Lib.trimPrefix s.data.toList (⟨#[45]⟩ : ByteArray).data.toList = r := by unfold Lib.trimPrefix; rw [if_pos e1, hr]; rfl
    rw [e1, e2] at hC
    have hsz : (⟨r.toArray⟩ : ByteArray).size ≤ 1000000 := by
      have : (⟨r.toArray⟩ : ByteArray).size = r.length := by simp [ByteArray.size]
      rw [hr] at hsl; simp at hsl; omega
    have hN := idNumber_any ⟨r.toArray⟩ w hE hsz
    rw [bs_mk] at hN
    have hI : Hid (intU s.data.toList = match natU r with | some n => if n = 0 then none else some (-(n : Int)) | none => none) := by show _ = _; rw [hr]; rfl
    have HC := Lib.hid hC
    unfold idV at hN
    clear e1 e2 hr hC hsl
    rcases idT_nat r with ⟨u, hu, hi⟩ | ⟨hu, h1, h2⟩
    · rw [hi] at hN
      have hub := (natU_inv hu).2.2.2.2
      rw [hu] at hI
      have HN := Lib.hid hN
      clear hN hu hi
      by_cases h0 : u = 0
      · subst h0
        go_enter Tryz.func79, Tryz.ntmps79
        go_wp2_with fail
        refine HC.out.mono ?_
        rintro e w1 ⟨rfl, rfl⟩
        go_wp2_with fail
        refine HN.out.mono ?_
        rintro e w1 ⟨rfl, hb⟩
        go_wp2_with fail
        go_ret2
        exact ⟨⟨_, _, rfl, hI.out⟩, hb⟩
      · have h0' : ((u : Int) == 0) = false := beq_eq_false_iff_ne.2 (by omega)
        have hI' : Hid (intU s.data.toList = some (-(u : Int))) := by show _ = _; rw [hI.out]; simp only; rw [if_neg h0]
        clear hI
        go_enter Tryz.func79, Tryz.ntmps79
        go_wp2_with fail
        refine HC.out.mono ?_
        rintro e w1 ⟨rfl, rfl⟩
        go_wp2_with fail
        refine HN.out.mono ?_
        rintro e w1 ⟨rfl, hb⟩
        go_wp2_with fail
        go_ret2
        exact ⟨⟨_, true, by simp [bne, h0'], hI'.out⟩, hb⟩
    · obtain ⟨a, b, hab⟩ : ∃ a b, idT r = (a, b) := ⟨_, _, rfl⟩
      rw [hab] at hN h1 h2
      simp only at hN h1 h2
      subst h1
      have h2' : (b == 0) = false := beq_eq_false_iff_ne.2 h2
      rw [hu] at hI
      have HN := Lib.hid hN
      clear hN hu hab
      go_enter Tryz.func79, Tryz.ntmps79
      go_wp2_with fail
      refine HC.out.mono ?_
      rintro e w1 ⟨rfl, rfl⟩
      go_wp2_with fail
      refine HN.out.mono ?_
      rintro e w1 ⟨rfl, hb⟩
      go_wp2_with fail
      go_ret2
      exact ⟨⟨_, _, rfl, hI.out⟩, hb⟩
  · have e1 : Lib.hasPrefix s.data.toList (⟨#[45]⟩ : ByteArray).data.toList = false := h1
    have e2 : Lib.trimPrefix s.data.toList (⟨#[45]⟩ : ByteArray).data.toList = s.data.toList := by unfold Lib.trimPrefix; rw [if_neg (by rw [e1]; decide)]
    rw [e1, e2] at hC
    have hN := idNumber_any s w hE hs
    have hI := Lib.hid h2
    have HC := Lib.hid hC
    unfold idV at hN
    change Hid (intU s.data.toList = match natU (bs s) with | some u => some (u : Int) | none => none) at hI
    clear e1 e2 hC hsl h1 h2
    rcases idT_nat (bs s) with ⟨u, hu, hi⟩ | ⟨hu, h1, h2⟩
    · rw [hi] at hN
      rw [hu] at hI
      have HN := Lib.hid hN
      clear hN hu hi
      go_enter Tryz.func79, Tryz.ntmps79
      go_wp2_with fail
      refine HC.out.mono ?_
      rintro e w1 ⟨rfl, rfl⟩
      go_wp2_with fail
      refine HN.out.mono ?_
      rintro e w1 ⟨rfl, hb⟩
      go_wp2_with fail
      go_ret2
      exact ⟨⟨_, _, rfl, hI.out⟩, hb⟩
    · obtain ⟨a, b, hab⟩ : ∃ a b, idT (bs s) = (a, b) := ⟨_, _, rfl⟩
      rw [hab] at hN h1 h2
      simp only at hN h1 h2
      subst h1
      have h2' : (b == 0) = false := beq_eq_false_iff_ne.2 h2
      rw [hu] at hI
      have HN := Lib.hid hN
      clear hN hu hab
      go_enter Tryz.func79, Tryz.ntmps79
      go_wp2_with fail
      refine HC.out.mono ?_
      rintro e w1 ⟨rfl, rfl⟩
      go_wp2_with fail
      refine HN.out.mono ?_
      rintro e w1 ⟨rfl, hb⟩
      go_wp2_with fail
      go_ret2
      exact ⟨⟨_, _, rfl, hI.out⟩, hb⟩

def NumsAns (l : List UInt8) (m : Nat) (w : World) (e : Ending) (w' : World) : Prop :=
  ∃ v ok, e = .returned (.tuple #[v, .bool ok]) ∧ Below w.heap.size w w' ∧ (ok = true → ∃ ns, numsU (spl 32 l).tail = some ns ∧ ns.length = m ∧ w'.ownsRow w.heap.size 3 1 v m (ints ns)) ∧ (ok = false → v = .slice none 0 0 ∧ ∀ ns, numsU (spl 32 l).tail = some ns → ns.length ≠ m)
theorem numsU_cons (x : List UInt8) (r : List (List UInt8)) : numsU (x :: r) = match intU x with | none => none | some n => (numsU r).map (fun l => n :: l) := rfl
theorem numsU_len : ∀ (L : List (List UInt8)) (ns : List Int), numsU L = some ns → ns.length = L.length
  | [], ns, h => by rw [show ns = [] from (Option.some.inj h).symm]; rfl
  | x :: r, ns, h => by
    rw [numsU_cons] at h
    cases hx : intU x with
    | none => rw [hx] at h; simp at h
    | some n =>
      rw [hx] at h
      simp only [Option.map_eq_some_iff] at h
      obtain ⟨q, hq, rfl⟩ := h
      rw [List.length_cons, List.length_cons, numsU_len r q hq]
theorem numsU_next (A : Option (List Int)) (x : List UInt8) (r : List (List UInt8)) (ns : List Int) (n : Int) (h : A = (numsU (x :: r)).map (fun q => ns ++ q)) (hx : intU x = some n) : A = (numsU r).map (fun q => (ns ++ [n]) ++ q) := by
  rw [h, numsU_cons, hx]
  cases numsU r with
  | none => rfl
  | some q => simp
theorem numsU_none (A : Option (List Int)) (x : List UInt8) (r : List (List UInt8)) (ns : List Int) (h : A = (numsU (x :: r)).map (fun q => ns ++ q)) (hx : intU x = none) : A = none := by
  rw [h, numsU_cons, hx]; rfl
theorem ints_app (l : List Int) (n : Int) : ints (l ++ [n]) = ints l ++ [.int .i64 n] := by simp [ints]
set_option maxHeartbeats 2000000 in
set_option maxRecDepth 100000 in
theorem numbers_any (s : ByteArray) (m : Nat) (w : World) (hE : EnvN w) (hs : s.size ≤ 1000000) (hm : m ≤ 3) :
    Calls Tryz.prog 64 #[.string s, .int .i64 m] w (NumsAns s.data.toList m w) := by
  have HS := Lib.hid (split_any 32 s w hE hs)
  have hle := spB_le 32 s
  have Hsz := Lib.hid (spB_small 32 s 1000000 hs)
  have hdat := spB_data 32 s
  have hne : 1 ≤ (spB 32 s).length := by rw [spB_length]; omega
  obtain ⟨i0, hii, hiz0, hiz1, hiz2⟩ := info_parts info_int
  generalize spB 32 s = ps at *
  obtain ⟨p0, pr, rfl⟩ : ∃ p0 pr, ps = p0 :: pr := by
    cases ps with
    | nil => simp at hne
    | cons a b => exact ⟨a, b, rfl⟩
  have hL : (spl 32 s.data.toList).tail = pr.map (fun x => x.data.toList) := by rw [← hdat]; rfl
  have HL := Lib.hid hL
  have hpl : (p0 :: pr).length = pr.length + 1 := rfl
  rw [hpl] at HS hle
  have hpr : pr.length ≤ 1000000 := by omega
  clear hdat hne hL hpl
  go_enter Tryz.func64, Tryz.ntmps64
  go_wp2_with fail
  refine HS.out.mono ?_
  rintro e w1 ⟨rfl, hT, hb1⟩
  have Hc : Hid (w.heap.size < w1.heap.size ∧ ∀ k, k < pr.length → w1.cell? ⟨w.heap.size, 1 + k, none⟩ = some (.string (pr.getD k default))) := by
    obtain ⟨a, c, hv, hlc, hcell⟩ := hT
    obtain ⟨b, off, rfl, hlt, hc⟩ := hcell (by simp)
    have hv' := (Value.slice.inj hv).1
    simp at hv'
    obtain ⟨hb', ho'⟩ := hv'
    subst hb' ho'
    refine ⟨hlt, fun k hk => ?_⟩
    have := hc (1 + k) (by rw [strCells_length]; simp; omega)
    rw [Nat.zero_add, strCells_at _ _ (by simp; omega), show 1 + k = k + 1 by omega] at this
    rw [show 1 + k = k + 1 by omega, this]; simp
  have hE1 := hE.below hb1
  have HB1 := Lib.hid hb1
  clear hT HS hb1
  by_cases hp0 : pr.length = 0
  · obtain rfl : pr = [] := List.length_eq_zero_iff.1 hp0
    by_cases hm0 : m = 0
    · subst hm0
      go_wp2_with fail
      all_goals
        go_loop [7, 21] (fun o i => o = .slice none 0 0 ∧ i = .int .i64 0) (fun _ _ => 0)
        case atStart => exact ⟨rfl, rfl⟩
        case round =>
          obtain ⟨rfl, rfl⟩ := hrel
          go_wp2_with fail
          go_ret2
          exact ⟨_, true, rfl, HB1.out, fun _ => ⟨[], by rw [HL.out]; rfl, rfl, ⟨rfl, .inl ⟨rfl, rfl⟩⟩⟩, by nofun⟩
    · have hlb : ((0 : Int) == (m : Int)) = false := beq_eq_false_iff_ne.2 (by omega)
      go_wp2_with fail
      all_goals
        go_ret2
        exact ⟨_, false, rfl, HB1.out, by nofun, fun _ => ⟨rfl, fun ns hn => by rw [HL.out] at hn; have := numsU_len _ _ hn; simp at this; rw [this]; simp; omega⟩⟩
  · have hp1 : 0 < pr.length := by omega
    by_cases hlen : pr.length = m
    · subst hlen
      go_wp2_with fail
      go_loopw [7, 21] (fun o i wr => ∃ (k : Nat) (ns : List Int), k ≤ pr.length ∧ ns.length = k ∧ i = .int .i64 k ∧ Hid (numsU (pr.map fun x => x.data.toList) = (numsU ((pr.drop k).map fun x => x.data.toList)).map (fun q => ns ++ q)) ∧ Hid (wr.ownsRow w1.heap.size 3 1 o k (ints ns)) ∧ Below w1.heap.size w1 wr) (fun _ i _ => pr.length - (intOf i).toNat)
      case atStart => exact ⟨0, [], Nat.zero_le _, rfl, rfl, by show _ = _; rw [List.drop_zero]; cases numsU (pr.map fun x => x.data.toList) <;> rfl, ⟨rfl, .inl ⟨rfl, rfl⟩⟩, Below.refl _ _⟩
      case round =>
        rename World => V
        obtain ⟨k, ns, hk, hnl, rfl, HN, HO, hbr⟩ := hrel
        obtain ⟨oa, om, oc, rfl⟩ := owns_slice HO.out
        by_cases hkl : k < pr.length
        · have c0 := (hbr.cell (p := ⟨w.heap.size, 1 + k, none⟩) Hc.out.1).trans (Hc.out.2 k hkl)
          have hx := Hsz.out _ (List.mem_cons_of_mem p0 (getD_mem default pr k hkl))
          have hN := HN.out
          rw [List.drop_eq_getElem_cons hkl, List.map_cons, show pr[k] = pr.getD k default by simp [List.getD, hkl]] at hN
          have HP := Lib.hid (pnumber_any (pr.getD k default) V (hE1.below hbr) hx)
          have HN2 := Lib.hid hN
          clear hN HN
          generalize pr.getD k default = x at *
          go_wp2_with fail
          refine HP.out.mono ?_
          rintro e w2 ⟨⟨n, ok, rfl, hin⟩, hb2⟩
          have hbr2 := hbr.trans (hb2.mono hbr.size)
          have HO2 := Lib.hid (owns_grown HO.out (grown_below hb2) (by nofun))
          have hz2 := hbr2.size
          clear HP hb2 hbr HO c0
          cases ok
          · have HF : Hid (numsU (pr.map fun x => x.data.toList) = none) := numsU_none _ _ _ _ HN2.out hin
            clear HN2 hin
            go_wp2_with fail
            go_ret2
            exact ⟨_, false, rfl, HB1.out.trans (hbr2.mono HB1.out.size), by nofun, fun _ => ⟨rfl, fun ns hn => by rw [HL.out, HF.out] at hn; cases hn⟩⟩
          · have HN3 : Hid (numsU (pr.map fun x => x.data.toList) = (numsU ((pr.drop (k + 1)).map fun x => x.data.toList)).map (fun q => (ns ++ [n]) ++ q)) := numsU_next _ _ _ _ _ HN2.out hin
            clear HN2 hin
            go_wp2_with (at_builtin; refine wpList_append_lies _ rfl _ _ 65 rfl w1.heap.size 3 i0 (.int .i64 0) 1 8 Tryz.underlying65 hii hiz0 hiz1 hiz2 rfl (by decide) _ k (ints ns) rfl (HO2.out.alloc _) ⟨w2.heap.size, 0, none⟩ 1 1 [.int .i64 n] rfl rfl ?c1 ?c2 (by decide) ?c3 ?c4 ?c5 _ rfl ?_)
            case c1 => exact cell_one_new _ _ _
            case c2 => intro u hu; simp at hu; subst hu; rfl
            case c3 => unfold maxLen; omega
            case c4 => omega
            case c5 => simp; omega
            intro g cap w7 hown7 hgrow7 hat7 hlt7
            have hbr7 := (hbr2.trans ((grown_under (grown_alloc w2 (.cells #[.int .i64 n] 3)) (Nat.le_refl _) (by nofun)).mono hz2)).trans (grown_under hgrow7 (by simp; omega) (fun q hq => (owns_lt HO2.out q hq).1))
            have HO7 : Hid (w7.ownsRow w1.heap.size 3 1 (.slice (some ⟨g, 0, none⟩) (k + 1) cap) (k + 1) (ints (ns ++ [n]))) := by
              show World.ownsRow _ _ _ _ _ _ _
              rw [ints_app]; exact hown7
            clear hown7 hgrow7 hat7 HO2
            go_wp2_with fail
            go_round
            case rel => exact ⟨k + 1, ns ++ [n], by omega, by simp [hnl], by go_num, HN3, HO7, hbr7⟩
            case measure => simp [intOf]; omega
        · obtain rfl : k = pr.length := by omega
          have HF : Hid (numsU (pr.map fun x => x.data.toList) = some ns) := by show _ = _; rw [HN.out, List.drop_length]; simp [numsU]
          clear HN
          go_wp2_with fail
          go_ret2
          exact ⟨_, true, rfl, HB1.out.trans (hbr.mono HB1.out.size), fun _ => ⟨ns, by rw [HL.out]; exact HF.out, hnl, ownsRow_mono HO.out HB1.out.size⟩, by nofun⟩
    · have hlb : ((pr.length : Int) == (m : Int)) = false := beq_eq_false_iff_ne.2 (by omega)
      go_wp2_with fail
      go_ret2
      exact ⟨_, false, rfl, HB1.out, by nofun, fun _ => ⟨rfl, fun ns hn => by rw [HL.out] at hn; have := numsU_len _ _ hn; simp at this; omega⟩⟩
end Go.Proofs.YtidffjlpldalpaaGreatDoor
