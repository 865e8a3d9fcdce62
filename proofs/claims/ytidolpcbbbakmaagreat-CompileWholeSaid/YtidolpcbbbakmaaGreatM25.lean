/- with: the texts of bodies, each once. compile.Program. -/
import Derived.Test.YtidolpcbbbakmaaGreatM23
import Derived.Test.YtidolpcbbbakmaaGreatM24
namespace Go.Proofs.YtidolpcbbbakmaaGreat
open Go Go.RowKit
open Go.Maps

/-- A list of texts with a further one, if it is not among them. -/
def addT (acc : List ByteArray) (s : ByteArray) : List ByteArray := if (findT acc s).isSome = true then acc else acc ++ [s]
def dedup (l : List ByteArray) : List ByteArray := l.foldl addT []
theorem dedup_take (l : List ByteArray) (k : Nat) (h : k < l.length) : dedup (l.take (k + 1)) = addT (dedup (l.take k)) (l.getD k default) := by
  unfold dedup; rw [take_one default l k h, List.foldl_append]; rfl
theorem addT_len (acc : List ByteArray) (s : ByteArray) : (addT acc s).length ≤ acc.length + 1 := by unfold addT; split <;> simp
theorem dedup_len (l : List ByteArray) : (dedup l).length ≤ l.length := by
  have : ∀ (l acc : List ByteArray), (l.foldl addT acc).length ≤ acc.length + l.length := fun l => by
    induction l with
    | nil => intro acc; simp
    | cons x r ih => intro acc; rw [List.foldl_cons]; have := ih (addT acc x); have := addT_len acc x; simp; omega
  have := this l []
  unfold dedup; simpa using this
theorem zero_bool (w : World) : (zeroValue 4).run Tryz.prog w = .ok (.bool false) w := by kernel_rfl
/-- The map holds just these texts. -/
def SeenT (V : World) (mb : Nat) (acc : List ByteArray) (k : Nat) : Prop :=
  ∃ (n : Nat) (D : DataW Unit), n ≤ k ∧ V.ownsMap Tryz.prog 9 (plainElem Tryz.prog 4) mb n D ∧ ∀ s : ByteArray, D.atKey (keyT s) (.lit (.bool false)) = .lit (.bool (findT acc s).isSome)
theorem SeenT.start {V : World} : SeenT (V.alloc (.map #[] 0)) V.heap.size [] 0 := ⟨0, .map [], Nat.le_refl _, World.ownsMap_made V _ _ _, fun s => rfl⟩
theorem SeenT.stays {V V' : World} {mb : Nat} {acc : List ByteArray} {k : Nat} (h : SeenT V mb acc k) (e : V'.heap[mb]? = V.heap[mb]?) : SeenT V' mb acc k := by
  obtain ⟨n, D, hn, ⟨es, clock, hb, hr⟩, hat⟩ := h
  exact ⟨n, D, hn, ⟨es, clock, e.trans hb, hr⟩, hat⟩
theorem SeenT.lt {V : World} {mb : Nat} {acc : List ByteArray} {k : Nat} (h : SeenT V mb acc k) : mb < V.heap.size := by obtain ⟨n, D, _, hown, _⟩ := h; exact hown.lt
theorem SeenT.mono {V : World} {mb : Nat} {acc : List ByteArray} {k : Nat} (h : SeenT V mb acc k) : SeenT V mb acc (k + 1) := by obtain ⟨n, D, hn, hr⟩ := h; exact ⟨n, D, by omega, hr⟩
set_option maxRecDepth 100000 in
theorem SeenT.look {V : World} {mb : Nat} {acc : List ByteArray} {k : Nat} (h : SeenT V mb acc k) (s : ByteArray) (hs : s.size ≤ maxLen) : (Instr.lookup 98 (.map (some mb)) (.string s) false).run Tryz.prog V = .ok (.bool (findT acc s).isSome) V := by
  obtain ⟨n, D, hn, hown, hat⟩ := h
  obtain ⟨v, ps, hrun, hv⟩ := hown.lookup keyed_str Tryz.underlying98 (zero_bool V) (plainElem_bool Tryz.underlying4 false) (WideMaps.keyOf_string_mk Tryz.underlying9 hs)
  rw [show D.atKey (.string s.data.toList) (.lit (.bool false)) = _ from hat s] at hv
  have : v = .bool (findT acc s).isSome := by
    unfold plainElem at hv
    rw [Tryz.underlying4] at hv
    cases v <;> simp at hv
    rw [hv.1]
  rw [hrun, this]
set_option maxRecDepth 100000 in
theorem SeenT.put {V : World} {mb : Nat} {acc : List ByteArray} {k : Nat} (h : SeenT V mb acc k) (hk : k ≤ 1000000) (s : ByteArray) (hs : s.size ≤ maxLen) :
    ∃ V', (Instr.mapUpdate 98 (.map (some mb)) (.string s) (.bool true)).run Tryz.prog V = .ok () V' ∧ SeenT V' mb (acc ++ [s]) (k + 1) ∧ V.grownBy V' (some mb) := by
  obtain ⟨n, D, hn, hown, hat⟩ := h
  obtain ⟨V', hrun, hown', hg⟩ := hown.update keyed_str Tryz.underlying98 (by unfold maxLen; omega) (WideMaps.keyOf_string_mk Tryz.underlying9 hs) (plainElem_bool Tryz.underlying4 true)
  refine ⟨V', hrun, ⟨n + 1, _, by omega, hown', fun t => ?_⟩, hg⟩
  rw [findT_snoc]
  by_cases e : s = t
  · subst e
    rw [if_pos rfl]
    have : (D.put (keyT s) (.lit (.bool true))).atKey (keyT s) (.lit (.bool false)) = .lit (.bool true) := atKey_put_same hown.isMap (keyT_key _) _ _
    refine this.trans ?_
    cases findT acc s <;> rfl
  · rw [if_neg e, Option.or_none]
    have : (D.put (keyT s) (.lit (.bool true))).atKey (keyT t) (.lit (.bool false)) = D.atKey (keyT t) (.lit (.bool false)) := atKey_put_other (keyT_ne (Ne.symm e)) _ _
    exact this.trans (hat t)
theorem quote_notQ (s : ByteArray) : ((quoteT s).2 = 0 ∧ notQ s = false) ∨ ((quoteT s).2 ≠ 0 ∧ notQ s = true) := by
  unfold quoteT notQ quotedB
  by_cases h : s.size ≤ 16384
  · by_cases h2 : s.data.toList.all visB = true
    · left; rw [if_pos h, if_pos h2, h2]; simp [h]
    · right; rw [if_pos h, if_neg h2]; simp [h, h2]
  · right; rw [if_neg h]; simp [h]
theorem concat_all (g : Nat) (a : Option Addr) (c : Nat) (all : List ByteArray) (w : World) (h : w.heap[g]? = some (.cells #[.slice none 0 0, .slice a all.length c] 34 (0, 0))) (B : Nat) (hO : OwnS w B (.slice a all.length c) all) (hl : all.length ≤ 1000000) :
    Calls Tryz.prog 47 #[.slice (some ⟨g, 0, none⟩) 2 2] w fun e w' => ∃ v, e = .returned v ∧ w'.ownsRow w.heap.size 9 1 v all.length (strCells all) ∧ w.grownBy w' none := by
  by_cases hn : all = []
  · have := hO.2 hn
    subst hn
    injection this with h1 h2 h3
    subst h1; subst h3
    refine (concat_0 g w h).mono ?_
    rintro e w' ⟨rfl, rfl⟩
    exact ⟨_, rfl, World.ownsRow_nil _ _ _ _, ⟨rfl, rfl, rfl, Nat.le_refl _, fun _ _ _ => rfl⟩⟩
  · exact concat_n g a c all w h B hO (List.length_pos_iff.2 hn) hl
/-- What with answers of these texts. -/
def WithOk (all : List ByteArray) (w : World) (e : Ending) (w' : World) : Prop :=
  Below w.heap.size w w' ∧ ((all.any notQ = true ∧ e = .returned (.tuple #[.slice none 0 0, .int .i64 3])) ∨ (all.any notQ = false ∧ 1000 < (dedup all).length ∧ e = .returned (.tuple #[.slice none 0 0, .int .i64 5])) ∨
    (all.any notQ = false ∧ (dedup all).length ≤ 1000 ∧ ∃ v, e = .returned (.tuple #[v, .int .i64 0]) ∧ IsTexts w' v (dedup all) ∧ ∀ g, v.ownBlock = some g → w.heap.size ≤ g))
theorem RowB.mono {B B' : Nat} {w : World} {v : Value} {n : Nat} {xs : List Value} (h : RowB B w v n xs) (hB : B ≤ B') : RowB B' w v n xs := by
  obtain ⟨a, c, hv, hlc, hl⟩ := h
  refine ⟨a, c, hv, hlc, fun hne => ?_⟩
  obtain ⟨b, off, ha, hlt, hc⟩ := hl hne
  exact ⟨b, off, ha, by omega, hc⟩
theorem IsExp.mono {B B' : Nat} {w : World} {x : ExpD} (h : IsExp B w x) (hB : B ≤ B') : IsExp B' w x := by
  induction h with
  | mk h1 h2 _ ih => exact .mk (h1.mono hB) h2 ih
set_option maxHeartbeats 4000000 in
set_option maxRecDepth 100000 in
theorem with_nil (bv : Value) (bodies : List ExpD) (w : World) (hR : RowB w.heap.size w bv bodies.length (expCells bodies)) (hY : ∀ y ∈ bodies, IsExp w.heap.size w y) (hs : sizeL bodies ≤ 10000) (hsz : ∀ s ∈ textsL bodies, s.size ≤ maxLen) :
    Calls Tryz.prog 23 #[.slice none 0 0, bv] w (WithOk (textsL bodies) w) := by
  have hmm := @run_makeMap Tryz.prog
  have hll := length_le bodies
  have HR := Lib.hid hR
  have HY := Lib.hid hY
  have HSZ := Lib.hid hsz
  obtain ⟨ba, bc, rfl, hbc, _⟩ := hR
  obtain ⟨is0, his, isz0, isz1, isz2⟩ := info_parts info_str
  have htl : (textsL bodies).length ≤ 10000 := by have := textsL_le bodies fun y _ => textsX_le y; omega
  have HB0 := Lib.hid (Below.refl w.heap.size w)
  clear hY hsz
  go_enter Tryz.func23, Tryz.ntmps23
  go_wp2_with fail
  go_loopw [6, 21] (fun lv i wr => ∃ k : Nat, k ≤ bodies.length ∧ i = .int .i64 k ∧ Hid (OwnS wr w.heap.size lv (textsL (bodies.take k))) ∧ Hid (Below w.heap.size w wr)) (fun _ i _ => bodies.length - (intOf i).toNat)
  case atStart => exact ⟨0, Nat.zero_le _, rfl, by rw [List.take_zero, textsL_nil]; exact OwnS.nil _ _, HB0⟩
  case round =>
    obtain ⟨k, hk, rfl, HO, HB⟩ := hrel
    by_cases hkl : k < bodies.length
    · obtain ⟨b, off, rfl, hbB2, c0, c1, c2, c3⟩ := parts_at HR.out HB.out k hkl
      have hmem := getD_mem default bodies k hkl
      have HT := Lib.hid (show textsL (bodies.take (k + 1)) = textsL (bodies.take k) ++ textsX (bodies.getD k default) from by rw [take_one default bodies k hkl, textsL_snoc])
      have hyk := (HY.out _ hmem).under HB.out
      have hlen : (textsL (bodies.take k)).length + sizeX (bodies.getD k default) ≤ 100000 := by
        have h1 := textsL_le (bodies.take k) fun y _ => textsX_le y
        have h2 := sizeL_take bodies (k + 1)
        rw [take_one default bodies k hkl, sizeL_snoc] at h2
        omega
      clear hmem
      generalize bodies.getD k default = x at *
      obtain ⟨xo, xn, xs, xv, xl⟩ := x
      obtain ⟨xa, xc, rfl, _⟩ := hyk.parts.1
      simp only [ExpD.op, ExpD.n, ExpD.s, ExpD.lv] at c0 c1 c2 c3
      have hg3 := grown_alloc wr (.cells #[.int .i64 xo, .int .i64 xn, .string xs, .slice xa xl.length xc] 29)
      have gX := new_heap wr (.cells #[.int .i64 xo, .int .i64 xn, .string xs, .slice xa xl.length xc] 29)
      obtain ⟨e0, e1, e2, e3⟩ := exp_box gX
      have hszr := HB.out.size
      have hszg := hg3.size
      have hlv := owns_lt HO.out.1
      have HM := Lib.hid (strings_any w.heap.size w.heap.size (Nat.le_refl _) _ u6 _ (wr.alloc (.cells #[.int .i64 xo, .int .i64 xn, .string xs, .slice xa xl.length xc] 29)) (by omega) (hyk.grown hg3 hszr (by nofun)) (HO.out.grown hg3 (by nofun)) hlen)
      have HB2 := Lib.hid (HB.out.trans (grown_under hg3 hszr (by nofun)))
      rw [expV_mk] at HM
      clear hyk gX hg3 hlen
      go_wp2_with fail
      refine HM.out.mono ?_
      rintro e w2 ⟨lv2, rfl, hO2, hg4, hf4⟩
      have HO2 : Hid (OwnS w2 w.heap.size lv2 (textsL (bodies.take (k + 1)))) := by rw [HT.out]; exact hO2
      have HB3 := Lib.hid (HB2.out.trans (grown_under (B := w.heap.size) hg4 (by omega) (fun j hj => (hlv j hj).1)))
      clear hO2 hg4 hf4 HM c0 c1 c2 c3 e0 e1 e2 e3
      go_wp2_with fail
      go_roundw
      case rel => exact ⟨k + 1, by omega, by go_num, HO2, HB3⟩
      case measure => simp [intOf]; omega
    · have hO2 := HO.out
      rw [List.take_of_length_le (by omega)] at hO2
      obtain ⟨la, lc, rfl⟩ := own_shape hO2.1
      obtain ⟨all, hall⟩ : ∃ all, textsL bodies = all := ⟨_, rfl⟩
      rw [hall] at hO2 htl HSZ
      simp only [hall]
      have hlv := owns_lt hO2.1
      have hg3 := grown_alloc wr (.cells #[.slice none 0 0, .slice la all.length lc] 34)
      have gA := new_heap wr (.cells #[.slice none 0 0, .slice la all.length lc] 34)
      have HO3 := Lib.hid (hO2.grown hg3 (by nofun))
      have HC := Lib.hid (concat_all _ la lc all _ gA w.heap.size HO3.out (by omega))
      have HB3 := Lib.hid (HB.out.trans (grown_under hg3 HB.out.size (by nofun)))
      have hsz3 := hg3.size
      clear gA hg3 hO2
      go_wp2_with fail
      refine HC.out.mono ?_
      rintro e w2 ⟨cv, rfl, hcv, hgc⟩
      obtain ⟨ca, cc, rfl⟩ := own_shape hcv
      have hT2 : IsTexts w2 (.slice ca all.length cc) all := isRow_owns hcv
      have HT2 := Lib.hid hT2
      have HB4 := Lib.hid (HB3.out.trans (grown_under (B := w.heap.size) hgc HB3.out.size (by nofun)))
      have HO4 := Lib.hid (HO3.out.grown hgc (by nofun))
      have HBR := Lib.hid (Below.refl w2.heap.size w2)
      clear hcv hgc HC hT2
      have ham : all.length ≤ 9223372036854775807 := by omega
      go_wp2_with fail
      go_loopw [34] (fun i wr => ∃ k : Nat, k ≤ all.length ∧ i = .int .i64 k ∧ Hid ((all.take k).any notQ = false) ∧ Hid (Below w2.heap.size w2 wr)) (fun i _ => all.length - (intOf i).toNat)
      case atStart => exact ⟨0, Nat.zero_le _, rfl, rfl, HBR⟩
      case round =>
        obtain ⟨k, hk, rfl, hno, HB⟩ := hrel
        by_cases hkl : k < all.length
        · obtain ⟨tb, toff, tc', hta, _, _, t0⟩ := texts_at (IsRow.below HT2.out HB.out) k hkl
          obtain rfl := (Value.slice.inj hta).1
          have HQ := Lib.hid (quote_any (all.getD k default) wr)
          have Hn := Lib.hid (any_next default all notQ k hkl hno.out)
          have Hy := Lib.hid (any_hit default all notQ k hkl)
          have hq := quote_notQ (all.getD k default)
          generalize all.getD k default = x at *
          clear hta
          obtain ⟨q1, hq1⟩ : ∃ q1, (quoteT x).1 = q1 := ⟨_, rfl⟩
          obtain ⟨q2, hq2⟩ : ∃ q2, (quoteT x).2 = q2 := ⟨_, rfl⟩
          unfold QuoteOk at HQ
          rw [hq1, hq2] at HQ
          rw [hq2] at hq
          clear hq1 hq2
          rcases hq with ⟨rfl, hq⟩ | ⟨hqe, hq⟩
          · have HN := Lib.hid (Hn.out hq)
            go_wp2_with fail
            refine HQ.out.mono ?_
            rintro e w3 ⟨rfl, hb3⟩
            have HB5 := Lib.hid (HB.out.trans (hb3.mono HB.out.size))
            clear hb3
            go_wp2_with fail
            go_roundw
            case rel => exact ⟨k + 1, by omega, by go_num, HN, HB5⟩
            case measure => simp [intOf]; omega
          · have HN := Lib.hid (Hy.out hq)
            have hqe2 : (q2 == 0) = false := beq_eq_false_iff_ne.2 hqe
            go_wp2_with fail
            refine HQ.out.mono ?_
            rintro e w3 ⟨rfl, hb3⟩
            have HB5 := Lib.hid (HB4.out.trans ((HB.out.trans (hb3.mono HB.out.size)).mono HB4.out.size))
            clear hb3
            go_wp2_with fail
            go_ret2
            exact ⟨HB5.out, by rw [hall]; exact .inl ⟨HN.out, rfl⟩⟩
        · have hno2 := hno.out
          rw [List.take_of_length_le (by omega)] at hno2
          have HNO := Lib.hid hno2
          have HB5 := Lib.hid (HB4.out.trans (HB.out.mono HB4.out.size))
          have HO5 := Lib.hid (HO4.out.grown (grown_below HB.out) (by nofun))
          clear hno2
          go_wp2_with fail
          refine (clone_0 _).mono ?_
          rintro e w' ⟨rfl, rfl⟩
          go_wp2_with fail
          go_loop [51] (fun i => i = .int .i64 0) (fun _ => 0)
          case atStart => rfl
          case round =>
            subst hrel
            have hgm := grown_alloc wr (.map #[] 0)
            have HS6 : Hid (SeenT (wr.alloc (.map #[] 0)) wr.heap.size [] 0) := SeenT.start
            have HO6 := Lib.hid (HO5.out.grown hgm (by nofun))
            have HB6 := Lib.hid (HB5.out.trans (grown_under (B := w.heap.size) hgm HB5.out.size (by nofun)))
            have hszm : (wr.alloc (.map #[] 0)).heap.size = wr.heap.size + 1 := by simp
            have hszw := HB5.out.size
            have hlvm := owns_lt HO5.out.1
            clear hgm
            go_wp2_with fail
            generalize wr.alloc (.map #[] 0) = W at *
            generalize wr.heap.size = mb at *
            have HBW := Lib.hid (Below.refl mb W)
            have HOV : Hid (OwnS W (mb + 1) (.slice none 0 0) []) := OwnS.nil _ _
            go_loopw [13, 60] (fun ov i wr => ∃ k : Nat, k ≤ all.length ∧ i = .int .i64 k ∧ Hid (OwnS wr (mb + 1) ov (dedup (all.take k))) ∧ Hid (SeenT wr mb (dedup (all.take k)) k) ∧ Hid (Below mb W wr)) (fun _ i _ => all.length - (intOf i).toNat)
            case atStart => exact ⟨0, Nat.zero_le _, rfl, by rw [List.take_zero]; exact HOV, by rw [List.take_zero]; exact HS6, HBW⟩
            case round =>
              obtain ⟨k, hk, rfl, HOv, HS, HB⟩ := hrel
              have hszr := HB.out.size
              have hdl := dedup_len (all.take k)
              have htk : (all.take k).length ≤ k := by rw [List.length_take]; omega
              have hovl := owns_lt HOv.out.1
              by_cases hkl : k < all.length
              · have hO7 := owns_lt HO6.out.1
                have HO7 : Hid (OwnS wr w.heap.size (.slice la all.length lc) all) := ⟨by
                  obtain ⟨h1, h2⟩ := HO6.out.1
                  refine ⟨h1, ?_⟩
                  rcases h2 with h2 | ⟨g, cap, cur, hv, hb, hh, hrest⟩
                  · exact .inl h2
                  · exact .inr ⟨g, cap, cur, hv, hb, (HB.out.block g (by
                      have := hlvm g (by rw [hv]; rfl)
                      omega)).trans hh, hrest⟩, HO6.out.2⟩
                obtain ⟨tb, toff, tc', hta, _, _, t0⟩ := texts_at HO7.out.texts k hkl
                obtain rfl := (Value.slice.inj hta).1
                have hsx := HSZ.out _ (getD_mem default all k hkl)
                have hlook := HS.out.look (all.getD k default) hsx
                have hdt := dedup_take all k hkl
                have HPUT := Lib.hid (HS.out.put (by omega) (all.getD k default) hsx)
                unfold addT at hdt
                generalize all.getD k default = x at *
                obtain ⟨bb, hbb⟩ : ∃ bb, (findT (dedup (all.take k)) x).isSome = bb := ⟨_, rfl⟩
                rw [hbb] at hlook hdt
                clear hta hbb hsx hO7
                cases bb
                · rw [if_neg (by simp)] at hdt
                  obtain ⟨V', hput, hS2, hg2⟩ := HPUT.out
                  rw [← hdt] at hS2
                  have hOv2 := HOv.out.grown hg2 (fun j hj e => by cases hj; have := (hovl _ e).1; omega)
                  obtain ⟨oa, oc, rfl⟩ := own_shape HOv.out.1
                  have HBP := Lib.hid (HB.out.trans (grown_under (B := mb) hg2 (by omega) (fun j hj => by cases hj; exact Nat.le_refl _)))
                  have HS2 := Lib.hid hS2
                  have HOv2 := Lib.hid hOv2
                  have hszv := hg2.size
                  have HDT := Lib.hid hdt
                  clear hS2 hOv2 hg2 hdt HPUT
                  go_wp2_with (at_builtin; refine wpList_append_lies _ rfl _ _ 34 rfl (mb + 1) 9 is0 (.string ByteArray.empty) 1 16 Tryz.underlying34 his isz0 isz1 isz2 rfl (by decide) _ (dedup (all.take k)).length (strCells (dedup (all.take k))) rfl (HOv2.out.1.alloc _) ⟨V'.heap.size, 0, none⟩ 1 1 [.string x] rfl rfl ?c1 ?c2 (by decide) ?c3 ?c4 ?c5 _ rfl ?_)
                  case c1 => exact World.news_of_block (cs := #[.string x]) (new_heap V' _)
                  case c2 => intro u hu; simp at hu; subst hu; rfl
                  case c3 => unfold maxLen; omega
                  case c4 => omega
                  case c5 => simp; omega
                  intro g8 cap8 w8 hown8 hgrow8 hat8 hlt8
                  have hg7 := grown_alloc V' (.cells #[.string x] 9)
                  have hov7 := owns_lt (HOv2.out.grown hg7 (by nofun)).1
                  have HO8 : Hid (OwnS w8 (mb + 1) (.slice (some ⟨g8, 0, none⟩) ((dedup (all.take k)).length + 1) cap8) (dedup (all.take (k + 1)))) := ⟨by rw [HDT.out, strCells_snoc, List.length_append, List.length_singleton]; exact hown8, fun e => by rw [HDT.out] at e; simp at e⟩
                  have HS8 := Lib.hid (HS2.out.stays ((hgrow8.block mb (by have := HS2.out.lt; simp; omega) (fun e => by have := (hov7 mb e.symm).1; omega)).trans (hg7.block mb HS2.out.lt (by nofun))))
                  have HB8 := Lib.hid ((HBP.out.trans (grown_under (B := mb) hg7 (by omega) (by nofun))).trans (grown_under (B := mb) hgrow8 (by have := hg7.size; omega) (fun j hj => by have := (hov7 j hj).1; omega)))
                  clear hg7 hov7 hown8 hgrow8 hat8
                  go_wp2_with fail
                  go_roundw
                  case rel => exact ⟨k + 1, by omega, by go_num, HO8, HS8, HB8⟩
                  case measure => simp [intOf]; omega
                · rw [if_pos rfl] at hdt
                  have HO8 : Hid (OwnS wr (mb + 1) u13 (dedup (all.take (k + 1)))) := by rw [hdt]; exact HOv
                  have HS8 : Hid (SeenT wr mb (dedup (all.take (k + 1))) (k + 1)) := by rw [hdt]; exact HS.out.mono
                  clear hdt HPUT
                  go_wp2_with fail
                  go_roundw
                  case rel => exact ⟨k + 1, by omega, by go_num, HO8, HS8, HB⟩
                  case measure => simp [intOf]; omega
              · have hO8 := HOv.out
                rw [List.take_of_length_le (by omega)] at hO8
                obtain ⟨oa, oc, rfl⟩ := own_shape hO8.1
                have HT8 := Lib.hid hO8.texts
                have HTB := Lib.hid (fun g hg => show w.heap.size ≤ g from by have := (owns_lt hO8.1 g hg).1; omega)
                have HB8 := Lib.hid (HB6.out.trans (HB.out.mono hszw))
                have hdl2 := dedup_len all
                clear hO8
                by_cases h1000 : 1000 < ((dedup all).length : Int)
                · go_wp2_with fail
                  go_ret2
                  refine ⟨HB8.out, ?_⟩
                  try rw [hall]
                  exact .inr (.inl ⟨HNO.out, by omega, rfl⟩)
                · go_wp2_with fail
                  go_ret2
                  refine ⟨HB8.out, ?_⟩
                  try rw [hall]
                  exact .inr (.inr ⟨HNO.out, by omega, _, rfl, HT8.out, HTB.out⟩)

theorem info_exp : (Tryz.prog.info? 29).map (fun i => (i.zero, i.size, i.bytes)) = some (some (.agg #[.int .i64 0, .int .i64 0, .string ByteArray.empty, .slice none 0 0]), 4, 56) := by kernel_rfl
theorem info_fun : (Tryz.prog.info? 43).map (fun i => (i.zero, i.size, i.bytes)) = some (some (.agg #[.int .i64 0, .int .i64 0, .int .i64 0, .slice none 0 0]), 4, 48) := by kernel_rfl
theorem prog_info : (Tryz.prog.info? 36).map (·.size) = some 3 := by kernel_rfl
theorem set3 {V : World} {R : Nat} {x y z : Value} (h : V.heap[R]? = some (.cells #[x, y, z] 36 (0, 0))) (a b c : Value) : (((V.setCell ⟨R, 0, none⟩ a).setCell ⟨R, 1, none⟩ b).setCell ⟨R, 2, none⟩ c).heap[R]? = some (.cells #[a, b, c] 36 (0, 0)) ∧ V.grownBy (((V.setCell ⟨R, 0, none⟩ a).setCell ⟨R, 1, none⟩ b).setCell ⟨R, 2, none⟩ c) (some R) :=
  ⟨heap_set_same (heap_set_same (heap_set_same h _) _) _, grown_both (grown_both (grown_set V R 0 a) (grown_set _ R 1 b)) (grown_set _ R 2 c)⟩
/-- A row stays where its block stays. -/
theorem row_stays {w w' : World} {v : Value} {n : Nat} {xs : List Value} (h : IsRow w v n xs) (hs : w.heap.size ≤ w'.heap.size) (hk : ∀ g, v.ownBlock = some g → w'.heap[g]? = w.heap[g]?) : IsRow w' v n xs := by
  obtain ⟨a, c, rfl, hlc, hl⟩ := h
  refine ⟨a, c, rfl, hlc, fun hne => ?_⟩
  obtain ⟨b, off, rfl, hlt, hc⟩ := hl hne
  exact ⟨b, off, rfl, by omega, fun j hj => by rw [← hc j hj]; unfold World.cell?; rw [show w'.heap[b]? = _ from hk b rfl]⟩
/-- The function of byte code of a flat one. -/
def FunOf (ts : List ByteArray) (f : FlatD) (g : FunD) : Prop := g.c = f.caps ∧ g.l = locX 1 f.body ∧ Whole g.code (textT ts) f.body ∧ DepOk g.code g.d 0
/-- The texts of all bodies. -/
def allT (fl : List FlatD) : List ByteArray := textsL (fl.map FlatD.body)
/-- What Program answers. -/
def ProgAns (fl : List FlatD) (main : Int) (w : World) (e : Ending) (w' : World) : Prop :=
  Below w.heap.size w w' ∧ ((validF fl main = false ∧ e = .returned (.tuple #[.agg #[.slice none 0 0, .slice none 0 0, .int .i64 0], .int .i64 1])) ∨
    (validF fl main = true ∧ (allT fl).any notQ = true ∧ e = .returned (.tuple #[.agg #[.slice none 0 0, .slice none 0 0, .int .i64 0], .int .i64 3])) ∨
    (validF fl main = true ∧ (allT fl).any notQ = false ∧ 1000 < (dedup (allT fl)).length ∧ e = .returned (.tuple #[.agg #[.slice none 0 0, .slice none 0 0, .int .i64 0], .int .i64 5])) ∨
    (validF fl main = true ∧ (allT fl).any notQ = false ∧ (dedup (allT fl)).length ≤ 1000 ∧ ∃ (fv tv : Value) (funs : List FunD), e = .returned (.tuple #[.agg #[fv, tv, .int .i64 main], .int .i64 0]) ∧ IsProg w' fv tv ⟨funs, dedup (allT fl), main⟩ ∧ funs.length = fl.length ∧ ∀ i, i < fl.length → FunOf (dedup (allT fl)) (fl.getD i default) (funs.getD i default)))
/-- The functions so far: a row of the call, and rows of code apart from it. -/
structure FunsAt (V : World) (pb B2 : Nat) (fv : Value) (funs : List FunD) : Prop where
  own : V.ownsRow B2 43 4 fv funs.length (funCells funs)
  code : ∀ f ∈ funs, IsCode V f.v f.code ∧ ∀ g, f.v.ownBlock = some g → pb < g ∧ g < V.heap.size ∧ fv.ownBlock ≠ some g
theorem valid_all {fl : List FlatD} {main : Int} (h : validF fl main = true) : fl.length ≤ 4096 ∧ 0 < fl.length ∧ 0 ≤ main ∧ main < fl.length ∧ (fl.getD main.toNat default).caps = 0 ∧ ∀ f ∈ fl, funB (cloV fl) f = true := by
  unfold validF at h
  simp only [Bool.and_eq_true] at h
  obtain ⟨h1, h2, h3, h4⟩ := h
  unfold inB at h1 h2
  simp at h1 h2
  refine ⟨by omega, by omega, by omega, by omega, by simpa using h3, fun f hf => ?_⟩
  exact List.all_eq_true.1 h4 f hf
theorem fun_caps {fl : List FlatD} {f : FlatD} (h : funB (cloV fl) f = true) : 0 ≤ f.caps ∧ f.caps ≤ 1000 := by
  unfold funB at h
  rw [Bool.and_eq_true] at h
  have := h.1
  unfold inB at this
  simpa using this
theorem map_take' (fl : List FlatD) (k : Nat) (h : k < fl.length) : (fl.map FlatD.body).take (k + 1) = (fl.map FlatD.body).take k ++ [(fl.getD k default).body] := by
  rw [take_one default _ k (by simpa using h)]
  simp [List.getD, h]
theorem text_small {caps : Int} {clo : Int → Int → Bool} (x : ExpD) : ∀ loc, flatX caps clo loc x = true → ∀ s ∈ textsX x, s.size ≤ 16384 := by
  induction x using ExpD.induct with
  | h op n s lv l ih =>
    intro loc h t ht
    obtain ⟨h1, h2⟩ := flat_parts h
    rw [textsX_mk] at ht
    by_cases h3 : op = 3
    · subst h3
      rw [if_pos rfl] at ht
      have := (form_3 h1).1
      simp at this
      simp at ht
      subst ht
      exact this.2.2
    · rw [if_neg h3] at ht
      have : ∀ l' : List ExpD, (∀ y ∈ l', y ∈ l) → t ∈ textsL l' → ∃ y ∈ l, t ∈ textsX y := fun l' => by
        induction l' with
        | nil => intro _ h; rw [textsL_nil] at h; cases h
        | cons x r ih2 =>
          intro hm h
          rw [textsL_cons] at h
          rcases List.mem_append.1 h with h | h
          · exact ⟨x, hm x (by simp), h⟩
          · exact ih2 (fun y hy => hm y (by simp [hy])) h
      obtain ⟨y, hy, hty⟩ := this l (fun _ h => h) ht
      obtain ⟨k, hk, rfl⟩ := List.mem_iff_getElem.1 hy
      have := h2 k hk
      rw [show l.getD k default = l[k] by simp [List.getD, hk]] at this
      exact ih _ hy _ this t hty
theorem all_small {fl : List FlatD} (h : ∀ f ∈ fl, funB (cloV fl) f = true) : ∀ s ∈ allT fl, s.size ≤ 16384 := by
  intro s hs
  have : ∀ l' : List FlatD, (∀ y ∈ l', y ∈ fl) → s ∈ textsL (l'.map FlatD.body) → ∃ f ∈ fl, s ∈ textsX f.body := fun l' => by
    induction l' with
    | nil => intro _ h; rw [List.map_nil, textsL_nil] at h; cases h
    | cons x r ih2 =>
      intro hm h
      rw [List.map_cons, textsL_cons] at h
      rcases List.mem_append.1 h with h | h
      · exact ⟨x, hm x (by simp), h⟩
      · exact ih2 (fun y hy => hm y (by simp [hy])) h
  obtain ⟨f, hf, hsf⟩ := this fl (fun _ h => h) hs
  have := h f hf
  unfold funB at this
  rw [Bool.and_eq_true] at this
  exact text_small f.body 1 this.2 s hsf
theorem dedup_mem {l : List ByteArray} {s : ByteArray} (h : s ∈ dedup l) : s ∈ l := by
  have : ∀ (l acc : List ByteArray), s ∈ l.foldl addT acc → s ∈ acc ∨ s ∈ l := fun l => by
    induction l with
    | nil => intro acc h; exact .inl h
    | cons x r ih =>
      intro acc h
      rw [List.foldl_cons] at h
      rcases ih _ h with h | h
      · unfold addT at h
        split at h
        · exact .inl h
        · rcases List.mem_append.1 h with h | h
          · exact .inl h
          · simp at h; subst h; exact .inr (by simp)
      · exact .inr (by simp [h])
  rcases this l [] h with h | h
  · cases h
  · exact h
end Go.Proofs.YtidolpcbbbakmaaGreat
