/-
  The walk of the reference's Fill.
-/
import Derived.Test.YtlopiinkpdpakaaFl3
namespace Go.Proofs.Ytlopiinkpdpakaa
open Go Go.RowKit
set_option linter.unusedSimpArgs false
set_option linter.unusedVariables false

theorem size_fit {l : List Nat} {most a e : Nat} (hae : a < e) (hel : e ≤ l.length) (h24 : e - a ≤ 1024) : fitF l most a e = decide (sizeF ((l.drop a).take (e - a)) ≤ most) := by
  unfold fitF sizeF sumF
  have e1 : ((l.drop a).take (e - a)).length = e - a := by simp; omega
  rw [e1, decide_eq_true h24, Bool.true_and]
theorem natI_sub (l : List Nat) (a k : Nat) : ((natI l).drop a).take k = natI ((l.drop a).take k) := by simp [natI, List.map_take, List.map_drop]
theorem size_one {l : List Nat} {k s : Nat} (h : l[k]? = some s) : sizeF ((l.drop k).take 1) = 1 + szF s := by
  have e : (l.drop k).take 1 = [s] := by
    have hk := (List.getElem?_eq_some_iff.1 h).1
    rw [List.drop_eq_getElem_cons hk]
    rw [List.getElem?_eq_getElem hk] at h
    injection h with h
    rw [h]; rfl
  rw [e]
  simp [sizeF, digF_lt]
theorem drop_le {l : List Nat} (h : ∀ (i s : Nat), l[i]? = some s → s ≤ 65577) (a k : Nat) : ∀ (i s : Nat), ((l.drop a).take k)[i]? = some s → s ≤ 65577 := by
  intro i s hs
  rw [List.getElem?_take] at hs
  split at hs
  · rw [List.getElem?_drop] at hs
    exact h _ _ hs
  · cases hs
theorem natI_of {l : List Int} (h : ∀ (i : Nat) (x : Int), l[i]? = some x → mayB x = true) : natI (l.map Int.toNat) = l := by
  unfold natI
  rw [List.map_map]
  conv => rhs; rw [← List.map_id l]
  apply List.map_congr_left
  intro x hx
  obtain ⟨i, hi⟩ := List.mem_iff_getElem?.1 hx
  have := (mayB_iff _).1 (h i x hi)
  simp only [Function.comp, id]
  omega

set_option maxRecDepth 100000 in
set_option maxHeartbeats 8000000 in
theorem refFill_any (v : Value) (l : List Int) (most : Int) (w : World) (h : IntS w v l) (hn : l.length ≤ 1000000) :
    Calls Try.prog 13 #[v, .int .i64 most] w fun e w' => ∃ v', e = .returned (.tuple #[v', .int .i64 ((fillF l most).2 : Int)]) ∧ RowsI w' w.heap.size v' (fillF l most).1.length (fillF l most).1 ∧ Below w.heap.size w w' := by
  obtain ⟨p, cap, rfl, hlc, hcm⟩ := h.form
  obtain ⟨n, hnn⟩ : ∃ n, n = l.length := ⟨_, rfl⟩
  rw [← hnn] at hlc hn h ⊢
  have H := Lib.hid h
  have HN := Lib.hid hnn
  unfold maxLen at hcm
  clear h hnn
  by_cases hm : most < 1 ∨ 1048576 < most
  · have HP : Hid (fillF l most = ([], 1)) := Lib.hid (by unfold fillF; rw [if_pos hm])
    by_cases h1 : most < 1
    · have a1 : decide (most < 1) = true := decide_eq_true h1
      go_enter Try.func13, Try.ntmps13
      go_wp2_with fail
      go_ret2
      rw [HP.out]
      exact ⟨_, rfl, RowsI.nil _ _, Below.refl _ _⟩
    · have a1 : decide (most < 1) = false := decide_eq_false h1
      have a2 : decide (1048576 < most) = true := decide_eq_true (by omega)
      go_enter Try.func13, Try.ntmps13
      go_wp2_with fail
      go_ret2
      rw [HP.out]
      exact ⟨_, rfl, RowsI.nil _ _, Below.refl _ _⟩
  obtain ⟨M, rfl⟩ : ∃ M : Nat, most = (M : Int) := ⟨most.toNat, by omega⟩
  have a1 : decide ((M : Int) < 1) = false := decide_eq_false (by omega)
  have a2 : decide (1048576 < (M : Int)) = false := decide_eq_false (by omega)
  have hM1 : 1 ≤ M := by omega
  have hM2 : M ≤ 1048576 := by omega
  have HM := Lib.hid hm
  clear hm
  go_enter Try.func13, Try.ntmps13
  go_wp2_with fail
  go_loopw [6] (fun i W => ∃ j : Nat, j ≤ n ∧ i = .int .i64 (j : Int) ∧ Hid (∀ (t : Nat) (x : Int), t < j → l[t]? = some x → mayB x = true) ∧ W = w) (fun i _ => n - (intOf i).toNat)
  case atStart => exact ⟨0, Nat.zero_le _, rfl, Lib.hid (fun t l ht => absurd ht (by omega)), rfl⟩
  case round =>
    obtain ⟨j, hj, rfl, HY, rfl⟩ := hrel
    by_cases hjn : j < n
    · obtain ⟨x, hx⟩ : ∃ x, l[j]? = some x := ⟨_, List.getElem?_eq_getElem (by rw [← HN.out]; exact hjn)⟩
      obtain ⟨b, o, hp, hc⟩ := H.out.at_ (by omega)
      obtain rfl := hp
      have c0 := hc j x hx
      have hji : (j : Int) < (n : Int) := by omega
      have HX := Lib.hid hx
      clear hc hx
      by_cases hmay : mayB x = true
      · have HY2 : Hid (∀ (t : Nat) (y : Int), t < j + 1 → l[t]? = some y → mayB y = true) := Lib.hid (fun t y ht he => by
          by_cases e : t = j
          · subst e; rw [HX.out] at he; injection he with he; subst he; exact hmay
          · exact HY.out t y (by omega) he)
        go_wp2_with fail
        refine (refMay_any _ _).mono ?_
        rintro e w5 ⟨rfl, rfl⟩
        rw [hmay]
        go_wp2_with fail
        go_roundw
        case rel => exact ⟨j + 1, by omega, by go_num, HY2, by first | trivial | rfl⟩
        case measure => simp [intOf]; omega
      · have hmf : mayB x = false := by simpa using hmay
        have HP : Hid (fillF l (M : Int) = ([], 1)) := Lib.hid (by unfold fillF; rw [if_neg HM.out, if_neg (by rw [mayAll_no HX.out hmf]; simp)])
        clear hmay
        go_wp2_with fail
        refine (refMay_any _ _).mono ?_
        rintro e w5 ⟨rfl, rfl⟩
        rw [hmf]
        go_wp2_with fail
        go_ret2
        rw [HP.out]
        exact ⟨_, rfl, RowsI.nil _ _, Below.refl _ _⟩
    · obtain rfl : j = n := by omega
      have hall : ∀ (i : Nat) (x : Int), l[i]? = some x → mayB x = true := fun i x hi => HY.out i x (by have := (List.getElem?_eq_some_iff.1 hi).1; rw [HN.out]; exact this) hi
      have HAL : Hid (mayAll l = true) := Lib.hid (mayAll_mk hall)
      obtain ⟨L, hL⟩ : ∃ L, L = l.map Int.toNat := ⟨_, rfl⟩
      have HNI : Hid (natI L = l) := Lib.hid (by rw [hL]; exact natI_of hall)
      have HLL : Hid (L.length = j) := Lib.hid (by rw [hL, List.length_map]; exact HN.out.symm)
      have HLS : Hid (∀ (i s : Nat), L[i]? = some s → s ≤ 65577) := Lib.hid (fun i s hs => by
        have h1 := natI_at hs
        rw [HNI.out] at h1
        have := (mayB_iff _).1 (hall _ _ h1)
        omega)
      have HLE := Lib.hid hL
      clear hL HY hall
      obtain ⟨b, o, hbo⟩ : ∃ b o, 0 < j → p = some ⟨b, o, none⟩ := by
        by_cases h0 : 0 < j
        · obtain ⟨b, o, h1, _⟩ := H.out.at_ h0
          exact ⟨b, o, fun _ => h1⟩
        · exact ⟨0, 0, fun h => absurd h h0⟩
      have HBO := Lib.hid hbo
      clear hbo
      go_wp2_with fail
      obtain ⟨wo, rfl⟩ : ∃ wo : World, wo = wr := ⟨_, rfl⟩
      go_loopw [10] (fun i W => ∃ k : Nat, k ≤ j ∧ i = .int .i64 (k : Int) ∧ Hid (∀ (t s : Nat), t < k → L[t]? = some s → 1 + szF s ≤ M) ∧ Below wo.heap.size wo W) (fun i _ => j - (intOf i).toNat)
      case atStart => exact ⟨0, Nat.zero_le _, rfl, Lib.hid (fun t l ht => absurd ht (by omega)), Below.refl _ _⟩
      case round =>
        obtain ⟨k, hk, rfl, HY, hb⟩ := hrel
        have HB := Lib.hid hb
        have hbz := hb.size
        clear hb
        by_cases hkn : k < j
        · obtain ⟨s, hs⟩ : ∃ s, L[k]? = some s := ⟨_, List.getElem?_eq_getElem (by rw [HLL.out]; exact hkn)⟩
          obtain rfl := HBO.out (by omega)
          have hki : (k : Int) < (j : Int) := by omega
          have hkc : ¬ cap = k := by omega
          have HX := Lib.hid hs
          have HS1 : Hid (IntS wr (.slice (some ⟨b, o + k, none⟩) 1 (cap - k)) (natI ((L.drop k).take 1))) := Lib.hid (by
            have h1 := (H.out.keep HB.out).sub (lo := k) (hi := k + 1) (by omega) (by omega)
            rw [← HNI.out, natI_sub, show k + 1 - k = 1 by omega] at h1
            exact h1)
          have hk1 : k + 1 - k = 1 := by omega
          obtain ⟨z, hz⟩ : ∃ z, z = szF s := ⟨_, rfl⟩
          have HZ := Lib.hid hz
          have HSZ : Hid (sizeF ((L.drop k).take 1) = 1 + z) := Lib.hid (by rw [hz]; exact size_one hs)
          clear hs hz
          go_wp2_with fail
          refine (refSize_any _ ((L.drop k).take 1) wr HS1.out (drop_le HLS.out k 1) (by simp; omega)).mono ?_
          rintro e w5 ⟨rfl, hb5⟩
          rw [HSZ.out]
          have HB5 := Lib.hid (HB.out.trans (hb5.mono hbz))
          clear hb5 HB HS1
          by_cases hbig : M < 1 + z
          · have HP : Hid (fillF l (M : Int) = ([], 13)) := Lib.hid (by
              unfold fillF
              rw [if_neg HM.out, if_pos HAL.out, if_pos]
              rw [← HLE.out]
              exact bigF_yes HX.out (by rw [← HZ.out]; simpa using hbig))
            have hbi : decide ((M : Int) < ((1 + z : Nat) : Int)) = true := decide_eq_true (by omega)
            go_wp2_with fail
            go_ret2
            rw [HP.out]
            exact ⟨_, rfl, RowsI.nil _ _, HB5.out⟩
          · have HY2 : Hid (∀ (t s : Nat), t < k + 1 → L[t]? = some s → 1 + szF s ≤ M) := Lib.hid (fun t y ht he => by
              by_cases e : t = k
              · subst e; rw [HX.out] at he; injection he with he; subst he; rw [← HZ.out]; omega
              · exact HY.out t y (by omega) he)
            have hbi : decide ((M : Int) < ((1 + z : Nat) : Int)) = false := decide_eq_false (by omega)
            go_wp2_with fail
            go_roundw
            case rel => exact ⟨k + 1, by omega, by go_num, HY2, HB5.out⟩
            case measure => simp [intOf]; omega
        · obtain rfl : k = j := by omega
          have HBG : Hid (bigF L M = false) := Lib.hid (bigF_no fun i s hi => HY.out i s (by have := (List.getElem?_eq_some_iff.1 hi).1; rw [HLL.out] at this; exact this) hi)
          have HP : Hid (fillF l (M : Int) = ((cutsF L M 0).map rangeF, 0)) := Lib.hid (by
            unfold fillF
            rw [if_neg HM.out, if_pos HAL.out, ← HLE.out, Int.toNat_natCast, if_neg (by rw [HBG.out]; simp)])
          clear HY
          obtain ⟨is, his, hzs, hss, hbs⟩ := infoInts
          have HIS := Lib.hid his; clear his
          obtain ⟨ii, hii, hzi, hsi, hbi⟩ := infoInt
          have HII := Lib.hid hii; clear hii
          go_wp2_with fail
          obtain ⟨w2, rfl⟩ : ∃ w2 : World, w2 = wr := ⟨_, rfl⟩
          go_loopw [8, 9] (fun out at_ W => ∃ (q a : Nat), a ≤ k ∧ q ≤ a ∧ at_ = .int .i64 (a : Int) ∧ Hid ((cutsF L M 0).drop q = cutsF L M a ∧ q ≤ (cutsF L M 0).length) ∧ RowsI W wo.heap.size out q (((cutsF L M 0).take q).map rangeF) ∧ Below wo.heap.size wo W) (fun _ i _ => k - (intOf i).toNat)
          case atStart => exact ⟨0, 0, Nat.zero_le _, Nat.le_refl _, rfl, Lib.hid ⟨rfl, Nat.zero_le _⟩, RowsI.nil _ _, HB.out⟩
          case round =>
            clear HB hbz
            obtain ⟨q, a, hak, hqa, rfl, HQ, hrow, hb⟩ := hrel
            obtain ⟨A, c, rfl⟩ := hrow.form
            have hbz := hb.size
            have HJ := Lib.hid (And.intro hrow hb)
            clear hrow hb
            by_cases ha : a < k
            · obtain rfl := HBO.out (by omega)
              have hai : (a : Int) < (k : Int) := by omega
              have hca : ¬ cap = a := by omega
              go_wp2_with fail
              obtain ⟨w3, rfl⟩ : ∃ w3 : World, w3 = wr := ⟨_, rfl⟩
              go_loopw [11] (fun i W => ∃ t : Nat, 1 ≤ t ∧ t ≤ 1024 ∧ a + t ≤ k ∧ i = .int .i64 (t : Int) ∧ Hid (reachF L M a (a + 1) = reachF L M a (a + t)) ∧ Below w3.heap.size w3 W) (fun i _ => k - (intOf i).toNat)
              case atStart => exact ⟨1, Nat.le_refl _, by omega, by omega, rfl, Lib.hid rfl, Below.refl _ _⟩
              case round =>
                obtain ⟨t, ht1, ht24, htk, rfl, HR, hb3⟩ := hrel
                obtain ⟨x, hx⟩ : ∃ x, x = a + t := ⟨_, rfl⟩
                have hxi : (a : Int) + (t : Int) = (x : Int) := by omega
                have hxt : x - a = t := by omega
                have HX := Lib.hid hx
                have hb3z := hb3.size
                have HB3 := Lib.hid hb3
                rw [← hx] at htk HR
                clear hb3 hx
                by_cases hxk : x < k
                · have hxki : decide ((x : Int) < (k : Int)) = true := decide_eq_true (by omega)
                  by_cases h24 : t < 1024
                  · have h24i : decide ((t : Int) < 1024) = true := decide_eq_true (by omega)
                    have HS1 : Hid (IntS wr (.slice (some ⟨b, o + a, none⟩) (x + 1 - a) (cap - a)) (natI ((L.drop a).take (x + 1 - a)))) := Lib.hid (by
                      have h1 := ((H.out.keep HJ.out.2).keep HB3.out).sub (lo := a) (hi := x + 1) (by have := HX.out; omega) (by omega)
                      rw [← HNI.out, natI_sub] at h1
                      exact h1)
                    go_wp2_with fail
                    refine (refSize_any _ ((L.drop a).take (x + 1 - a)) wr HS1.out (drop_le HLS.out a _) (by simp; omega)).mono ?_
                    rintro e w5 ⟨rfl, hb5⟩
                    obtain ⟨z, hz⟩ : ∃ z, z = sizeF ((L.drop a).take (x + 1 - a)) := ⟨_, rfl⟩
                    rw [← hz]
                    have HFT : Hid (fitF L M a (x + 1) = decide (z ≤ M)) := Lib.hid (by rw [hz]; exact size_fit (by have := HX.out; omega) (by rw [HLL.out]; omega) (by have := HX.out; omega))
                    have HB5 := Lib.hid (HB3.out.trans (hb5.mono hb3z))
                    clear hb5 hz HS1 HB3
                    by_cases hzM : z ≤ M
                    · have hzMi : decide ((z : Int) ≤ (M : Int)) = true := decide_eq_true (by omega)
                      have HR2 : Hid (reachF L M a (a + 1) = reachF L M a (a + (t + 1))) := Lib.hid (by rw [HR.out, show a + (t + 1) = x + 1 by have := HX.out; omega]; exact reachF_more (by rw [HLL.out]; exact hxk) (by rw [HFT.out]; exact decide_eq_true hzM))
                      go_wp2_with fail
                      go_roundw
                      case rel => exact ⟨t + 1, by omega, by omega, by have := HX.out; omega, by go_num, HR2, HB5.out⟩
                      case measure => simp [intOf]; omega
                    · have hzMi : decide ((z : Int) ≤ (M : Int)) = false := decide_eq_false (by omega)
                      have HXE : Hid (reachF L M a (a + 1) = x) := Lib.hid (HR.out.trans (reachF_stop (by rw [HFT.out]; exact decide_eq_false hzM)))
                      have HB3 := HB5
                      have hb3z := HB3.out.size
                      clear HB5
                      have HB4 := Lib.hid (HJ.out.2.trans ((HB3.out.mono hbz)))
                      have hb4z := HB4.out.size
                      have HRW := Lib.hid (HJ.out.1.keep HB3.out)
                      clear HJ HB3 hb3z hbz
                      go_wp2_with fail
                      obtain ⟨w4, rfl⟩ : ∃ w4 : World, w4 = w5 := ⟨_, rfl⟩
                      go_loopw [12, 13] (fun lv i W => ∃ u : Nat, u ≤ t ∧ i = .int .i64 (u : Int) ∧ W.ownsRow w4.heap.size 3 1 lv u (((List.range u).map (· + a)).map intV) ∧ Below w4.heap.size w4 W) (fun _ i _ => t - (intOf i).toNat)
                      case atStart => exact ⟨0, by omega, rfl, World.ownsRow_nil _ _ _ _, Below.refl _ _⟩
                      case round =>
                        obtain ⟨u, hut, rfl, hown, hb5⟩ := hrel
                        obtain ⟨Al, cl, rfl⟩ := own_form hown
                        have hb5z := hb5.size
                        have HO := Lib.hid (And.intro hown hb5)
                        clear hown hb5
                        by_cases hlt : u < t
                        · have hui : (u : Int) < (t : Int) := by omega
                          obtain ⟨y, hy⟩ : ∃ y, y = a + u := ⟨_, rfl⟩
                          have hyi : (a : Int) + (u : Int) = (y : Int) := by omega
                          have HY := Lib.hid hy
                          clear hy
                          go_wp2_with (
                            (at_builtin
                             have hnew := (Blk.new wr 3 #[.int .i64 (y : Int)]).cell 0
                             refine wpList_append_own _ rfl (.tmp 80) (.tmp 84) 36 rfl w4.heap.size 3 ii (.int .i64 0) 1 8 Try.underlying36 HII.out hzi hsi hbi rfl (by decide) (.slice Al u cl) u _ rfl (HO.out.1.alloc _) ⟨wr.heap.size, 0, none⟩ 1 1 [.int .i64 (y : Int)] rfl rfl (fun j u hj => by
                               match j with
                               | 0 => simp at hj; subst hj; rw [add0]; exact hnew
                               | j + 1 => simp at hj) (fun u hu => by simp at hu; subst hu; rfl) (by simp only [maxLen]; omega) (by omega) (by simp; omega) ?_
                             intro v5 w5 hown5 hgrow5 _
                             have HR5 : Hid (w5.ownsRow w4.heap.size 3 1 v5 (u + 1) (((List.range (u + 1)).map (· + a)).map intV) ∧ Below w4.heap.size w4 w5) := Lib.hid ⟨by
                               have e1 : ((List.range (u + 1)).map (· + a)).map intV = ((List.range u).map (· + a)).map intV ++ [.int .i64 (y : Int)] := by
                                 rw [List.range_succ]
                                 simp only [List.map_append, List.map_cons, List.map_nil]
                                 rw [HY.out, Nat.add_comm a u]; rfl
                               rw [e1]; exact hown5, (HO.out.2.alloc hb5z _).grown hgrow5 (by simp; omega) (fun j hj => own_ge HO.out.1 j hj)⟩
                             clear hown5 hgrow5 hnew HO))
                          go_roundw
                          case rel => exact ⟨u + 1, by omega, by go_num, HR5.out⟩
                          case measure => simp [intOf]; omega
                        · obtain rfl : u = t := by omega
                          obtain ⟨hk2, hca, hdr⟩ := cut_here HQ.out.1 (by rw [HLL.out]; exact ha)
                          rw [HXE.out] at hca hdr
                          have HCA := Lib.hid hca
                          have HDR := Lib.hid hdr
                          have HK2 := Lib.hid hk2
                          have HRW5 := Lib.hid (HRW.out.keep HO.out.2)
                          have HLR : Hid (wr.ownsRow wo.heap.size 3 1 (.slice Al u cl) (rangeF (a, x)).length ((rangeF (a, x)).map intV)) := Lib.hid (by
                            have e1 : rangeF (a, x) = (List.range u).map (· + a) := by rw [rangeF, show x - a = u from hxt]
                            have e2 : (rangeF (a, x)).length = u := by rw [rangeF_length]; exact hxt
                            rw [e1, List.length_map, List.length_range]
                            exact own_base HO.out.1 hb4z)
                          clear hca hdr hk2 hxt
                          go_wp2_with (
                            (at_builtin
                             obtain ⟨hl1, vs, hown, hvl, hvs⟩ := HRW5.out
                             have hnew := (Blk.new wr 36 #[.slice Al u cl]).cell 0
                             refine wpList_append_own _ rfl (.tmp 86) (.tmp 88) 37 rfl wo.heap.size 36 is (.slice none 0 0) 1 24 Try.underlying37 HIS.out hzs hss hbs rfl (by decide) (.slice A q c) q vs rfl (hown.alloc _) ⟨wr.heap.size, 0, none⟩ 1 1 [.slice Al u cl] rfl rfl (fun j u hj => by
                               match j with
                               | 0 => simp at hj; subst hj; rw [add0]; exact hnew
                               | j + 1 => simp at hj) (fun u hu => by simp at hu; subst hu; rfl) (by simp only [maxLen]; omega) (by omega) (by simp; omega) ?_
                             intro v5 w5 hown5 hgrow5 _
                             have hBW : Below wr.heap.size wr (wr.alloc (.cells #[.slice Al u cl] 36)) := (Below.refl _ _).alloc (Nat.le_refl _) _
                             have HR5 : Hid (RowsI w5 wo.heap.size v5 (q + 1) (((cutsF L M 0).take (q + 1)).map rangeF) ∧ Below wo.heap.size wo w5) := Lib.hid ⟨by
                               rw [cuts_take HK2.out, HCA.out]
                               exact RowsI.snoc hl1 (hown.alloc _) hvl (fun i u l hu hl => own_below (hvs i u l hu hl) hBW) (own_below HLR.out hBW) hgrow5 hown5,
                               ((HB4.out.trans (HO.out.2.mono hb4z)).trans (hBW.mono (by omega))).grown hgrow5 (by simp; omega) (fun j hj => own_ge hown j hj)⟩
                             clear hown hvl hvs hl1 hown5 hgrow5 hnew hBW))
                          go_roundw
                          case rel => exact ⟨q + 1, x, by omega, by omega, by first | rfl | exact congrArg (Value.int .i64) (by omega), Lib.hid ⟨HDR.out, HK2.out⟩, HR5.out⟩
                          case measure => simp [intOf]; omega
                  · have h24i : decide ((t : Int) < 1024) = false := decide_eq_false (by omega)
                    have HXE : Hid (reachF L M a (a + 1) = x) := Lib.hid (HR.out.trans (reachF_stop (by unfold fitF; rw [decide_eq_false (by have := HX.out; omega : ¬ x + 1 - a ≤ 1024)]; rfl)))
                    have HB4 := Lib.hid (HJ.out.2.trans ((HB3.out.mono hbz)))
                    have hb4z := HB4.out.size
                    have HRW := Lib.hid (HJ.out.1.keep HB3.out)
                    clear HJ HB3 hb3z hbz
                    go_wp2_with fail
                    obtain ⟨w4, rfl⟩ : ∃ w4 : World, w4 = wr := ⟨_, rfl⟩
                    go_loopw [12, 13] (fun lv i W => ∃ u : Nat, u ≤ t ∧ i = .int .i64 (u : Int) ∧ W.ownsRow w4.heap.size 3 1 lv u (((List.range u).map (· + a)).map intV) ∧ Below w4.heap.size w4 W) (fun _ i _ => t - (intOf i).toNat)
                    case atStart => exact ⟨0, by omega, rfl, World.ownsRow_nil _ _ _ _, Below.refl _ _⟩
                    case round =>
                      obtain ⟨u, hut, rfl, hown, hb5⟩ := hrel
                      obtain ⟨Al, cl, rfl⟩ := own_form hown
                      have hb5z := hb5.size
                      have HO := Lib.hid (And.intro hown hb5)
                      clear hown hb5
                      by_cases hlt : u < t
                      · have hui : (u : Int) < (t : Int) := by omega
                        obtain ⟨y, hy⟩ : ∃ y, y = a + u := ⟨_, rfl⟩
                        have hyi : (a : Int) + (u : Int) = (y : Int) := by omega
                        have HY := Lib.hid hy
                        clear hy
                        go_wp2_with (
                          (at_builtin
                           have hnew := (Blk.new wr 3 #[.int .i64 (y : Int)]).cell 0
                           refine wpList_append_own _ rfl (.tmp 80) (.tmp 84) 36 rfl w4.heap.size 3 ii (.int .i64 0) 1 8 Try.underlying36 HII.out hzi hsi hbi rfl (by decide) (.slice Al u cl) u _ rfl (HO.out.1.alloc _) ⟨wr.heap.size, 0, none⟩ 1 1 [.int .i64 (y : Int)] rfl rfl (fun j u hj => by
                             match j with
                             | 0 => simp at hj; subst hj; rw [add0]; exact hnew
                             | j + 1 => simp at hj) (fun u hu => by simp at hu; subst hu; rfl) (by simp only [maxLen]; omega) (by omega) (by simp; omega) ?_
                           intro v5 w5 hown5 hgrow5 _
                           have HR5 : Hid (w5.ownsRow w4.heap.size 3 1 v5 (u + 1) (((List.range (u + 1)).map (· + a)).map intV) ∧ Below w4.heap.size w4 w5) := Lib.hid ⟨by
                             have e1 : ((List.range (u + 1)).map (· + a)).map intV = ((List.range u).map (· + a)).map intV ++ [.int .i64 (y : Int)] := by
                               rw [List.range_succ]
                               simp only [List.map_append, List.map_cons, List.map_nil]
                               rw [HY.out, Nat.add_comm a u]; rfl
                             rw [e1]; exact hown5, (HO.out.2.alloc hb5z _).grown hgrow5 (by simp; omega) (fun j hj => own_ge HO.out.1 j hj)⟩
                           clear hown5 hgrow5 hnew HO))
                        go_roundw
                        case rel => exact ⟨u + 1, by omega, by go_num, HR5.out⟩
                        case measure => simp [intOf]; omega
                      · obtain rfl : u = t := by omega
                        obtain ⟨hk2, hca, hdr⟩ := cut_here HQ.out.1 (by rw [HLL.out]; exact ha)
                        rw [HXE.out] at hca hdr
                        have HCA := Lib.hid hca
                        have HDR := Lib.hid hdr
                        have HK2 := Lib.hid hk2
                        have HRW5 := Lib.hid (HRW.out.keep HO.out.2)
                        have HLR : Hid (wr.ownsRow wo.heap.size 3 1 (.slice Al u cl) (rangeF (a, x)).length ((rangeF (a, x)).map intV)) := Lib.hid (by
                          have e1 : rangeF (a, x) = (List.range u).map (· + a) := by rw [rangeF, show x - a = u from hxt]
                          have e2 : (rangeF (a, x)).length = u := by rw [rangeF_length]; exact hxt
                          rw [e1, List.length_map, List.length_range]
                          exact own_base HO.out.1 hb4z)
                        clear hca hdr hk2 hxt
                        go_wp2_with (
                          (at_builtin
                           obtain ⟨hl1, vs, hown, hvl, hvs⟩ := HRW5.out
                           have hnew := (Blk.new wr 36 #[.slice Al u cl]).cell 0
                           refine wpList_append_own _ rfl (.tmp 86) (.tmp 88) 37 rfl wo.heap.size 36 is (.slice none 0 0) 1 24 Try.underlying37 HIS.out hzs hss hbs rfl (by decide) (.slice A q c) q vs rfl (hown.alloc _) ⟨wr.heap.size, 0, none⟩ 1 1 [.slice Al u cl] rfl rfl (fun j u hj => by
                             match j with
                             | 0 => simp at hj; subst hj; rw [add0]; exact hnew
                             | j + 1 => simp at hj) (fun u hu => by simp at hu; subst hu; rfl) (by simp only [maxLen]; omega) (by omega) (by simp; omega) ?_
                           intro v5 w5 hown5 hgrow5 _
                           have hBW : Below wr.heap.size wr (wr.alloc (.cells #[.slice Al u cl] 36)) := (Below.refl _ _).alloc (Nat.le_refl _) _
                           have HR5 : Hid (RowsI w5 wo.heap.size v5 (q + 1) (((cutsF L M 0).take (q + 1)).map rangeF) ∧ Below wo.heap.size wo w5) := Lib.hid ⟨by
                             rw [cuts_take HK2.out, HCA.out]
                             exact RowsI.snoc hl1 (hown.alloc _) hvl (fun i u l hu hl => own_below (hvs i u l hu hl) hBW) (own_below HLR.out hBW) hgrow5 hown5,
                             ((HB4.out.trans (HO.out.2.mono hb4z)).trans (hBW.mono (by omega))).grown hgrow5 (by simp; omega) (fun j hj => own_ge hown j hj)⟩
                           clear hown hvl hvs hl1 hown5 hgrow5 hnew hBW))
                        go_roundw
                        case rel => exact ⟨q + 1, x, by omega, by omega, by first | rfl | exact congrArg (Value.int .i64) (by omega), Lib.hid ⟨HDR.out, HK2.out⟩, HR5.out⟩
                        case measure => simp [intOf]; omega
                · have hxki : decide ((x : Int) < (k : Int)) = false := decide_eq_false (by omega)
                  have HXE : Hid (reachF L M a (a + 1) = x) := Lib.hid (HR.out.trans (by rw [show x = L.length by rw [HLL.out]; omega]; exact reachF_end))
                  have HB4 := Lib.hid (HJ.out.2.trans ((HB3.out.mono hbz)))
                  have hb4z := HB4.out.size
                  have HRW := Lib.hid (HJ.out.1.keep HB3.out)
                  clear HJ HB3 hb3z hbz
                  go_wp2_with fail
                  obtain ⟨w4, rfl⟩ : ∃ w4 : World, w4 = wr := ⟨_, rfl⟩
                  go_loopw [12, 13] (fun lv i W => ∃ u : Nat, u ≤ t ∧ i = .int .i64 (u : Int) ∧ W.ownsRow w4.heap.size 3 1 lv u (((List.range u).map (· + a)).map intV) ∧ Below w4.heap.size w4 W) (fun _ i _ => t - (intOf i).toNat)
                  case atStart => exact ⟨0, by omega, rfl, World.ownsRow_nil _ _ _ _, Below.refl _ _⟩
                  case round =>
                    obtain ⟨u, hut, rfl, hown, hb5⟩ := hrel
                    obtain ⟨Al, cl, rfl⟩ := own_form hown
                    have hb5z := hb5.size
                    have HO := Lib.hid (And.intro hown hb5)
                    clear hown hb5
                    by_cases hlt : u < t
                    · have hui : (u : Int) < (t : Int) := by omega
                      obtain ⟨y, hy⟩ : ∃ y, y = a + u := ⟨_, rfl⟩
                      have hyi : (a : Int) + (u : Int) = (y : Int) := by omega
                      have HY := Lib.hid hy
                      clear hy
                      go_wp2_with (
                        (at_builtin
                         have hnew := (Blk.new wr 3 #[.int .i64 (y : Int)]).cell 0
                         refine wpList_append_own _ rfl (.tmp 80) (.tmp 84) 36 rfl w4.heap.size 3 ii (.int .i64 0) 1 8 Try.underlying36 HII.out hzi hsi hbi rfl (by decide) (.slice Al u cl) u _ rfl (HO.out.1.alloc _) ⟨wr.heap.size, 0, none⟩ 1 1 [.int .i64 (y : Int)] rfl rfl (fun j u hj => by
                           match j with
                           | 0 => simp at hj; subst hj; rw [add0]; exact hnew
                           | j + 1 => simp at hj) (fun u hu => by simp at hu; subst hu; rfl) (by simp only [maxLen]; omega) (by omega) (by simp; omega) ?_
                         intro v5 w5 hown5 hgrow5 _
                         have HR5 : Hid (w5.ownsRow w4.heap.size 3 1 v5 (u + 1) (((List.range (u + 1)).map (· + a)).map intV) ∧ Below w4.heap.size w4 w5) := Lib.hid ⟨by
                           have e1 : ((List.range (u + 1)).map (· + a)).map intV = ((List.range u).map (· + a)).map intV ++ [.int .i64 (y : Int)] := by
                             rw [List.range_succ]
                             simp only [List.map_append, List.map_cons, List.map_nil]
                             rw [HY.out, Nat.add_comm a u]; rfl
                           rw [e1]; exact hown5, (HO.out.2.alloc hb5z _).grown hgrow5 (by simp; omega) (fun j hj => own_ge HO.out.1 j hj)⟩
                         clear hown5 hgrow5 hnew HO))
                      go_roundw
                      case rel => exact ⟨u + 1, by omega, by go_num, HR5.out⟩
                      case measure => simp [intOf]; omega
                    · obtain rfl : u = t := by omega
                      obtain ⟨hk2, hca, hdr⟩ := cut_here HQ.out.1 (by rw [HLL.out]; exact ha)
                      rw [HXE.out] at hca hdr
                      have HCA := Lib.hid hca
                      have HDR := Lib.hid hdr
                      have HK2 := Lib.hid hk2
                      have HRW5 := Lib.hid (HRW.out.keep HO.out.2)
                      have HLR : Hid (wr.ownsRow wo.heap.size 3 1 (.slice Al u cl) (rangeF (a, x)).length ((rangeF (a, x)).map intV)) := Lib.hid (by
                        have e1 : rangeF (a, x) = (List.range u).map (· + a) := by rw [rangeF, show x - a = u from hxt]
                        have e2 : (rangeF (a, x)).length = u := by rw [rangeF_length]; exact hxt
                        rw [e1, List.length_map, List.length_range]
                        exact own_base HO.out.1 hb4z)
                      clear hca hdr hk2 hxt
                      go_wp2_with (
                        (at_builtin
                         obtain ⟨hl1, vs, hown, hvl, hvs⟩ := HRW5.out
                         have hnew := (Blk.new wr 36 #[.slice Al u cl]).cell 0
                         refine wpList_append_own _ rfl (.tmp 86) (.tmp 88) 37 rfl wo.heap.size 36 is (.slice none 0 0) 1 24 Try.underlying37 HIS.out hzs hss hbs rfl (by decide) (.slice A q c) q vs rfl (hown.alloc _) ⟨wr.heap.size, 0, none⟩ 1 1 [.slice Al u cl] rfl rfl (fun j u hj => by
                           match j with
                           | 0 => simp at hj; subst hj; rw [add0]; exact hnew
                           | j + 1 => simp at hj) (fun u hu => by simp at hu; subst hu; rfl) (by simp only [maxLen]; omega) (by omega) (by simp; omega) ?_
                         intro v5 w5 hown5 hgrow5 _
                         have hBW : Below wr.heap.size wr (wr.alloc (.cells #[.slice Al u cl] 36)) := (Below.refl _ _).alloc (Nat.le_refl _) _
                         have HR5 : Hid (RowsI w5 wo.heap.size v5 (q + 1) (((cutsF L M 0).take (q + 1)).map rangeF) ∧ Below wo.heap.size wo w5) := Lib.hid ⟨by
                           rw [cuts_take HK2.out, HCA.out]
                           exact RowsI.snoc hl1 (hown.alloc _) hvl (fun i u l hu hl => own_below (hvs i u l hu hl) hBW) (own_below HLR.out hBW) hgrow5 hown5,
                           ((HB4.out.trans (HO.out.2.mono hb4z)).trans (hBW.mono (by omega))).grown hgrow5 (by simp; omega) (fun j hj => own_ge hown j hj)⟩
                         clear hown hvl hvs hl1 hown5 hgrow5 hnew hBW))
                      go_roundw
                      case rel => exact ⟨q + 1, x, by omega, by omega, by first | rfl | exact congrArg (Value.int .i64) (by omega), Lib.hid ⟨HDR.out, HK2.out⟩, HR5.out⟩
                      case measure => simp [intOf]; omega
            · obtain rfl : a = k := by omega
              have HE : Hid (q = (cutsF L M 0).length ∧ (cutsF L M 0).take q = cutsF L M 0) := Lib.hid (by
                have h := HQ.out.1
                rw [cutsF_end (a := a) (by rw [HLL.out]; omega)] at h
                have h1 := congrArg List.length h
                rw [List.length_drop, List.length_nil] at h1
                have h2 := HQ.out.2
                exact ⟨by omega, List.take_of_length_le (by omega)⟩)
              go_wp2_with fail
              go_ret2
              have h1 := HJ.out.1
              rw [HE.out.2] at h1
              rw [HP.out, List.length_map, ← HE.out.1]
              exact ⟨_, rfl, h1, HJ.out.2⟩
end Go.Proofs.Ytlopiinkpdpakaa
