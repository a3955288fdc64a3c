/- Contract: the reference's Result. -/
import Derived.Test.YtcpicifnadoeoaaCrS
namespace Go.Proofs.Ytcpicifnadoeoaa
open Go Go.RowKit Go.BigFrame

theorem own_le {w : World} {b b' : Nat} {E : TypeId} {s n : Nat} {v : Value} {cs : List Value} (h : w.ownsRow b E s v n cs) (hb : b' ≤ b) : w.ownsRow b' E s v n cs := by
  obtain ⟨h1, h2⟩ := h
  refine ⟨h1, ?_⟩
  rcases h2 with h2 | ⟨g, c, cur, he, hbb, r⟩
  · exact .inl h2
  · exact .inr ⟨g, c, cur, he, Nat.le_trans hb hbb, r⟩
theorem resL_take' (sts : List St) (last : List Int) (k : Nat) (h : k < sts.length) : resL (sts.take (k + 1)) last = resL (sts.take k) last ++ [resC sts[k] last k] := resL_take sts last k h

set_option maxRecDepth 100000 in
set_option maxHeartbeats 2000000 in
theorem rResult31_any (t : Int) (a : Option Addr) (p cap : Nat) (o : Bool) (us : List St) (la : Option Addr) (ln lc : Nat) (last : List Int) (w : World) (hu : Sl w 6 a p cap (us.flatMap oneC)) (hp : p ≤ 8) (hul : us.length = p) (hs : Sl w 3 la ln lc (inCells last)) (_hc : ∀ c ∈ last, 0 ≤ c ∧ c < 36) :
    Calls Try.prog 32 #[.agg #[.int .i64 t, .slice a p cap, .bool o], .slice la ln lc] w (RetRes w us last) := by
  obtain ⟨i0, hi, hz0, hz1, hz2⟩ := info_parts infoInt
  obtain ⟨i1, hj, hy0, hy1, hy2⟩ := info_parts infoIn
  have hll : last.length = ln := by have := hs.1; rw [inCells_len] at this; omega
  have hcl := hs.2.1
  have hcm := hs.2.2.1
  unfold maxLen at hcm
  have hucap := hu.2.1
  have HU := Lib.hid hu
  have HUL := Lib.hid hul
  have HS := Lib.hid hs
  have HL := Lib.hid hll
  have HI := Lib.hid hi
  have HJ := Lib.hid hj
  have HQ0 := Lib.hid ((Q.refl w).alloc (.cells #[.int .i64 t, .slice a p cap, .bool o] 56))
  have HB0 := Lib.hid (Box.new w [.int .i64 t, .slice a p cap, .bool o] 56)
  have HSZ := Lib.hid (show w.heap.size ≤ (w.alloc (.cells #[.int .i64 t, .slice a p cap, .bool o] 56)).heap.size by simp)
  clear hu hs hll hi hj _hc
  go_enter Try.func32, Try.ntmps32
  go_wp2_with (fail)
  have HB0' : Hid (Box (w.alloc (.cells #[.int .i64 t, .slice a p cap, .bool o] 56)) w.heap.size [.int .i64 t, .slice a p cap, .bool o]) := HB0
  generalize w.alloc (.cells #[.int .i64 t, .slice a p cap, .bool o] 56) = w1 at *
  generalize hB : w.heap.size = B at *
  have HB1 := Lib.hid HB0'.out
  clear HB0 HB0'
  go_loopw [6, 7, 8] (fun v u i wr => ∃ (n m cv cu : Nat) (av au : Option Addr), n ≤ p ∧ i = .int .i64 n ∧ v = .slice av n cv ∧ u = .slice au m cu ∧ m ≤ n ∧ wr.ownsRow w1.heap.size 25 3 (.slice av n cv) n (inCells (resL (us.take n) last)) ∧ wr.ownsRow w1.heap.size 3 1 (.slice au m cu) m ((faultL (us.take n)).map (Value.int .i64)) ∧ Q w1 wr) (fun _ _ i _ => p - (intOf i).toNat)
  case atStart => exact ⟨0, 0, 0, 0, none, none, by omega, rfl, rfl, rfl, by omega, World.ownsRow_nil _ _ _ _, World.ownsRow_nil _ _ _ _, Q.refl _⟩
  case round =>
    obtain ⟨n, m, cv, cu, av, au, hn, rfl, rfl, rfl, hmn, ho1, ho2, hq⟩ := hrel
    have HO1 := Lib.hid ho1
    have HO2 := Lib.hid ho2
    have HQ := Lib.hid hq
    clear ho1 ho2
    obtain ⟨lb, r0, r1, r2⟩ := Box.here3 (Box.q HB1.out hq)
    by_cases hlt2 : n < p
    · have hi8 : n < us.length := by omega
      have hlt2' : (n : Int) < p := by omega
      obtain ⟨g, og, rfl, hg, hcs⟩ := one_cell (HU.out.q (HQ0.out.trans hq)) hul n hlt2
      have s2 := hcs 2 (by omega) _ rfl
      have s3 := hcs 3 (by omega) _ rfl
      have s4 := hcs 4 (by omega) _ rfl
      have s5 := hcs 5 (by omega) _ rfl
      have HT1 := Lib.hid (resL_take us last n hi8)
      have HT2 := Lib.hid (faultL_take us n hi8)
      generalize us[n] = s at *
      generalize resL (us.take n) last = R0 at *
      generalize faultL (us.take n) = F0 at *
      obtain ⟨com, rev, sc, inn⟩ := s
      simp only at s2 s3 s4 s5
      clear hq hcs hg
      cases rev with
      | true =>
        have ht1 : resL (us.take (n + 1)) last = R0 ++ [inn] := HT1.out
        have ht2 : faultL (us.take (n + 1)) = F0 := HT2.out.trans (List.append_nil _)
        have HU1 := Lib.hid ht1
        have HU2 := Lib.hid ht2
        clear ht1 ht2 HT1 HT2
        go_wp2_with (at_builtin; refine append_two rfl _ _ 32 rfl w1.heap.size 25 i1 _ 3 24 Try.underlying32 HJ.out hy0 hy1 hy2 rfl (by decide) _ n _ rfl HO1.out 1 _ rfl (inC inn) rfl rfl (by simp [inC, Value.oneCell']) (by omega) (by decide) HQ.out.size ?_; intro g2 cap2 w2 hown2 hq2 hk2)
        go_roundw
        case rel => exact ⟨n + 1, m, cap2, cu, _, _, by omega, by go_num, rfl, rfl, by omega, by rw [HU1.out, inCells_snoc]; exact hown2, by rw [HU2.out]; exact hk2.own (by decide) HO2.out, hq2 _ HQ.out (Nat.le_refl _)⟩
        case measure => simp [intOf]; omega
      | false =>
        have ht2 : faultL (us.take (n + 1)) = F0 ++ [(n : Int)] := HT2.out
        have HU2 := Lib.hid ht2
        clear ht2 HT2
        by_cases hl2 : n < ln
        · have hzl : n < last.length := by rw [HL.out]; exact hl2
          have hl2' : (n : Int) < ln := by omega
          obtain ⟨gl, go, rfl, hgl, hcl2⟩ := (HS.out.q ((HQ0.out.trans HQ.out).alloc (.cells #[.int .i64 0, .int .i64 0, .int .i64 0] 25))).pos (by omega)
          obtain ⟨x0, x1, x2⟩ := inCells_get last n hzl
          have l0 : (wr.alloc (.cells #[.int .i64 0, .int .i64 0, .int .i64 0] 25)).cell? ⟨gl, go + n * 3, none⟩ = some _ := hcl2 _ _ x0
          have l1 : (wr.alloc (.cells #[.int .i64 0, .int .i64 0, .int .i64 0] 25)).cell? ⟨gl, go + n * 3 + 1, none⟩ = some _ := hcl2 _ _ x1
          have l2 : (wr.alloc (.cells #[.int .i64 0, .int .i64 0, .int .i64 0] 25)).cell? ⟨gl, go + n * 3 + 2, none⟩ = some _ := hcl2 _ _ x2
          have HU1 := Lib.hid (show resL (us.take (n + 1)) last = R0 ++ [last[n] % 9] by
            rw [HT1.out]; unfold resC; simp [List.getD, hzl])
          generalize last[n] = x at *
          clear x0 x1 x2 hcl2 hzl HT1 hgl
          go_wp2_with (fail)
          refine (rPredict_any _ _ _ _).mono ?_
          rintro e w4 ⟨rfl, hq4⟩
          have HQ4 := Lib.hid ((HQ.out.alloc (.cells #[.int .i64 (x % 3 - 1), .int .i64 (x / 3 % 3 - 1), .int .i64 (x / 9)] 25)).trans hq4)
          have HP1 := Lib.hid (own_q (HO1.out.alloc (.cells #[.int .i64 (x % 3 - 1), .int .i64 (x / 3 % 3 - 1), .int .i64 (x / 9)] 25)) hq4)
          have HP2 := Lib.hid (own_q (HO2.out.alloc (.cells #[.int .i64 (x % 3 - 1), .int .i64 (x / 3 % 3 - 1), .int .i64 (x / 9)] 25)) hq4)
          clear hq4
          go_wp2_with (at_builtin; refine stopAt ?_)
          refine goOn ?_
          refine append_two rfl _ _ 32 rfl w1.heap.size 25 i1 _ 3 24 Try.underlying32 HJ.out hy0 hy1 hy2 rfl (by decide) _ n _ rfl HP1.out 1 _ rfl [.int .i64 (x % 3 - 1), .int .i64 (x / 3 % 3 - 1), .int .i64 0] rfl rfl (by simp [Value.oneCell']) (by omega) (by decide) HQ4.out.size ?_
          intro g5 cap5 w5 hown5 hq5 hk5
          have HQ5 := Lib.hid (hq5 _ HQ4.out (Nat.le_refl _))
          have HR1 := Lib.hid hown5
          have HR2 := Lib.hid (hk5.own (by decide) HP2.out)
          clear hown5 hq5 hk5
          go_wp2_with (at_builtin; refine stopAt ?_)
          refine goOn ?_
          refine append_two rfl _ _ 30 rfl w1.heap.size 3 i0 _ 1 8 Try.underlying30 HI.out hz0 hz1 hz2 rfl (by decide) _ m _ rfl HR2.out 1 _ rfl [.int .i64 n] rfl rfl (by simp [Value.oneCell']) (by omega) (by decide) HQ5.out.size ?_
          intro g6 cap6 w6 hown6 hq6 hk6
          go_wp2_with (fail)
          go_roundw
          case rel => exact ⟨n + 1, m + 1, cap5, cap6, _, _, by omega, by go_num, rfl, rfl, by omega, by rw [HU1.out, inCells_snoc]; rw [inC_predict]; exact hk6.own (by decide) HR1.out, by rw [HU2.out, List.map_append]; exact hown6, hq6 _ HQ5.out (Nat.le_refl _)⟩
          case measure => simp [intOf]; omega
        · have hl2' : ¬ (n : Int) < ln := by omega
          have HU1 := Lib.hid (show resL (us.take (n + 1)) last = R0 ++ [4] by
            rw [HT1.out]; unfold resC; rw [if_neg (by simp), List.getD, List.getElem?_eq_none (by rw [HL.out]; omega)]; rfl)
          clear HT1
          go_wp2_with (fail)
          refine (rPredict_any _ _ _ _).mono ?_
          rintro e w4 ⟨rfl, hq4⟩
          have HQ4 := Lib.hid ((HQ.out.alloc (.cells #[.int .i64 (0), .int .i64 (0), .int .i64 (0)] 25)).trans hq4)
          have HP1 := Lib.hid (own_q (HO1.out.alloc (.cells #[.int .i64 (0), .int .i64 (0), .int .i64 (0)] 25)) hq4)
          have HP2 := Lib.hid (own_q (HO2.out.alloc (.cells #[.int .i64 (0), .int .i64 (0), .int .i64 (0)] 25)) hq4)
          clear hq4
          go_wp2_with (at_builtin; refine stopAt ?_)
          refine goOn ?_
          refine append_two rfl _ _ 32 rfl w1.heap.size 25 i1 _ 3 24 Try.underlying32 HJ.out hy0 hy1 hy2 rfl (by decide) _ n _ rfl HP1.out 1 _ rfl [.int .i64 (0), .int .i64 (0), .int .i64 0] rfl rfl (by simp [Value.oneCell']) (by omega) (by decide) HQ4.out.size ?_
          intro g5 cap5 w5 hown5 hq5 hk5
          have HQ5 := Lib.hid (hq5 _ HQ4.out (Nat.le_refl _))
          have HR1 := Lib.hid hown5
          have HR2 := Lib.hid (hk5.own (by decide) HP2.out)
          clear hown5 hq5 hk5
          go_wp2_with (at_builtin; refine stopAt ?_)
          refine goOn ?_
          refine append_two rfl _ _ 30 rfl w1.heap.size 3 i0 _ 1 8 Try.underlying30 HI.out hz0 hz1 hz2 rfl (by decide) _ m _ rfl HR2.out 1 _ rfl [.int .i64 n] rfl rfl (by simp [Value.oneCell']) (by omega) (by decide) HQ5.out.size ?_
          intro g6 cap6 w6 hown6 hq6 hk6
          go_wp2_with (fail)
          go_roundw
          case rel => exact ⟨n + 1, m + 1, cap5, cap6, _, _, by omega, by go_num, rfl, rfl, by omega, by rw [HU1.out, inCells_snoc]; exact hk6.own (by decide) HR1.out, by rw [HU2.out, List.map_append]; exact hown6, hq6 _ HQ5.out (Nat.le_refl _)⟩
          case measure => simp [intOf]; omega
    · have hkn : n = p := by omega
      subst hkn
      have hut : us.take n = us := List.take_of_length_le (by omega)
      go_wp2
      go_ret2
      rw [hut] at HO1 HO2
      have hr : (resL us last).length = n := by rw [resL_len, hul]
      have hf : (faultL us).length = m := by have := HO2.out.1; simpa using this
      refine ⟨av, cv, au, cu, ?_, ?_, ?_, HQ0.out.trans hq⟩
      · rw [hr, hf]; rfl
      · rw [hr]; exact own_le HO1.out (by rw [hB]; exact HSZ.out)
      · rw [hf]; exact own_le HO2.out (by rw [hB]; exact HSZ.out)
end Go.Proofs.Ytcpicifnadoeoaa
