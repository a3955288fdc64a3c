/- Contracts: the reference's Commit, Reveal, Result. -/
import Derived.Test.YtcpicifnadoeoaaCrR
import Derived.Test.YtcpicifnadoeoaaCrO
import Derived.Deep.Cut
namespace Go.Proofs.Ytcpicifnadoeoaa
open Go Go.RowKit Go.BigFrame

/-- a round and an error come back -/
def RetRd (w : World) (t : Int) (a : Option Addr) (p : Nat) (o : Bool) (us : List St) (er : Int) (e : Ending) (w' : World) : Prop :=
  ∃ b cb, e = .returned (.tuple #[.agg #[.int .i64 t, .slice b p cb, .bool o], .int .i64 er]) ∧ Sl w' 6 b p cb (us.flatMap oneC) ∧ Q w w' ∧ (b = a ∨ ∀ x, b = some x → w.heap.size ≤ x.block)
theorem one_cell {w : World} {a : Option Addr} {p cap : Nat} {us : List St} (h : Sl w 6 a p cap (us.flatMap oneC)) (hl : us.length = p) (i : Nat) (hi : i < p) : ∃ g o, a = some ⟨g, o, none⟩ ∧ g < w.heap.size ∧ ∀ j, j < 6 → ∀ u, (oneC (us[i]'(hl ▸ hi)))[j]? = some u → w.cell? ⟨g, o + i * 6 + j, none⟩ = some u := by
  obtain ⟨g, o, ha, hg, hc⟩ := h.pos (by omega)
  refine ⟨g, o, ha, hg, fun j hj u hu => ?_⟩
  have := hc (i * 6 + j) u (by rw [flat_get oneC 6 oneC_len us i j (by omega) hj]; exact hu)
  rw [← Nat.add_assoc] at this
  exact this

theorem ret_same {w w' : World} {t : Int} {a : Option Addr} {p cap : Nat} {o : Bool} {us : List St} {er : Int} (h : Sl w 6 a p cap (us.flatMap oneC)) (q : Q w w') : RetRd w t a p o us er (.returned (.tuple #[.agg #[.int .i64 t, .slice a p cap, .bool o], .int .i64 er])) w' :=
  ⟨a, cap, rfl, h.q q, q, .inl rfl⟩
theorem rCommit31_any (t c i : Int) (a : Option Addr) (p cap : Nat) (o : Bool) (us : List St) (w : World) (hs : Sl w 6 a p cap (us.flatMap oneC)) (hp : p ≤ 8) (hl : us.length = p) :
    Calls Try.prog 29 #[.agg #[.int .i64 t, .slice a p cap, .bool o], .int .i64 i, .int .u64 c] w (RetRd w t a p o (commitT p o us i c) (commitE p o us i)) := by
  have hcap := hs.2.1
  have HS := Lib.hid hs
  have hq1 : Q w ((w.alloc (.cells #[.int .i64 t, .slice a p cap, .bool o] 56)).alloc (.cells #[.int .i64 0, .slice none 0 0, .bool false] 56)) := ((Q.refl w).alloc _).alloc _
  have HQ1 := Lib.hid hq1
  clear hq1 hs
  by_cases hi : i < 0 ∨ (p : Int) ≤ i
  · have HE := Lib.hid (show commitE p o us i = 17 by unfold commitE; rw [if_pos hi])
    have HT := Lib.hid (show commitT p o us i c = us by unfold commitT; rw [HE.out]; rfl)
    by_cases h0 : i < 0
    · go_enter Try.func29, Try.ntmps29
      go_wp2
      refine bodyPost_ret (v := .tuple #[.agg #[.int .i64 t, .slice a p cap, .bool o], .int .i64 17]) (by simp [results, Try.results29, go_sem]) rfl ?_
      rw [HE.out, HT.out]
      exact ret_same HS.out (((Q.refl w).alloc _).alloc _)
    · have h1 : (p : Int) ≤ i := by omega
      go_enter Try.func29, Try.ntmps29
      go_wp2
      refine bodyPost_ret (v := .tuple #[.agg #[.int .i64 t, .slice a p cap, .bool o], .int .i64 17]) (by simp [results, Try.results29, go_sem]) rfl ?_
      rw [HE.out, HT.out]
      exact ret_same HS.out (((Q.refl w).alloc _).alloc _)
  · obtain ⟨k, rfl⟩ := Int.eq_ofNat_of_zero_le (show 0 ≤ i by omega)
    have hk : k < p := by omega
    have hk' : (k : Int) < p := by omega
    have hE0 : commitE p o us k = if o then 20 else if (us[k]'(by omega)).com then 4 else 0 := by unfold commitE; rw [if_neg hi, getS_nat us k (by omega)]
    cases o with
    | true =>
      have HE := Lib.hid (show commitE p true us k = 20 by rw [hE0]; rfl)
      have HT := Lib.hid (show commitT p true us k c = us by unfold commitT; rw [HE.out]; rfl)
      clear hE0
      go_enter Try.func29, Try.ntmps29
      go_wp2
      refine bodyPost_ret (v := .tuple #[.agg #[.int .i64 t, .slice a p cap, .bool true], .int .i64 20]) (by simp [results, Try.results29, go_sem]) rfl ?_
      rw [HE.out, HT.out]
      exact ret_same HS.out (((Q.refl w).alloc _).alloc _)
    | false =>
      obtain ⟨g, og, rfl, hg, hc⟩ := one_cell HS.out hl k hk
      have c0 := (HQ1.out.cells.1 _ _ hg).trans (hc 0 (by omega) _ rfl)
      rw [Nat.add_zero] at c0
      cases hcm : (us[k]'(by omega)).com with
      | true =>
        have HE := Lib.hid (show commitE p false us k = 4 by rw [hE0, hcm]; rfl)
        have HT := Lib.hid (show commitT p false us k c = us by unfold commitT; rw [HE.out]; rfl)
        rw [hcm] at c0
        clear hE0 hc hcm
        go_enter Try.func29, Try.ntmps29
        go_wp2
        refine bodyPost_ret (v := .tuple #[.agg #[.int .i64 t, .slice (some ⟨g, og, none⟩) p cap, .bool false], .int .i64 4]) (by simp [results, Try.results29, go_sem]) rfl ?_
        rw [HE.out, HT.out]
        exact ret_same HS.out (((Q.refl w).alloc _).alloc _)
      | false =>
        have HE := Lib.hid (show commitE p false us k = 0 by rw [hE0, hcm]; rfl)
        have HT := Lib.hid (show commitT p false us k c = us.set k ⟨true, false, c, 4⟩ by unfold commitT; rw [HE.out]; rfl)
        rw [hcm] at c0
        clear hE0 hc hcm
        go_enter Try.func29, Try.ntmps29
        go_wp2_with (fail)
        have hB2 : Box ((w.alloc (.cells #[.int .i64 t, .slice (some ⟨g, og, none⟩) p cap, .bool false] 56)).alloc (.cells #[.int .i64 0, .slice none 0 0, .bool false] 56)) (w.heap.size + 1) [.int .i64 0, .slice none 0 0, .bool false] := by
          have := Box.new (w.alloc (.cells #[.int .i64 t, .slice (some ⟨g, og, none⟩) p cap, .bool false] 56)) [.int .i64 0, .slice none 0 0, .bool false] 56
          rw [World.size_alloc] at this
          exact this
        have hT2 : TyAt ((w.alloc (.cells #[.int .i64 t, .slice (some ⟨g, og, none⟩) p cap, .bool false] 56)).alloc (.cells #[.int .i64 0, .slice none 0 0, .bool false] 56)) (w.heap.size + 1) 56 := by
          have : TyAt ((w.alloc (.cells #[.int .i64 t, .slice (some ⟨g, og, none⟩) p cap, .bool false] 56)).alloc (.cells #[.int .i64 0, .slice none 0 0, .bool false] 56)) (w.alloc (.cells #[.int .i64 t, .slice (some ⟨g, og, none⟩) p cap, .bool false] 56)).heap.size 56 := ⟨_, _, heap_alloc_new _ _⟩
          rw [World.size_alloc] at this
          exact this
        have HB2 := Lib.hid hB2
        have HT2 := Lib.hid hT2
        have hW : ∀ w : World, Sl w 6 (some ⟨g, og, none⟩) p cap (us.flatMap oneC) → Calls Try.prog 41 #[.agg #[.int .i64 t, .slice (some ⟨g, og, none⟩) p cap, .bool false], .int .i64 k, .agg #[.bool true, .int .u64 c, .bool false, .int .i64 0, .int .i64 0, .int .i64 0]] w fun e w' =>
            ∃ b cb, e = .returned (.agg #[.int .i64 t, .slice b p cb, .bool false]) ∧ w'.ownsRow w.heap.size 83 6 (.slice b p cb) p ((us.set k ⟨true, false, c, 4⟩).flatMap oneC) ∧ Q w w' :=
          fun w h => rWith31_any t (some ⟨g, og, none⟩) p cap false us k ⟨true, false, c, 4⟩ w h hp hl hk
        have HWc := Lib.hid (hW _ (HS.out.q HQ1.out))
        clear hW hB2 hT2 c0
        refine HWc.out.mono ?_
        rintro e w2 ⟨b, cb, rfl, hown2, hq2⟩
        obtain ⟨gb, rfl, hgb, hglt⟩ := own_addr6 hown2 (by omega)
        have hsz := HQ1.out.size
        have hb2 := Box.q HB2.out hq2
        obtain ⟨l2, z0, z1, z2⟩ := Box.here3 hb2
        have fz0 := (hb2.2 0 _ rfl).2
        have fz1 := (hb2.2 1 _ rfl).2
        have fz2 := (hb2.2 2 _ rfl).2
        have t2 := HT2.out.q hq2
        have o3 := t2.own (by decide) hown2 0 (.int .i64 t)
        have t3 := t2.set ⟨w.heap.size + 1, 0, none⟩ (.int .i64 t)
        have o4 := t3.own (by decide) o3 1 (.slice (some ⟨gb, 0, none⟩) p cb)
        have t4 := t3.set ⟨w.heap.size + 1, 1, none⟩ (.slice (some ⟨gb, 0, none⟩) p cb)
        have o5 := t4.own (by decide) o4 2 (.bool false)
        have HW1 := Lib.hid (show w.heap.size ≤ w.heap.size + 1 by omega)
        have q5 := (((HQ1.out.trans hq2).setCell (p := ⟨w.heap.size + 1, 0, none⟩) HW1.out (.int .i64 t)).setCell (p := ⟨w.heap.size + 1, 1, none⟩) HW1.out (.slice (some ⟨gb, 0, none⟩) p cb)).setCell (p := ⟨w.heap.size + 1, 2, none⟩) HW1.out (.bool false)
        have b5 := Box.set (Box.set (Box.set hb2 0 (.int .i64 t) (by simp)) 1 (.slice (some ⟨gb, 0, none⟩) p cb) (by simp)) 2 (.bool false) (by simp)
        have O5 := Lib.hid o5
        have Q5 := Lib.hid q5
        have B5 := Lib.hid b5
        have HGB := Lib.hid (show w.heap.size ≤ gb by omega)
        clear o3 o4 o5 t2 t3 t4 q5 b5 hb2 hown2 hq2 hsz hgb
        go_wp2
        generalize (((w2.setCell ⟨w.heap.size + 1, 0, none⟩ (.int .i64 t)).setCell ⟨w.heap.size + 1, 1, none⟩ (.slice (some ⟨gb, 0, none⟩) p cb)).setCell ⟨w.heap.size + 1, 2, none⟩ (.bool false)) = W at *
        obtain ⟨_, c0, c1, c2⟩ := Box.here3 B5.out
        clear z0 z1 z2 fz0 fz1 fz2
        refine bodyPost_ret (v := .tuple #[.agg #[.int .i64 t, .slice (some ⟨gb, 0, none⟩) p cb, .bool false], .int .i64 0]) (by simp [results, Try.results29, go_sem, c0, c1, c2]) rfl ?_
        rw [HE.out, HT.out]
        exact ⟨_, _, rfl, Sl.of_own O5.out, Q5.out, .inr fun x hx => by cases hx; exact HGB.out⟩
set_option maxRecDepth 100000 in
set_option maxHeartbeats 2000000 in
theorem rReveal31_any (t i a1 b1 f n : Int) (a : Option Addr) (p cap : Nat) (o : Bool) (us : List St) (w : World) (hs : Sl w 6 a p cap (us.flatMap oneC)) (hp : p ≤ 8) (hl : us.length = p) (hn : U64 n) (ht : -9223372036854775808 ≤ t ∧ t ≤ 9223372036854775807) :
    Calls Try.prog 30 #[.agg #[.int .i64 t, .slice a p cap, .bool o], .int .i64 i, .agg #[.int .i64 a1, .int .i64 b1, .int .i64 f], .int .u64 n] w (RetRd w t a p o (revealT t p o us i a1 b1 f n) (revealE t p o us i a1 b1 f n)) := by
  have hcap := hs.2.1
  have HS := Lib.hid hs
  have HNN := Lib.hid hn
  have HTT := Lib.hid ht
  clear hs hn ht
  by_cases hi : i < 0 ∨ (p : Int) ≤ i
  · have HE := Lib.hid (show revealE t p o us i a1 b1 f n = 17 by unfold revealE; rw [if_pos hi])
    have HT := Lib.hid (show revealT t p o us i a1 b1 f n = us by unfold revealT; rw [HE.out]; rfl)
    by_cases h0 : i < 0
    · go_enter Try.func30, Try.ntmps30
      go_wp2
      refine bodyPost_ret (v := .tuple #[.agg #[.int .i64 t, .slice a p cap, .bool o], .int .i64 17]) (by simp [results, Try.results30, go_sem]) rfl ?_
      rw [HE.out, HT.out]
      exact ret_same HS.out ((((Q.refl w).alloc _).alloc _).alloc _)
    · have h1 : (p : Int) ≤ i := by omega
      go_enter Try.func30, Try.ntmps30
      go_wp2
      refine bodyPost_ret (v := .tuple #[.agg #[.int .i64 t, .slice a p cap, .bool o], .int .i64 17]) (by simp [results, Try.results30, go_sem]) rfl ?_
      rw [HE.out, HT.out]
      exact ret_same HS.out ((((Q.refl w).alloc _).alloc _).alloc _)
  · obtain ⟨k, rfl⟩ := Int.eq_ofNat_of_zero_le (show 0 ≤ i by omega)
    have hk : k < p := by omega
    have hk' : (k : Int) < p := by omega
    cases o with
    | false =>
      have HE := Lib.hid (show revealE t p false us k a1 b1 f n = 5 by unfold revealE; rw [if_neg hi]; rfl)
      have HT := Lib.hid (show revealT t p false us k a1 b1 f n = us by unfold revealT; rw [HE.out]; rfl)
      go_enter Try.func30, Try.ntmps30
      go_wp2
      refine bodyPost_ret (v := .tuple #[.agg #[.int .i64 t, .slice a p cap, .bool false], .int .i64 5]) (by simp [results, Try.results30, go_sem]) rfl ?_
      rw [HE.out, HT.out]
      exact ret_same HS.out ((((Q.refl w).alloc _).alloc _).alloc _)
    | true =>
      have hE0 : revealE t p true us k a1 b1 f n = if !(us[k]'(by omega)).com then 21 else if (us[k]'(by omega)).rev then 4 else if errV a1 b1 f = 0 then (if comZ k t (codeOf a1 b1 f) n = (us[k]'(by omega)).c then 0 else 21) else 1 := by unfold revealE; rw [if_neg hi, if_neg (by decide), getS_nat us k (by omega)]
      have hT0 : revealT t p true us k a1 b1 f n = if revealE t p true us k a1 b1 f n = 0 then us.set k ⟨true, true, (us[k]'(by omega)).c, codeOf a1 b1 f⟩ else us := by unfold revealT; rw [getS_nat us k (by omega)]; rfl
      have HE0 := Lib.hid hE0
      have HT0 := Lib.hid hT0
      clear hE0 hT0
      obtain ⟨g, og, rfl, hg, hc⟩ := one_cell HS.out hl k hk
      have hq1 : Q w (((w.alloc (.cells #[.int .i64 t, .slice (some ⟨g, og, none⟩) p cap, .bool true] 56)).alloc (.cells #[.int .i64 a1, .int .i64 b1, .int .i64 f] 25)).alloc (.cells #[.int .i64 0, .slice none 0 0, .bool false] 56)) := (((Q.refl w).alloc _).alloc _).alloc _
      have e0 := (hq1.cells.1 _ _ hg).trans (hc 0 (by omega) _ rfl)
      have e1 := (hq1.cells.1 _ _ hg).trans (hc 1 (by omega) _ rfl)
      have e2 := (hq1.cells.1 _ _ hg).trans (hc 2 (by omega) _ rfl)
      have e3 := (hq1.cells.1 _ _ hg).trans (hc 3 (by omega) _ rfl)
      have e4 := (hq1.cells.1 _ _ hg).trans (hc 4 (by omega) _ rfl)
      have e5 := (hq1.cells.1 _ _ hg).trans (hc 5 (by omega) _ rfl)
      rw [Nat.add_zero] at e0
      have HQ1 := Lib.hid hq1
      have hxx : us[k]'(by omega) = us[k]'(by omega) := rfl
      generalize hus : us[k]'(by omega) = s at *
      obtain ⟨com, rev, xc, xi⟩ := s
      simp only at e0 e1 e2 e3 e4 e5
      clear hq1 hc hxx
      go_enter Try.func30, Try.ntmps30
      go_upto_region 6 with fail
      have b0 : Box ((((w.alloc (.cells #[.int .i64 t, .slice (some ⟨g, og, none⟩) p cap, .bool true] 56)).alloc (.cells #[.int .i64 a1, .int .i64 b1, .int .i64 f] 25)).alloc (.cells #[.int .i64 0, .slice none 0 0, .bool false] 56)).alloc (.cells #[.bool com, .int .u64 xc, .bool rev, .int .i64 (xi % 3 - 1), .int .i64 (xi / 3 % 3 - 1), .int .i64 (xi / 9)] 83)) w.heap.size [.int .i64 t, .slice (some ⟨g, og, none⟩) p cap, .bool true] := (((Box.new w [.int .i64 t, .slice (some ⟨g, og, none⟩) p cap, .bool true] 56).alloc _).alloc _).alloc _
      have b1' : Box ((((w.alloc (.cells #[.int .i64 t, .slice (some ⟨g, og, none⟩) p cap, .bool true] 56)).alloc (.cells #[.int .i64 a1, .int .i64 b1, .int .i64 f] 25)).alloc (.cells #[.int .i64 0, .slice none 0 0, .bool false] 56)).alloc (.cells #[.bool com, .int .u64 xc, .bool rev, .int .i64 (xi % 3 - 1), .int .i64 (xi / 3 % 3 - 1), .int .i64 (xi / 9)] 83)) (w.heap.size + 1) [.int .i64 a1, .int .i64 b1, .int .i64 f] := by
        have := ((Box.new (w.alloc (.cells #[.int .i64 t, .slice (some ⟨g, og, none⟩) p cap, .bool true] 56)) [.int .i64 a1, .int .i64 b1, .int .i64 f] 25).alloc (.cells #[.int .i64 0, .slice none 0 0, .bool false] 56)).alloc (.cells #[.bool com, .int .u64 xc, .bool rev, .int .i64 (xi % 3 - 1), .int .i64 (xi / 3 % 3 - 1), .int .i64 (xi / 9)] 83)
        rw [World.size_alloc] at this
        exact this
      have b2 : Box ((((w.alloc (.cells #[.int .i64 t, .slice (some ⟨g, og, none⟩) p cap, .bool true] 56)).alloc (.cells #[.int .i64 a1, .int .i64 b1, .int .i64 f] 25)).alloc (.cells #[.int .i64 0, .slice none 0 0, .bool false] 56)).alloc (.cells #[.bool com, .int .u64 xc, .bool rev, .int .i64 (xi % 3 - 1), .int .i64 (xi / 3 % 3 - 1), .int .i64 (xi / 9)] 83)) (w.heap.size + 1 + 1) [.int .i64 0, .slice none 0 0, .bool false] := by
        have := (Box.new ((w.alloc (.cells #[.int .i64 t, .slice (some ⟨g, og, none⟩) p cap, .bool true] 56)).alloc (.cells #[.int .i64 a1, .int .i64 b1, .int .i64 f] 25)) [.int .i64 0, .slice none 0 0, .bool false] 56).alloc (.cells #[.bool com, .int .u64 xc, .bool rev, .int .i64 (xi % 3 - 1), .int .i64 (xi / 3 % 3 - 1), .int .i64 (xi / 9)] 83)
        rw [World.size_alloc, World.size_alloc] at this
        exact this
      have b3 : Box ((((w.alloc (.cells #[.int .i64 t, .slice (some ⟨g, og, none⟩) p cap, .bool true] 56)).alloc (.cells #[.int .i64 a1, .int .i64 b1, .int .i64 f] 25)).alloc (.cells #[.int .i64 0, .slice none 0 0, .bool false] 56)).alloc (.cells #[.bool com, .int .u64 xc, .bool rev, .int .i64 (xi % 3 - 1), .int .i64 (xi / 3 % 3 - 1), .int .i64 (xi / 9)] 83)) (w.heap.size + 1 + 1 + 1) [.bool com, .int .u64 xc, .bool rev, .int .i64 (xi % 3 - 1), .int .i64 (xi / 3 % 3 - 1), .int .i64 (xi / 9)] := by
        have := Box.new (((w.alloc (.cells #[.int .i64 t, .slice (some ⟨g, og, none⟩) p cap, .bool true] 56)).alloc (.cells #[.int .i64 a1, .int .i64 b1, .int .i64 f] 25)).alloc (.cells #[.int .i64 0, .slice none 0 0, .bool false] 56)) [.bool com, .int .u64 xc, .bool rev, .int .i64 (xi % 3 - 1), .int .i64 (xi / 3 % 3 - 1), .int .i64 (xi / 9)] 83
        rw [World.size_alloc, World.size_alloc, World.size_alloc] at this
        exact this
      have t2 : TyAt ((((w.alloc (.cells #[.int .i64 t, .slice (some ⟨g, og, none⟩) p cap, .bool true] 56)).alloc (.cells #[.int .i64 a1, .int .i64 b1, .int .i64 f] 25)).alloc (.cells #[.int .i64 0, .slice none 0 0, .bool false] 56)).alloc (.cells #[.bool com, .int .u64 xc, .bool rev, .int .i64 (xi % 3 - 1), .int .i64 (xi / 3 % 3 - 1), .int .i64 (xi / 9)] 83)) (w.heap.size + 1 + 1) 56 := by
        have : TyAt (((w.alloc (.cells #[.int .i64 t, .slice (some ⟨g, og, none⟩) p cap, .bool true] 56)).alloc (.cells #[.int .i64 a1, .int .i64 b1, .int .i64 f] 25)).alloc (.cells #[.int .i64 0, .slice none 0 0, .bool false] 56)) ((w.alloc (.cells #[.int .i64 t, .slice (some ⟨g, og, none⟩) p cap, .bool true] 56)).alloc (.cells #[.int .i64 a1, .int .i64 b1, .int .i64 f] 25)).heap.size 56 := ⟨_, _, heap_alloc_new _ _⟩
        rw [World.size_alloc, World.size_alloc] at this
        exact this.q ((Q.refl _).alloc _)
      have Q4 := Lib.hid (HQ1.out.alloc (.cells #[.bool com, .int .u64 xc, .bool rev, .int .i64 (xi % 3 - 1), .int .i64 (xi / 3 % 3 - 1), .int .i64 (xi / 9)] 83))
      have HB0 := Lib.hid b0
      have HB1 := Lib.hid b1'
      have HB2 := Lib.hid b2
      have HB3 := Lib.hid b3
      have HTY := Lib.hid t2
      have HW2 := Lib.hid (show w.heap.size ≤ w.heap.size + 1 + 1 by omega)
      have HW3 := Lib.hid (show w.heap.size ≤ w.heap.size + 1 + 1 + 1 by omega)
      clear b0 b1' b2 b3 t2 e0 e1 e2 e3 e4 e5 HQ1
      generalize ((((w.alloc (.cells #[.int .i64 t, .slice (some ⟨g, og, none⟩) p cap, .bool true] 56)).alloc (.cells #[.int .i64 a1, .int .i64 b1, .int .i64 f] 25)).alloc (.cells #[.int .i64 0, .slice none 0 0, .bool false] 56)).alloc (.cells #[.bool com, .int .u64 xc, .bool rev, .int .i64 (xi % 3 - 1), .int .i64 (xi / 3 % 3 - 1), .int .i64 (xi / 9)] 83)) = W4 at *
      obtain ⟨d0, _⟩ := HB3.out.2 0 _ rfl
      obtain ⟨d1, _⟩ := HB3.out.2 1 _ rfl
      obtain ⟨d2, g2⟩ := HB3.out.2 2 _ rfl
      have hl3 := HB3.out.1
      cases com with
      | false =>
        have HE := Lib.hid (show revealE t p true us k a1 b1 f n = 21 by rw [HE0.out]; rfl)
        have HT := Lib.hid (show revealT t p true us k a1 b1 f n = us by rw [HT0.out, if_neg (by rw [HE.out]; decide)])
        have hb0 := HB0.out
        have hb2 := HB2.out
        obtain ⟨l0, y0, y1, y2⟩ := Box.here3 hb0
        obtain ⟨l2, z0, z1, z2⟩ := Box.here3 hb2
        have fz0 := (hb2.2 0 _ rfl).2
        have fz1 := (hb2.2 1 _ rfl).2
        have fz2 := (hb2.2 2 _ rfl).2
        have q5 := ((Q4.out.setCell (p := ⟨w.heap.size + 1 + 1, 0, none⟩) HW2.out (.int .i64 t)).setCell (p := ⟨w.heap.size + 1 + 1, 1, none⟩) HW2.out (.slice (some ⟨g, og, none⟩) p cap)).setCell (p := ⟨w.heap.size + 1 + 1, 2, none⟩) HW2.out (.bool true)
        have b5 := Box.set (Box.set (Box.set hb2 0 (.int .i64 t) (by simp)) 1 (.slice (some ⟨g, og, none⟩) p cap) (by simp)) 2 (.bool true) (by simp)
        have Q5 := Lib.hid q5
        have B5 := Lib.hid b5
        clear q5 b5 hb0 hb2
        go_wp2
        generalize (((W4.setCell ⟨w.heap.size + 1 + 1, 0, none⟩ (.int .i64 t)).setCell ⟨w.heap.size + 1 + 1, 1, none⟩ (.slice (some ⟨g, og, none⟩) p cap)).setCell ⟨w.heap.size + 1 + 1, 2, none⟩ (.bool true)) = W9 at *
        obtain ⟨_, c0, c1, c2⟩ := Box.here3 B5.out
        clear y0 y1 y2 z0 z1 z2 fz0 fz1 fz2
        refine bodyPost_ret (v := .tuple #[.agg #[.int .i64 t, .slice (some ⟨g, og, none⟩) p cap, .bool true], .int .i64 21]) (by simp [results, Try.results30, go_sem, c0, c1, c2]) rfl ?_
        rw [HE.out, HT.out]
        exact ret_same HS.out Q5.out
      | true =>
        cases rev with
        | true =>
          have HE := Lib.hid (show revealE t p true us k a1 b1 f n = 4 by rw [HE0.out]; rfl)
          have HT := Lib.hid (show revealT t p true us k a1 b1 f n = us by rw [HT0.out, if_neg (by rw [HE.out]; decide)])
          have hb0 := HB0.out
          have hb2 := HB2.out
          obtain ⟨l0, y0, y1, y2⟩ := Box.here3 hb0
          obtain ⟨l2, z0, z1, z2⟩ := Box.here3 hb2
          have fz0 := (hb2.2 0 _ rfl).2
          have fz1 := (hb2.2 1 _ rfl).2
          have fz2 := (hb2.2 2 _ rfl).2
          have q5 := ((Q4.out.setCell (p := ⟨w.heap.size + 1 + 1, 0, none⟩) HW2.out (.int .i64 t)).setCell (p := ⟨w.heap.size + 1 + 1, 1, none⟩) HW2.out (.slice (some ⟨g, og, none⟩) p cap)).setCell (p := ⟨w.heap.size + 1 + 1, 2, none⟩) HW2.out (.bool true)
          have b5 := Box.set (Box.set (Box.set hb2 0 (.int .i64 t) (by simp)) 1 (.slice (some ⟨g, og, none⟩) p cap) (by simp)) 2 (.bool true) (by simp)
          have Q5 := Lib.hid q5
          have B5 := Lib.hid b5
          clear q5 b5 hb0 hb2
          go_wp2
          generalize (((W4.setCell ⟨w.heap.size + 1 + 1, 0, none⟩ (.int .i64 t)).setCell ⟨w.heap.size + 1 + 1, 1, none⟩ (.slice (some ⟨g, og, none⟩) p cap)).setCell ⟨w.heap.size + 1 + 1, 2, none⟩ (.bool true)) = W9 at *
          obtain ⟨_, c0, c1, c2⟩ := Box.here3 B5.out
          clear y0 y1 y2 z0 z1 z2 fz0 fz1 fz2
          refine bodyPost_ret (v := .tuple #[.agg #[.int .i64 t, .slice (some ⟨g, og, none⟩) p cap, .bool true], .int .i64 4]) (by simp [results, Try.results30, go_sem, c0, c1, c2]) rfl ?_
          rw [HE.out, HT.out]
          exact ret_same HS.out Q5.out
        | false =>
          obtain ⟨l1, i0, i1, i2⟩ := Box.here3 HB1.out
          go_wp2_with (fail)
          refine (rValidate_any _ _ _ _).mono ?_
          rintro e w5 ⟨rfl, hq5⟩
          have Q5' := Lib.hid (Q4.out.trans hq5)
          have HC0 := Lib.hid (Box.q HB0.out hq5)
          have HC1 := Lib.hid (Box.q HB1.out hq5)
          have HC2 := Lib.hid (Box.q HB2.out hq5)
          have HC3 := Lib.hid (Box.q HB3.out hq5)
          have HTY5 := Lib.hid (HTY.out.q hq5)
          clear hq5 HB0 HB1 HB2 HB3 HTY Q4 d0 d1 d2 g2 hl3 l1 i0 i1 i2
          rcases errV_bit a1 b1 f with hv | hv
          · obtain ⟨x, hx0, hx1, rfl, rfl, rfl⟩ := valid_code hv
            have hE1 : revealE t p true us k (x % 3 - 1) (x / 3 % 3 - 1) (x / 9) n = if comZ k t x n = xc then 0 else 21 := by
              rw [HE0.out, codeOf_code, if_neg (by simp), if_neg (by simp), if_pos hv]
            have hT1 : revealT t p true us k (x % 3 - 1) (x / 3 % 3 - 1) (x / 9) n = if revealE t p true us k (x % 3 - 1) (x / 3 % 3 - 1) (x / 9) n = 0 then us.set k ⟨true, true, xc, x⟩ else us := by rw [HT0.out, codeOf_code]
            have HE1 := Lib.hid hE1
            have HT1 := Lib.hid hT1
            rw [hv]
            clear hE1 hT1 hv HE0 HT0
            go_wp2_with (fail)
            refine wp_region_mix [(0, true), (1, true), (2, true), (3, true), (4, true), (6, true), (7, true), (5, false), (8, true)] (by kernel_rfl) (by kernel_rfl) (fun _ _ _ _ _ h => h) ?_
            have Q6' := Lib.hid Q5'.out.drew
            have HD0 := Lib.hid (Box.q HC0.out (Q.refl w5).drew)
            have HD1 := Lib.hid (Box.q HC1.out (Q.refl w5).drew)
            have HD2 := Lib.hid (Box.q HC2.out (Q.refl w5).drew)
            have HD3 := Lib.hid (Box.q HC3.out (Q.refl w5).drew)
            have HTY6 := Lib.hid (HTY5.out.q (Q.refl w5).drew)
            generalize w5.drew = W6 at *
            obtain ⟨i0, i1, i2⟩ := Box.soft3 HD1.out
            have ct := Box.soft HD0.out 0 _ rfl
            have cx := Box.soft HD3.out 1 _ rfl
            clear HC0 HC1 HC2 HC3 HTY5 Q5'
            repeat (refine mix_val rfl rfl ?_; go_big_quiet_step (fail); refine wpQuiet_nil ?_)
            clear i0 i1 i2 ct cx
            refine mix_run rfl rfl ?_
            intro K hK
            go_wp2_with (fail)
            refine (rCommitment_any k t x n _ (by omega) HTT.out ⟨hx0, hx1⟩ HNN.out).mono ?_
            rintro e w7 ⟨rfl, hq7⟩
            refine hK _ _ hq7 ?_
            clear hK K
            have Q7' := Lib.hid (Q6'.out.trans hq7)
            have HC0 := Lib.hid (Box.q HD0.out hq7)
            have HC1 := Lib.hid (Box.q HD1.out hq7)
            have HC2 := Lib.hid (Box.q HD2.out hq7)
            have HC3 := Lib.hid (Box.q HD3.out hq7)
            have HTY7 := Lib.hid (HTY6.out.q hq7)
            clear hq7 HD0 HD1 HD2 HD3 HTY6 Q6'
            repeat (refine mix_val rfl rfl ?_; go_big_quiet_step (fail); refine wpQuiet_nil ?_)
            refine mix_end ?_
            by_cases hcz : comZ k t x n = xc
            · have hne : (comZ k t x n != xc) = false := by simpa using hcz
              have HE := Lib.hid (show revealE t p true us k (x % 3 - 1) (x / 3 % 3 - 1) (x / 9) n = 0 by rw [HE1.out, if_pos hcz])
              have HT := Lib.hid (show revealT t p true us k (x % 3 - 1) (x / 3 % 3 - 1) (x / 9) n = us.set k ⟨true, true, xc, x⟩ by rw [HT1.out, if_pos HE.out])
              obtain ⟨l1, i0, i1, i2⟩ := Box.here3 HC1.out
              obtain ⟨d2, g2⟩ := HC3.out.2 2 _ rfl
              obtain ⟨d3, g3⟩ := HC3.out.2 3 _ rfl
              obtain ⟨d4, g4⟩ := HC3.out.2 4 _ rfl
              obtain ⟨d5, g5⟩ := HC3.out.2 5 _ rfl
              have hl3 := HC3.out.1
              have hn3 : ∀ B, B ≠ w.heap.size + 1 + 1 + 1 → B ≠ w.heap.size + 1 + 1 + 1 := fun _ h => h
              clear hcz
              go_upto_region 17 with fail
              have Q8 := Lib.hid ((((Q7'.out.setCell (p := ⟨w.heap.size + 1 + 1 + 1, 2, none⟩) HW3.out (.bool true)).setCell (p := ⟨w.heap.size + 1 + 1 + 1, 3, none⟩) HW3.out (.int .i64 (x % 3 - 1))).setCell (p := ⟨w.heap.size + 1 + 1 + 1, 4, none⟩) HW3.out (.int .i64 (x / 3 % 3 - 1))).setCell (p := ⟨w.heap.size + 1 + 1 + 1, 5, none⟩) HW3.out (.int .i64 (x / 9)))
              have HD0 := Lib.hid (Box.set_far (Box.set_far (Box.set_far (Box.set_far HC0.out 2 (.bool true) (show w.heap.size ≠ w.heap.size + 1 + 1 + 1 by omega)) 3 (.int .i64 (x % 3 - 1)) (show w.heap.size ≠ w.heap.size + 1 + 1 + 1 by omega)) 4 (.int .i64 (x / 3 % 3 - 1)) (show w.heap.size ≠ w.heap.size + 1 + 1 + 1 by omega)) 5 (.int .i64 (x / 9)) (show w.heap.size ≠ w.heap.size + 1 + 1 + 1 by omega))
              have HD2 := Lib.hid (Box.set_far (Box.set_far (Box.set_far (Box.set_far HC2.out 2 (.bool true) (show w.heap.size + 1 + 1 ≠ w.heap.size + 1 + 1 + 1 by omega)) 3 (.int .i64 (x % 3 - 1)) (show w.heap.size + 1 + 1 ≠ w.heap.size + 1 + 1 + 1 by omega)) 4 (.int .i64 (x / 3 % 3 - 1)) (show w.heap.size + 1 + 1 ≠ w.heap.size + 1 + 1 + 1 by omega)) 5 (.int .i64 (x / 9)) (show w.heap.size + 1 + 1 ≠ w.heap.size + 1 + 1 + 1 by omega))
              have HD3 := Lib.hid (Box.set (Box.set (Box.set (Box.set HC3.out 2 (.bool true) (by simp)) 3 (.int .i64 (x % 3 - 1)) (by simp)) 4 (.int .i64 (x / 3 % 3 - 1)) (by simp)) 5 (.int .i64 (x / 9)) (by simp))
              have HTY8 := Lib.hid ((((HTY7.out.set ⟨w.heap.size + 1 + 1 + 1, 2, none⟩ (.bool true)).set ⟨w.heap.size + 1 + 1 + 1, 3, none⟩ (.int .i64 (x % 3 - 1))).set ⟨w.heap.size + 1 + 1 + 1, 4, none⟩ (.int .i64 (x / 3 % 3 - 1))).set ⟨w.heap.size + 1 + 1 + 1, 5, none⟩ (.int .i64 (x / 9)))
              clear HC0 HC1 HC2 HC3 HTY7 Q7' l1 i0 i1 i2 d2 d3 d4 d5 g2 g3 g4 g5 hl3 hn3
              generalize ((((w7.setCell ⟨w.heap.size + 1 + 1 + 1, 2, none⟩ (.bool true)).setCell ⟨w.heap.size + 1 + 1 + 1, 3, none⟩ (.int .i64 (x % 3 - 1))).setCell ⟨w.heap.size + 1 + 1 + 1, 4, none⟩ (.int .i64 (x / 3 % 3 - 1))).setCell ⟨w.heap.size + 1 + 1 + 1, 5, none⟩ (.int .i64 (x / 9))) = W8 at *
              obtain ⟨l0, x0, x1, x2⟩ := Box.here3 HD0.out
              have hB3 := HD3.out
              obtain ⟨d0, _⟩ := hB3.2 0 (.bool true) rfl
              obtain ⟨d1, _⟩ := hB3.2 1 (.int .u64 xc) rfl
              obtain ⟨d2, _⟩ := hB3.2 2 (.bool true) rfl
              obtain ⟨d3, _⟩ := hB3.2 3 (.int .i64 (x % 3 - 1)) rfl
              obtain ⟨d4, _⟩ := hB3.2 4 (.int .i64 (x / 3 % 3 - 1)) rfl
              obtain ⟨d5, _⟩ := hB3.2 5 (.int .i64 (x / 9)) rfl
              have hl3 := hB3.1
              clear hB3 HD3
              go_wp2_with (fail)
              refine (rWith31_any t (some ⟨g, og, none⟩) p cap true us k ⟨true, true, xc, x⟩ W8 (HS.out.q Q8.out) hp hl hk).mono ?_
              rintro e w9 ⟨b, cb, rfl, hown2, hq2⟩
              obtain ⟨gb, rfl, hgb, hglt⟩ := own_addr6 hown2 (by omega)
              have hsz := Q8.out.size
              have hb2 := Box.q HD2.out hq2
              clear x0 x1 x2 d0 d1 d2 d3 d4 d5 hl3 l0
              obtain ⟨l2, z0, z1, z2⟩ := Box.here3 hb2
              have fz0 := (hb2.2 0 _ rfl).2
              have fz1 := (hb2.2 1 _ rfl).2
              have fz2 := (hb2.2 2 _ rfl).2
              have t2 := HTY8.out.q hq2
              have o3 := t2.own (by decide) hown2 0 (.int .i64 t)
              have t3 := t2.set ⟨w.heap.size + 1 + 1, 0, none⟩ (.int .i64 t)
              have o4 := t3.own (by decide) o3 1 (.slice (some ⟨gb, 0, none⟩) p cb)
              have t4 := t3.set ⟨w.heap.size + 1 + 1, 1, none⟩ (.slice (some ⟨gb, 0, none⟩) p cb)
              have o5 := t4.own (by decide) o4 2 (.bool true)
              have q5 := (((Q8.out.trans hq2).setCell (p := ⟨w.heap.size + 1 + 1, 0, none⟩) HW2.out (.int .i64 t)).setCell (p := ⟨w.heap.size + 1 + 1, 1, none⟩) HW2.out (.slice (some ⟨gb, 0, none⟩) p cb)).setCell (p := ⟨w.heap.size + 1 + 1, 2, none⟩) HW2.out (.bool true)
              have b5 := Box.set (Box.set (Box.set hb2 0 (.int .i64 t) (by simp)) 1 (.slice (some ⟨gb, 0, none⟩) p cb) (by simp)) 2 (.bool true) (by simp)
              have O5 := Lib.hid o5
              have Q5 := Lib.hid q5
              have B5 := Lib.hid b5
              have HGB := Lib.hid (show w.heap.size ≤ gb by omega)
              clear o3 o4 o5 t2 t3 t4 q5 b5 hb2 hown2 hq2 hsz hgb HD0 HD2 HTY8
              go_wp2
              generalize (((w9.setCell ⟨w.heap.size + 1 + 1, 0, none⟩ (.int .i64 t)).setCell ⟨w.heap.size + 1 + 1, 1, none⟩ (.slice (some ⟨gb, 0, none⟩) p cb)).setCell ⟨w.heap.size + 1 + 1, 2, none⟩ (.bool true)) = W at *
              obtain ⟨_, c0, c1, c2⟩ := Box.here3 B5.out
              clear z0 z1 z2 fz0 fz1 fz2
              refine bodyPost_ret (v := .tuple #[.agg #[.int .i64 t, .slice (some ⟨gb, 0, none⟩) p cb, .bool true], .int .i64 0]) (by simp [results, Try.results30, go_sem, c0, c1, c2]) rfl ?_
              rw [HE.out, HT.out]
              exact ⟨_, _, rfl, Sl.of_own O5.out, Q5.out, .inr fun x hx => by cases hx; exact HGB.out⟩
            · have hne : (comZ k t x n != xc) = true := by simpa using hcz
              have HE := Lib.hid (show revealE t p true us k (x % 3 - 1) (x / 3 % 3 - 1) (x / 9) n = 21 by rw [HE1.out, if_neg hcz])
              have HT := Lib.hid (show revealT t p true us k (x % 3 - 1) (x / 3 % 3 - 1) (x / 9) n = us by rw [HT1.out, if_neg (by rw [HE.out]; decide)])
              clear hcz
              have hb0 := HC0.out
              have hb2 := HC2.out
              obtain ⟨l0, y0, y1, y2⟩ := Box.here3 hb0
              obtain ⟨l2, z0, z1, z2⟩ := Box.here3 hb2
              have fz0 := (hb2.2 0 _ rfl).2
              have fz1 := (hb2.2 1 _ rfl).2
              have fz2 := (hb2.2 2 _ rfl).2
              have q5 := ((Q7'.out.setCell (p := ⟨w.heap.size + 1 + 1, 0, none⟩) HW2.out (.int .i64 t)).setCell (p := ⟨w.heap.size + 1 + 1, 1, none⟩) HW2.out (.slice (some ⟨g, og, none⟩) p cap)).setCell (p := ⟨w.heap.size + 1 + 1, 2, none⟩) HW2.out (.bool true)
              have b5 := Box.set (Box.set (Box.set hb2 0 (.int .i64 t) (by simp)) 1 (.slice (some ⟨g, og, none⟩) p cap) (by simp)) 2 (.bool true) (by simp)
              have Q5 := Lib.hid q5
              have B5 := Lib.hid b5
              clear q5 b5 hb0 hb2
              go_wp2
              generalize (((w7.setCell ⟨w.heap.size + 1 + 1, 0, none⟩ (.int .i64 t)).setCell ⟨w.heap.size + 1 + 1, 1, none⟩ (.slice (some ⟨g, og, none⟩) p cap)).setCell ⟨w.heap.size + 1 + 1, 2, none⟩ (.bool true)) = W9 at *
              obtain ⟨_, c0, c1, c2⟩ := Box.here3 B5.out
              clear y0 y1 y2 z0 z1 z2 fz0 fz1 fz2
              refine bodyPost_ret (v := .tuple #[.agg #[.int .i64 t, .slice (some ⟨g, og, none⟩) p cap, .bool true], .int .i64 21]) (by simp [results, Try.results30, go_sem, c0, c1, c2]) rfl ?_
              rw [HE.out, HT.out]
              exact ret_same HS.out Q5.out
          · have HE := Lib.hid (show revealE t p true us k a1 b1 f n = 1 by rw [HE0.out, if_neg (by simp), if_neg (by simp), if_neg (by rw [hv]; decide)])
            have HT := Lib.hid (show revealT t p true us k a1 b1 f n = us by rw [HT0.out, if_neg (by rw [HE.out]; decide)])
            rw [hv]
            clear hv
            have hb0 := HC0.out
            have hb2 := HC2.out
            obtain ⟨l0, y0, y1, y2⟩ := Box.here3 hb0
            obtain ⟨l2, z0, z1, z2⟩ := Box.here3 hb2
            have fz0 := (hb2.2 0 _ rfl).2
            have fz1 := (hb2.2 1 _ rfl).2
            have fz2 := (hb2.2 2 _ rfl).2
            have q5 := ((Q5'.out.setCell (p := ⟨w.heap.size + 1 + 1, 0, none⟩) HW2.out (.int .i64 t)).setCell (p := ⟨w.heap.size + 1 + 1, 1, none⟩) HW2.out (.slice (some ⟨g, og, none⟩) p cap)).setCell (p := ⟨w.heap.size + 1 + 1, 2, none⟩) HW2.out (.bool true)
            have b5 := Box.set (Box.set (Box.set hb2 0 (.int .i64 t) (by simp)) 1 (.slice (some ⟨g, og, none⟩) p cap) (by simp)) 2 (.bool true) (by simp)
            have Q5 := Lib.hid q5
            have B5 := Lib.hid b5
            clear q5 b5 hb0 hb2
            go_wp2
            generalize (((w5.setCell ⟨w.heap.size + 1 + 1, 0, none⟩ (.int .i64 t)).setCell ⟨w.heap.size + 1 + 1, 1, none⟩ (.slice (some ⟨g, og, none⟩) p cap)).setCell ⟨w.heap.size + 1 + 1, 2, none⟩ (.bool true)) = W9 at *
            obtain ⟨_, c0, c1, c2⟩ := Box.here3 B5.out
            clear y0 y1 y2 z0 z1 z2 fz0 fz1 fz2
            refine bodyPost_ret (v := .tuple #[.agg #[.int .i64 t, .slice (some ⟨g, og, none⟩) p cap, .bool true], .int .i64 1]) (by simp [results, Try.results30, go_sem, c0, c1, c2]) rfl ?_
            rw [HE.out, HT.out]
            exact ret_same HS.out Q5.out
end Go.Proofs.Ytcpicifnadoeoaa
