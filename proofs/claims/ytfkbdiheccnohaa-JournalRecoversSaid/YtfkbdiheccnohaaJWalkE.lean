/- The walk of JournalOwn. -/
import Derived.Test.YtfkbdiheccnohaaJY
namespace Go.Proofs.Ytfkbdiheccnohaa
open Go Go.RowKit Go.BigFrame

theorem slr_nil (w : World) : SlR w (fun _ => False) none 0 0 [] :=
  ⟨rfl, [], ⟨rfl, Nat.le_refl _, by unfold maxLen; decide, fun _ => rfl, .inl rfl⟩, (fun y hy => by cases hy), Recs.nil _ _⟩
/-- two logs and the records beside them -/
structure KeepJ (w : World) (LB L4 : Nat) (col col4 : Nat → Nat) (xs ys rs : List (List Int)) (C : Nat → Prop) (b : Option Addr) (n cb : Nat) : Prop where
  x : LogAt w LB col xs
  y : LogAt w L4 col4 ys
  r : SlR w C b n cb rs
theorem KeepJ.set {w : World} {LB L4 : Nat} {col col4 : Nat → Nat} {xs ys rs : List (List Int)} {C : Nat → Prop} {b : Option Addr} {n cb : Nat} (h : KeepJ w LB L4 col col4 xs ys rs C b n cb) (g k : Nat) (v : Value) (hx : col g = 0) (hy : col4 g = 0) (hr : ¬ C g) :
    KeepJ (w.setCell ⟨g, k, none⟩ v) LB L4 col col4 xs ys rs C b n cb := by
  have q : QF (· = g) w (w.setCell ⟨g, k, none⟩ v) := QF.set (F := (· = g)) w g k v rfl
  exact ⟨h.x.qf q (fun i hi => by rw [hi]; exact hx), h.y.qf q (fun i hi => by rw [hi]; exact hy), h.r.qf q (fun i hi e => by rw [e] at hi; exact hr hi)⟩
theorem KeepJ.q {w w' : World} {LB L4 : Nat} {col col4 : Nat → Nat} {xs ys rs : List (List Int)} {C : Nat → Prop} {b : Option Addr} {n cb : Nat} (h : KeepJ w LB L4 col col4 xs ys rs C b n cb) (q : Q w w') : KeepJ w' LB L4 col col4 xs ys rs C b n cb := ⟨h.x.q q, h.y.q q, h.r.q q⟩
set_option maxRecDepth 100000 in
set_option maxHeartbeats 4000000 in
theorem jown_walk (a0 : Option Addr) (len0 cap0 : Nat) (z0 : List Int) (w : World) (w0 : IsRow .i64 w a0 len0 cap0 z0) :
    Calls Try.prog 8 #[.slice a0 len0 cap0] w fun e w' => e = .returned (.bool true) ∧ Q w w' := by
  obtain ⟨i0, hi, hz0, hz1, hz2⟩ := info_parts infoU8
  have HI := Lib.hid hi
  have s0 := Lib.hid (Sl.of_row w0)
  have r0 := Lib.hid (rowI64j w0)
  clear w0 hi
  go_enter Try.func8, Try.ntmps8
  go_wp2_with (fail)
  refine (rRecords34_any a0 len0 cap0 _ w s0.out r0.out).mono ?_
  rintro e w1 ⟨b1, cp1, vs1, rfl, hO1, hq1⟩
  have HOK := Lib.hid (recsOf_ok (z0.take len0))
  have HO4 := Lib.hid (recsOf_ok4 (z0.take len0))
  have HSM := Lib.hid (recsOf_small (z0.take len0))
  have hrl := recsOf_len (z0.take len0)
  have hbl := recsOf_bytes (z0.take len0)
  generalize recsOf (z0.take len0) = rs at *
  have HR1 := Lib.hid hO1.slr
  have HQ1 := Lib.hid hq1
  clear hO1 hq1
  go_wp2_with (fail)
  refine (filled34_any _ none 0 0 [] w1 (slr_nil w1) (fun x hx => by cases hx) (fun x hx => by cases hx) (by omega)).mono ?_
  rintro e w2 ⟨hq2, LB, col, rfl, hL, hc⟩
  have HR2 := Lib.hid (HR1.out.q hq2)
  have HQ2 := Lib.hid (HQ1.out.trans hq2)
  have HL2 := Lib.hid hL
  have HC2 := Lib.hid hc
  have HQ12 := Lib.hid hq2
  clear hq2 hL hc
  go_wp2_with (fail)
  go_loopw [5] (fun i wr => ∃ (k : Nat) (col : Nat → Nat), k ≤ rs.length ∧ i = .int .i64 k ∧ LogAt wr LB col (rs.take k) ∧ (∀ b, col b ≠ 0 → w1.heap.size ≤ b) ∧ Q w wr ∧ Q w1 wr ∧ SlR wr (fun b => w.heap.size ≤ b ∧ b < w1.heap.size) b1 rs.length cp1 rs) (fun i _ => rs.length - (intOf i).toNat)
  case atStart => exact ⟨0, col, by omega, rfl, HL2.out, HC2.out, HQ2.out, HQ12.out, HR2.out⟩
  case round =>
    obtain ⟨k, col, hk, rfl, hL, hc, hq, hq1, hr⟩ := hrel
    have HL := Lib.hid hL
    have HC := Lib.hid hc
    have HQ := Lib.hid hq
    have HQB := Lib.hid hq1
    have HR := Lib.hid hr
    clear hL hc hq hq1 hr
    by_cases h1 : k < rs.length
    · obtain ⟨g, o, d, dc, rfl, hcell, hsd, _⟩ := HR.out.at k h1
      have hg := World.block_lt_of_cell? _ _ hcell
      have HSD := Lib.hid hsd
      have HX := Lib.hid (HOK.out _ (List.getElem_mem h1))
      have hx140 := HSM.out _ (List.getElem_mem h1)
      have HN := Lib.hid (take_snoc_get rs k h1)
      have HTL := Lib.hid (show (rs.take k).length = k by rw [List.length_take]; omega)
      clear hsd
      generalize rs[k] = x at *
      go_wp2_with (at_builtin; refine wpList_append_sl rfl _ _ 27 rfl wr.heap.size 5 i0 _ 1 1 Try.underlying27 HI.out hz0 hz1 hz2 rfl (by decide) _ 0 [] rfl (World.ownsRow_made wr #[] 0 (Nat.le_refl _) (by decide) rfl) d x.length dc _ rfl (HSD.out.q ((Q.refl wr).alloc _)) (bV_one _) (by omega) (by decide) (by simp) ?_; intro a' cap' w4 hown4 hgrow4 _)
      have HQ4 := Lib.hid (((Q.refl wr).alloc (.cells #[] 5)).grown hgrow4 (fun k hk => by cases hk; exact Nat.le_refl _))
      have hO4 : w4.ownsRow wr.heap.size 5 1 (.slice a' x.length cap') x.length (bV x) := by rw [Nat.zero_add] at hown4; exact hown4
      have HO4 := Lib.hid hO4
      obtain ⟨gg, hgg⟩ : ∃ gg, 0 < x.length → a' = some ⟨gg, 0, none⟩ ∧ wr.heap.size ≤ gg ∧ gg < w4.heap.size ∧ There w4 gg x.length := by
        rcases Nat.eq_zero_or_pos x.length with h0 | h0
        · exact ⟨0, fun h => by omega⟩
        · obtain ⟨gg, rfl, h2, h3⟩ := own_addr1 hO4 h0
          have hth := There.of_own hO4
          rw [Nat.mul_one] at hth
          exact ⟨gg, fun _ => ⟨rfl, h2, h3, hth⟩⟩
      have HGG := Lib.hid hgg
      clear hown4 hgrow4 hO4 hgg
      go_wp2_with (fail)
      refine (jAppend_any LB col (rs.take k) a' x.length cap' x w4 (HL.out.q HQ4.out) (Sl.of_own HO4.out) HX.out.2 (by omega) (by rw [HTL.out]; omega)).mono ?_
      rintro e w5 (⟨hx, _⟩ | ⟨_, rfl, hd⟩)
      · exact absurd hx (by omega)
      obtain ⟨col', hL', hE, hF⟩ := hd
      have hnew : ∀ i, colL col i → w1.heap.size ≤ i := fun i hi => HC.out i hi
      have HL5 := Lib.hid (show LogAt w5 LB col' (rs.take (k + 1)) by rw [HN.out]; exact hL')
      have HQ5 := Lib.hid (show Q w w5 from hF.q (HQ.out.trans HQ4.out) (fun i hi => Nat.le_trans HQ1.out.size (hnew i hi)))
      have HQB5 := Lib.hid (show Q w1 w5 from hF.q (HQB.out.trans HQ4.out) hnew)
      have HC5 := Lib.hid (show ∀ b, col' b ≠ 0 → w1.heap.size ≤ b from fun b hb => by
        rcases Nat.lt_or_ge b w4.heap.size with h | h
        · rw [hE b h] at hb; exact HC.out b hb
        · have := (HQB.out.trans HQ4.out).size; omega)
      have HR5 := Lib.hid (show SlR w5 (fun b => w.heap.size ≤ b ∧ b < w1.heap.size) (some ⟨g, o, none⟩) rs.length cp1 rs from (HR.out.q HQ4.out).qf hF (fun b hb e => by have := HC.out b e; omega))
      have HG5 := Lib.hid (show 0 < x.length → a' = some ⟨gg, 0, none⟩ ∧ w1.heap.size ≤ gg ∧ col' gg = 0 ∧ There w5 gg x.length from fun h0 => by
        obtain ⟨h2, h3, h4, h5⟩ := HGG.out h0
        have hcg : col gg = 0 := HL.out.new0 gg h3
        exact ⟨h2, Nat.le_trans HQB.out.size h3, by rw [hE gg h4]; exact hcg, h5.qf hF (fun e => e hcg)⟩)
      clear hL' hE hF hnew hcell hg
      go_wp2_with (fail)
      go_loopw [7] (fun j wr => ∃ m : Nat, m ≤ x.length ∧ j = .int .i64 m ∧ LogAt wr LB col' (rs.take (k + 1)) ∧ Q w wr ∧ Q w1 wr ∧ SlR wr (fun b => w.heap.size ≤ b ∧ b < w1.heap.size) (some ⟨g, o, none⟩) rs.length cp1 rs ∧ (0 < x.length → There wr gg x.length)) (fun j _ => x.length - (intOf j).toNat)
      case atStart => exact ⟨0, by omega, rfl, HL5.out, HQ5.out, HQB5.out, HR5.out, fun h0 => (HG5.out h0).2.2.2⟩
      case round =>
        obtain ⟨m, hm, rfl, hL, hq, hqb, hr, ht⟩ := hrel
        have HL6 := Lib.hid hL
        have HQ6 := Lib.hid hq
        have HQB6 := Lib.hid hqb
        have HR6 := Lib.hid hr
        have HT6 := Lib.hid ht
        clear hL hq hqb hr ht
        by_cases h2 : m < x.length
        · have h0 : 0 < x.length := by omega
          obtain ⟨rfl, hgb, hgc, _⟩ := HG5.out h0
          obtain ⟨⟨v, hv⟩, hf⟩ := HT6.out h0 m h2
          have HT7 := Lib.hid ((HT6.out h0).setCell ⟨gg, m, none⟩ (.int .u8 1))
          have hqs : QF (· = gg) wr (wr.setCell ⟨gg, m, none⟩ (.int .u8 1)) := QF.set (F := (· = gg)) wr gg m _ rfl
          have HL7 := Lib.hid (HL6.out.qf hqs (fun i hi => by rw [hi]; exact hgc))
          have HQ7 := Lib.hid (HQ6.out.setCell (p := ⟨gg, m, none⟩) (Nat.le_trans HQ1.out.size hgb) (.int .u8 1))
          have HQB7 := Lib.hid (HQB6.out.setCell (p := ⟨gg, m, none⟩) hgb (.int .u8 1))
          have HR7 := Lib.hid (HR6.out.qf hqs (fun i hi e => by omega))
          have hvl := World.block_lt_of_cell? _ _ hv
          clear hqs
          go_wp2
          go_roundw
          case rel => exact ⟨m + 1, by omega, by go_num, HL7.out, HQ7.out, HQB7.out, HR7.out, fun _ => HT7.out⟩
          case measure => simp [intOf]; omega
        · have h2' : ¬ (m : Int) < (x.length : Int) := by omega
          go_wp2
          go_roundw
          case rel => exact ⟨k + 1, col', by omega, by go_num, HL6.out, HC5.out, HQ6.out, HQB6.out, HR6.out⟩
          case measure => simp [intOf]; omega
    · have e1 : k = rs.length := by omega
      subst e1
      have HT := Lib.hid (List.take_length (l := rs))
      rw [HT.out] at HL
      have h1' : ¬ (rs.length : Int) < (rs.length : Int) := by omega
      go_wp2_with (fail)
      refine (jBytes_any LB col rs wr HL.out (by omega)).mono ?_
      rintro e w3 ⟨b3, cp3, rfl, hown3, hq3⟩
      have HR3 := Lib.hid (HR.out.q hq3)
      have HQ3 := Lib.hid (HQ.out.trans hq3)
      have HQB3 := Lib.hid (HQB.out.trans hq3)
      have HL3 := Lib.hid (HL.out.q hq3)
      have HO3 := Lib.hid hown3
      have HNW := Lib.hid (show ∀ b, wr.heap.size ≤ b → col b = 0 from HL.out.new0)
      have HBW := Lib.hid HQB.out.size
      have HB3 := Lib.hid hq3.size
      clear hown3 hq3 HL HR HQ HQB h1 h1'
      generalize hbs : wr.heap.size = base at *
      clear hbs
      go_wp2_with (fail)
      refine (jOpen_any b3 _ cp3 (bytesL rs) w3 (Sl.of_own HO3.out) (bytesL_bys HOK.out) (by omega) (fun y hy => (own_pos HO3.out y hy).2.1)).mono ?_
      rw [openZ_all rs HO4.out HOK.out]
      rintro e w4 ⟨hq4, ⟨_, L4, col4, rfl, hL4, hc4⟩ | ⟨hx, _⟩⟩
      case inr => exact absurd rfl hx
      have hsz3 := hq4.size
      obtain ⟨gb, hgb⟩ : ∃ gb, 0 < (bytesL rs).length → b3 = some ⟨gb, 0, none⟩ ∧ base ≤ gb ∧ gb < w3.heap.size ∧ There w4 gb (bytesL rs).length := by
        rcases Nat.eq_zero_or_pos (bytesL rs).length with h0 | h0
        · exact ⟨0, fun h => by omega⟩
        · obtain ⟨gg, rfl, h2, h3⟩ := own_addr1 HO3.out h0
          have hth := There.of_own HO3.out
          rw [Nat.mul_one] at hth
          exact ⟨gg, fun _ => ⟨rfl, h2, h3, hth.q hq4⟩⟩
      have HGB := Lib.hid hgb
      have HQ4 := Lib.hid (HQ3.out.trans hq4)
      have HQB4 := Lib.hid (HQB3.out.trans hq4)
      have HK4 := Lib.hid (KeepJ.mk (HL3.out.q hq4) hL4 (HR3.out.q hq4))
      have HC4 := Lib.hid hc4
      have HNL := Lib.hid hL4.new0
      clear hgb hq4 hL4 hc4 HO3
      go_wp2_with (fail)
      go_loopw [11] (fun j wr => ∃ m : Nat, m ≤ (bytesL rs).length ∧ j = .int .i64 m ∧ KeepJ wr LB L4 col col4 rs rs rs (fun b => w.heap.size ≤ b ∧ b < w1.heap.size) b1 rs.length cp1 ∧ Q w wr ∧ base ≤ wr.heap.size ∧ (0 < (bytesL rs).length → There wr gb (bytesL rs).length)) (fun j _ => (bytesL rs).length - (intOf j).toNat)
      case atStart => exact ⟨0, by omega, rfl, HK4.out, HQ4.out, Nat.le_trans HB3.out hsz3, fun h0 => (HGB.out h0).2.2.2⟩
      case round =>
        obtain ⟨m, hm, rfl, hk, hq, hbs, ht⟩ := hrel
        have HK := Lib.hid hk
        have HQ := Lib.hid hq
        have HT := Lib.hid ht
        have HBS := Lib.hid hbs
        clear hk hq ht hbs
        by_cases h2 : m < (bytesL rs).length
        · have h0 : 0 < (bytesL rs).length := by omega
          obtain ⟨rfl, hgb, hgl, _⟩ := HGB.out h0
          obtain ⟨⟨v, hv⟩, hf⟩ := HT.out h0 m h2
          have HT7 := Lib.hid ((HT.out h0).setCell ⟨gb, m, none⟩ (.int .u8 2))
          have hcx : col gb = 0 := HNW.out gb hgb
          have hcy : col4 gb = 0 := by
            rcases Nat.eq_zero_or_pos (col4 gb) with h | h
            · exact h
            · exact absurd (HC4.out gb (by omega)) (by omega)
          have hbw := HBW.out
          have HK7 := Lib.hid (HK.out.set gb m (.int .u8 2) hcx hcy (fun e => by omega))
          have HQ7 := Lib.hid (HQ.out.setCell (p := ⟨gb, m, none⟩) (Nat.le_trans HQ1.out.size (Nat.le_trans hbw hgb)) (.int .u8 2))
          have hvl := World.block_lt_of_cell? _ _ hv
          clear hcx hcy hbw
          go_wp2
          go_roundw
          case rel => exact ⟨m + 1, by omega, by go_num, HK7.out, HQ7.out, by rw [World.size_setCell]; exact HBS.out, fun _ => HT7.out⟩
          case measure => simp [intOf]; omega
        · have h2' : ¬ (m : Int) < ((bytesL rs).length : Int) := by omega
          go_wp2_with (fail)
          refine (jRecordsW_any LB col rs wr HK.out.x).mono ?_
          rintro e w6 ⟨b6, cp6, vs6, rfl, hO6, hW6, hq6⟩
          have hnb : ∀ b, wr.heap.size ≤ b → col b = 0 := HK.out.x.new0
          have hn4 : ∀ b, wr.heap.size ≤ b → col4 b = 0 := HK.out.y.new0
          have HNB := Lib.hid hnb
          have HN4 := Lib.hid hn4
          have HK6 := Lib.hid (HK.out.q hq6)
          have HQ6 := Lib.hid (HQ.out.trans hq6)
          have HV6 := Lib.hid (show ∀ (i : Nat) x, rs[i]? = some x → ∃ a c, vs6[i]? = some (.slice a x.length c) from fun i x hx => by
            obtain ⟨a, c, h1, _⟩ := hO6.recs.2 i x hx
            exact ⟨a, c, h1⟩)
          have HS6 := Lib.hid (Sl.of_own hO6.own)
          have HW6 := Lib.hid (hW6.mono (D := fun b => wr.heap.size ≤ b ∧ ∀ y, b6 = some y → y.block ≠ b) (fun b hb => ⟨hb.1, hb.2.2⟩))
          have HBX := Lib.hid (Nat.le_trans HBW.out HBS.out)
          obtain ⟨g6, hg6⟩ : ∃ g6, 0 < rs.length → b6 = some ⟨g6, 0, none⟩ := by
            rcases Nat.eq_zero_or_pos rs.length with h0 | h0
            · exact ⟨0, fun h => by omega⟩
            · obtain ⟨gg, rfl, _, _⟩ := own_addr1 hO6.own h0
              exact ⟨gg, fun _ => rfl⟩
          have HG6 := Lib.hid hg6
          clear hO6 hW6 hq6 hnb hn4 hg6 h2 h2' hm
          generalize hb6 : wr.heap.size = base6 at *
          clear hb6
          go_wp2_with (fail)
          go_loopw [13] (fun i wr => ∃ k : Nat, k ≤ rs.length ∧ i = .int .i64 k ∧ KeepJ wr LB L4 col col4 rs rs rs (fun b => w.heap.size ≤ b ∧ b < w1.heap.size) b1 rs.length cp1 ∧ Q w wr ∧ Sl wr 1 b6 rs.length cp6 vs6 ∧ WrR wr (fun b => base6 ≤ b ∧ ∀ y, b6 = some y → y.block ≠ b) vs6 rs) (fun i _ => rs.length - (intOf i).toNat)
          case atStart => exact ⟨0, by omega, rfl, HK6.out, HQ6.out, HS6.out, HW6.out⟩
          case round =>
            obtain ⟨k, hk, rfl, hkp, hq, hs, hw⟩ := hrel
            have HK8 := Lib.hid hkp
            have HQ8 := Lib.hid hq
            have HS8 := Lib.hid hs
            have HW8 := Lib.hid hw
            clear hkp hq hs hw
            by_cases h3 : k < rs.length
            · obtain rfl := HG6.out (by omega)
              obtain ⟨x, hx⟩ : ∃ x, rs[k]? = some x := ⟨rs[k], by simp [h3]⟩
              have hx140 := HSM.out x (List.mem_of_getElem? hx)
              obtain ⟨xa, xc, hvk⟩ := HV6.out k x hx
              have HVK := Lib.hid hvk
              have HX := Lib.hid hx
              clear hvk hx
              go_wp2_with (fail)
              go_loopw [14] (fun j wr => ∃ m : Nat, m ≤ x.length ∧ j = .int .i64 m ∧ KeepJ wr LB L4 col col4 rs rs rs (fun b => w.heap.size ≤ b ∧ b < w1.heap.size) b1 rs.length cp1 ∧ Q w wr ∧ Sl wr 1 (some ⟨g6, 0, none⟩) rs.length cp6 vs6 ∧ WrR wr (fun b => base6 ≤ b ∧ ∀ y, some (⟨g6, 0, none⟩ : Addr) = some y → y.block ≠ b) vs6 rs) (fun j _ => x.length - (intOf j).toNat)
              case atStart => exact ⟨0, by omega, rfl, HK8.out, HQ8.out, HS8.out, HW8.out⟩
              case round =>
                obtain ⟨m, hm, rfl, hkp, hq, hs, hw⟩ := hrel
                have HK9 := Lib.hid hkp
                have HQ9 := Lib.hid hq
                have HS9 := Lib.hid hs
                have HW9 := Lib.hid hw
                have c6 := HS9.out.at0 (by omega) k _ HVK.out
                clear hkp hq hs hw
                by_cases h4 : m < x.length
                · obtain ⟨g, c, hvg, hth, hcb, hcn⟩ := HW9.out k x HX.out (by omega)
                  have hne := hcn _ rfl
                  have hvv := HVK.out.symm.trans hvg
                  injection hvv with hvv
                  injection hvv with hva _ hvc
                  subst hva
                  subst hvc
                  obtain ⟨⟨v, hv⟩, hf⟩ := hth m h4
                  have hqs : QF (· = g) wr (wr.setCell ⟨g, m, none⟩ (.int .u8 3)) := QF.set (F := (· = g)) wr g m _ rfl
                  have hbx := HBX.out
                  have HK10 := Lib.hid (HK9.out.set g m (.int .u8 3) (HNB.out g hcb) (HN4.out g hcb) (fun e => by omega))
                  have HQ10 := Lib.hid (HQ9.out.setCell (p := ⟨g, m, none⟩) (Nat.le_trans HQ1.out.size (Nat.le_trans hbx hcb)) (.int .u8 3))
                  have HS10 := Lib.hid (HS9.out.qf hqs (fun y hy e => by cases hy; exact hne e))
                  have HW10 := Lib.hid (HW9.out.set ⟨g, m, none⟩ (.int .u8 3))
                  have hvl := World.block_lt_of_cell? _ _ hv
                  have hgl := World.block_lt_of_cell? _ _ c6
                  clear hqs hth hvg hbx
                  go_wp2
                  go_roundw
                  case rel => exact ⟨m + 1, by omega, by go_num, HK10.out, HQ10.out, HS10.out, HW10.out⟩
                  case measure => simp [intOf]; omega
                · have h4' : ¬ (m : Int) < (x.length : Int) := by omega
                  have hgl := World.block_lt_of_cell? _ _ c6
                  go_wp2
                  go_roundw
                  case rel => exact ⟨k + 1, by omega, by go_num, HK9.out, HQ9.out, HS9.out, HW9.out⟩
                  case measure => simp [intOf]; omega
            · have h3' : ¬ (k : Int) < (rs.length : Int) := by omega
              go_wp2_with (fail)
              refine (jRecords_any LB col rs wr HK8.out.x).mono ?_
              rintro e w7 ⟨b7, cp7, vs7, rfl, hO7, hq7⟩
              have HQ7 := Lib.hid (HQ8.out.trans hq7)
              have HK7 := Lib.hid (HK8.out.q hq7)
              have HO7 := Lib.hid hO7
              clear hO7 hq7
              go_wp2_with (fail)
              refine (rSame34_any _ _ b7 b1 rs.length rs.length cp7 cp1 rs rs w7 HO7.out.slr HK7.out.r HOK.out HOK.out (by omega) (by omega)).mono ?_
              rintro e w10 ⟨rfl, hq10⟩
              have HQ10 := Lib.hid (HQ7.out.trans hq10)
              have HK10 := Lib.hid (HK7.out.q hq10)
              clear hq10
              rw [show decide (rs = rs) = true from decide_eq_true rfl]
              go_wp2_with (fail)
              refine (jRecords_any L4 col4 rs w10 HK10.out.y).mono ?_
              rintro e w11 ⟨b11, cp11, vs11, rfl, hO11, hq11⟩
              have HQ11 := Lib.hid (HQ10.out.trans hq11)
              have HK11 := Lib.hid (HK10.out.q hq11)
              have HO11 := Lib.hid hO11
              clear hO11 hq11
              go_wp2_with (fail)
              refine (rSame34_any _ _ b11 b1 rs.length rs.length cp11 cp1 rs rs w11 HO11.out.slr HK11.out.r HOK.out HOK.out (by omega) (by omega)).mono ?_
              rintro e w12 ⟨rfl, hq12⟩
              have HQ12 := Lib.hid (HQ11.out.trans hq12)
              clear hq12
              rw [show decide (rs = rs) = true from decide_eq_true rfl]
              go_wp2_with (fail)
              refine (lives34_any w12).mono ?_
              rintro e w13 ⟨rfl, hq13⟩
              have HQ13 := Lib.hid (HQ12.out.trans hq13)
              clear hq13
              go_wp2
              go_ret
              exact ⟨rfl, HQ13.out⟩
end Go.Proofs.Ytfkbdiheccnohaa
