/- Contracts: ParseRow, of the program and of the reference. -/
import Derived.Test.YtmcibkmaigolmaaDoorRowsC
namespace Go.Proofs.YtmcibkmaigolmaaDoor
open Go Go.RowKit Go.BigFrame

/-- the error of ParseRow -/
def parseE (zs : List Int) (p : Int) : Int :=
  if p < 1 ∨ 8 < p then 1 else if (zs.length : Int) < p then 7 else if p < (zs.length : Int) then 8 else if ∀ z ∈ zs, z ≤ 35 then 0 else 8
/-- the codes that ParseRow decodes -/
def parseL (zs : List Int) (p : Int) : List Int := if parseE zs p = 0 then zs else []
def RetParse (w : World) (zs : List Int) (p : Int) (e : Ending) (w' : World) : Prop :=
  ∃ a cap, e = .returned (.tuple #[.slice a (parseL zs p).length cap, .int .i64 (parseE zs p)]) ∧ w'.ownsRow w.heap.size 23 3 (.slice a (parseL zs p).length cap) (parseL zs p).length (inCells (parseL zs p)) ∧ Q w w'
theorem retParse_none {w w' : World} {zs : List Int} {p k : Int} (h : parseE zs p = k) (hk : k ≠ 0) (q : Q w w') : RetParse w zs p (.returned (.tuple #[.slice none 0 0, .int .i64 k])) w' := by
  have hl : parseL zs p = [] := by unfold parseL; rw [if_neg (by rw [h]; exact hk)]
  refine ⟨none, 0, ?_, ?_, q⟩
  · rw [hl, h]; rfl
  · rw [hl]; exact World.ownsRow_nil _ _ _ _
theorem retParse_all {w w' : World} {zs : List Int} {p : Int} {a : Option Addr} {n cap : Nat} (h : parseE zs p = 0) (hn : zs.length = n) (ho : w'.ownsRow w.heap.size 23 3 (.slice a n cap) n (inCells zs)) (q : Q w w') :
    RetParse w zs p (.returned (.tuple #[.slice a n cap, .int .i64 0])) w' := by
  have hl : parseL zs p = zs := by unfold parseL; rw [if_pos h]
  subst hn
  exact ⟨a, cap, by rw [hl, h], by rw [hl]; exact ho, q⟩
theorem parseE_arg {zs : List Int} {p : Int} (h : p < 1 ∨ 8 < p) : parseE zs p = 1 := by unfold parseE; rw [if_pos h]
theorem parseE_short {zs : List Int} {p : Int} (h : ¬(p < 1 ∨ 8 < p)) (h2 : (zs.length : Int) < p) : parseE zs p = 7 := by unfold parseE; rw [if_neg h, if_pos h2]
theorem parseE_long {zs : List Int} {p : Int} (h : ¬(p < 1 ∨ 8 < p)) (h2 : p < (zs.length : Int)) : parseE zs p = 8 := by unfold parseE; rw [if_neg h, if_neg (by omega), if_pos h2]
theorem parseE_form {zs : List Int} {p : Int} (h : ¬(p < 1 ∨ 8 < p)) (h2 : p = (zs.length : Int)) {z : Int} (hz : z ∈ zs) (h3 : 35 < z) : parseE zs p = 8 := by
  unfold parseE; rw [if_neg h, if_neg (by omega), if_neg (by omega), if_neg (fun hh => by have := hh z hz; omega)]
theorem parseE_ok {zs : List Int} {p : Int} (h : ¬(p < 1 ∨ 8 < p)) (h2 : p = (zs.length : Int)) (h3 : ∀ z ∈ zs, z ≤ 35) : parseE zs p = 0 := by
  unfold parseE; rw [if_neg h, if_neg (by omega), if_neg (by omega), if_pos h3]
theorem mem_take_snoc {zs : List Int} {k : Nat} (hk : k < zs.length) (h : ∀ z ∈ zs.take k, z ≤ 35) (h2 : zs[k] ≤ 35) : ∀ z ∈ zs.take (k + 1), z ≤ 35 := by
  intro z hz
  rw [take_snoc_get _ _ hk] at hz
  rcases List.mem_append.1 hz with h3 | h3
  · exact h z h3
  · rw [List.mem_singleton.1 h3]; exact h2

theorem iParse_any (a : Option Addr) (n cap : Nat) (zs : List Int) (p : Int) (w : World) (hD : Dirs w) (hs : Sl w 1 a n cap (zs.map (Value.int .u8))) (hz : ∀ z ∈ zs, 0 ≤ z ∧ z ≤ 255) (hn : n ≤ 140737488351232) :
    Calls Tryd.prog 22 #[.slice a n cap, .int .i64 p] w (RetParse w zs p) := by
  have hlen : zs.length = n := by have := hs.1; simpa using this
  by_cases hp : p < 1 ∨ 8 < p
  · have HE := Lib.hid (parseE_arg (zs := zs) hp)
    have hb : inB p 1 8 = false := by simp [inB]; omega
    clear hD hs hz hlen
    go_enter Tryd.func22, Tryd.ntmps22
    go_wp2_with (go_at_call 27; refine (within_any _ _ _ _).mono ?_; rintro e w' ⟨rfl, rfl⟩)
    go_ret2
    exact retParse_none HE.out (by decide) (Q.refl _)
  · have hb : inB p 1 8 = true := by simp [inB]; omega
    by_cases h7 : (n : Int) < p
    · have HE := Lib.hid (parseE_short (zs := zs) hp (by omega))
      clear hD hs hz hlen
      go_enter Tryd.func22, Tryd.ntmps22
      go_wp2_with (go_at_call 27; refine (within_any _ _ _ _).mono ?_; rintro e w' ⟨rfl, rfl⟩)
      go_ret2
      exact retParse_none HE.out (by decide) (Q.refl _)
    · by_cases h8 : p < (n : Int)
      · have HE := Lib.hid (parseE_long (zs := zs) hp (by omega))
        clear hD hs hz hlen
        go_enter Tryd.func22, Tryd.ntmps22
        go_wp2_with (go_at_call 27; refine (within_any _ _ _ _).mono ?_; rintro e w' ⟨rfl, rfl⟩)
        go_ret2
        exact retParse_none HE.out (by decide) (Q.refl _)
      · obtain ⟨i0, hi, hz0, hz1, hz2⟩ := info_parts infoIn
        have hpn : p = (n : Int) := by omega
        have HP := Lib.hid hp
        have hn8 : n ≤ 8 := by omega
        have hn1 : 1 ≤ n := by omega
        subst hpn
        have hcapn := hs.2.1
        have HS := Lib.hid hs
        have HL := Lib.hid hlen
        have HZ := Lib.hid hz
        have HI := Lib.hid hi
        have HD := Lib.hid hD
        clear hs hlen hz hi hD hp h7 h8
        go_enter Tryd.func22, Tryd.ntmps22
        go_wp2_with (go_at_call 27; refine (within_any _ _ _ _).mono ?_; rintro e w' ⟨rfl, rfl⟩)
        go_loopw [6, 27] (fun v i wr => ∃ (k cp : Nat) (b : Option Addr), k ≤ n ∧ i = .int .i64 k ∧ v = .slice b k cp ∧ wr.ownsRow w.heap.size 23 3 (.slice b k cp) k (inCells (zs.take k)) ∧ Q w wr ∧ (∀ z ∈ zs.take k, z ≤ 35)) (fun _ i _ => n - (intOf i).toNat)
        case atStart => exact ⟨0, 0, none, by omega, rfl, rfl, World.ownsRow_nil _ _ _ _, Q.refl _, by simp⟩
        case round =>
          obtain ⟨k, cp, b, hkn, rfl, rfl, hown, hq, hle⟩ := hrel
          have HLE := Lib.hid hle
          clear hle
          by_cases h1 : k < n
          · have hzl : k < zs.length := by rw [HL.out]; exact h1
            obtain ⟨g, o, rfl, hg, hc⟩ := (HS.out.q hq).pos (by omega)
            have c0 : wr.cell? ⟨g, o + k, none⟩ = some (.int .u8 zs[k]) := hc _ _ (by simp [hzl])
            have hm := List.getElem_mem hzl
            obtain ⟨x0, x1⟩ := HZ.out _ hm
            have HN := Lib.hid (show inCells (zs.take (k + 1)) = inCells (zs.take k) ++ inC zs[k] by rw [take_snoc_get _ _ hzl, inCells_snoc])
            by_cases hx35 : zs[k] ≤ 35
            · have HLE2 := Lib.hid (mem_take_snoc hzl HLE.out hx35)
              generalize hx : zs[k] = x at *
              clear hc hx hzl hm
              have HO := Lib.hid hown
              have HQ := Lib.hid hq
              clear hown hq
              go_wp2_with (fail)
              refine (iDecode_yes _ _ (HD.out.q HQ.out) (by omega) (by omega)).mono ?_
              rintro e w1 ⟨rfl, hq1⟩
              have HO1 := Lib.hid ((own_q HO.out hq1).alloc (.cells (inC x).toArray 23))
              have HQ1 := Lib.hid ((HQ.out.trans hq1).alloc (.cells (inC x).toArray 23))
              have HB := Lib.hid HQ1.out.size
              clear hq1 HO HQ
              go_wp2_with (at_builtin; refine append_one rfl _ _ 40 rfl w.heap.size 23 i0 _ 3 24 Tryd.underlying40 HI.out hz0 hz1 hz2 rfl (by decide) _ k _ rfl HO1.out 1 (w1.heap.size + 1) (by simp) (inC x) rfl rfl (by simp [inC, Value.oneCell']) (by omega) (by decide) HB.out ?_; intro g2 cap2 w2 hown2 hq2)
              go_roundw
              case rel => exact ⟨k + 1, cap2, _, by omega, by go_num, rfl, by rw [HN.out]; exact hown2, hq2 _ HQ1.out (Nat.le_refl _), HLE2.out⟩
              case measure => simp [intOf]; omega
            · have HE := Lib.hid (parseE_form (p := (n : Int)) HP.out (by rw [HL.out]) hm (by omega))
              generalize hx : zs[k] = x at *
              clear hc hx hzl hm
              have HQ := Lib.hid hq
              clear hown hq
              go_wp2_with (fail)
              refine (iDecode_no _ _ (by omega) (by omega)).mono ?_
              rintro e w1 ⟨rfl, hq1⟩
              have HQ1 := Lib.hid ((HQ.out.trans hq1).alloc (.cells #[.int .i64 0, .int .i64 0, .int .i64 0] 23))
              clear hq1
              go_wp2
              go_ret2
              exact retParse_none HE.out (by decide) HQ1.out
          · have e1 : k = n := by omega
            subst e1
            have e2 : zs.take k = zs := List.take_of_length_le (by rw [HL.out]; omega)
            have HLE2 := Lib.hid (show ∀ z ∈ zs, z ≤ 35 by have := HLE.out; rwa [e2] at this)
            rw [e2] at hown
            have HO := Lib.hid hown
            have HQ := Lib.hid hq
            clear hown hq e2
            go_wp2
            go_ret2
            exact retParse_all (parseE_ok HP.out (by rw [HL.out]) HLE2.out) HL.out HO.out HQ.out
theorem rParse_any (a : Option Addr) (n cap : Nat) (zs : List Int) (p : Int) (w : World) (hs : Sl w 1 a n cap (zs.map (Value.int .u8))) (hz : ∀ z ∈ zs, 0 ≤ z ∧ z ≤ 255) (hn : n ≤ 140737488351232) :
    Calls Tryd.prog 23 #[.slice a n cap, .int .i64 p] w (RetParse w zs p) := by
  have hlen : zs.length = n := by have := hs.1; simpa using this
  by_cases hp : p < 1 ∨ 8 < p
  · have HE := Lib.hid (parseE_arg (zs := zs) hp)
    clear hs hz hlen
    by_cases hp1 : p < 1
    · go_enter Tryd.func23, Tryd.ntmps23
      go_wp2
      go_ret2
      exact retParse_none HE.out (by decide) (Q.refl _)
    · have hp8 : 8 < p := by omega
      go_enter Tryd.func23, Tryd.ntmps23
      go_wp2
      go_ret2
      exact retParse_none HE.out (by decide) (Q.refl _)
  · by_cases h7 : (n : Int) < p
    · have HE := Lib.hid (parseE_short (zs := zs) hp (by omega))
      clear hs hz hlen
      go_enter Tryd.func23, Tryd.ntmps23
      go_wp2
      go_ret2
      exact retParse_none HE.out (by decide) (Q.refl _)
    · by_cases h8 : p < (n : Int)
      · have HE := Lib.hid (parseE_long (zs := zs) hp (by omega))
        clear hs hz hlen
        go_enter Tryd.func23, Tryd.ntmps23
        go_wp2
        go_ret2
        exact retParse_none HE.out (by decide) (Q.refl _)
      · obtain ⟨i0, hi, hz0, hz1, hz2⟩ := info_parts infoIn
        have hpn : p = (n : Int) := by omega
        have HP := Lib.hid hp
        have hn8 : n ≤ 8 := by omega
        have hn1 : 1 ≤ n := by omega
        subst hpn
        have hcapn := hs.2.1
        have HS := Lib.hid hs
        have HL := Lib.hid hlen
        have HZ := Lib.hid hz
        have HI := Lib.hid hi
        clear hs hlen hz hi hp h7 h8
        go_enter Tryd.func23, Tryd.ntmps23
        go_wp2
        go_loopw [6, 7] (fun v i wr => ∃ (k cp : Nat) (b : Option Addr), k ≤ n ∧ i = .int .i64 k ∧ v = .slice b k cp ∧ wr.ownsRow w.heap.size 23 3 (.slice b k cp) k (inCells (zs.take k)) ∧ Q w wr ∧ (∀ z ∈ zs.take k, z ≤ 35)) (fun _ i _ => n - (intOf i).toNat)
        case atStart => exact ⟨0, 0, none, by omega, rfl, rfl, World.ownsRow_nil _ _ _ _, Q.refl _, by simp⟩
        case round =>
          obtain ⟨k, cp, b, hkn, rfl, rfl, hown, hq, hle⟩ := hrel
          have HLE := Lib.hid hle
          clear hle
          by_cases h1 : k < n
          · have hzl : k < zs.length := by rw [HL.out]; exact h1
            obtain ⟨g, o, rfl, hg, hc⟩ := (HS.out.q hq).pos (by omega)
            have c0 : wr.cell? ⟨g, o + k, none⟩ = some (.int .u8 zs[k]) := hc _ _ (by simp [hzl])
            have hm := List.getElem_mem hzl
            obtain ⟨x0, x1⟩ := HZ.out _ hm
            have HN := Lib.hid (show inCells (zs.take (k + 1)) = inCells (zs.take k) ++ inC zs[k] by rw [take_snoc_get _ _ hzl, inCells_snoc])
            by_cases hx35 : zs[k] ≤ 35
            · have HLE2 := Lib.hid (mem_take_snoc hzl HLE.out hx35)
              generalize hx : zs[k] = x at *
              clear hc hx hzl hm
              have HO := Lib.hid hown
              have HQ := Lib.hid hq
              clear hown hq
              go_wp2_with (fail)
              refine (rDecode_yes _ _ (by omega) (by omega)).mono ?_
              rintro e w1 ⟨rfl, hq1⟩
              have HO1 := Lib.hid ((own_q HO.out hq1).alloc (.cells (inC x).toArray 23))
              have HQ1 := Lib.hid ((HQ.out.trans hq1).alloc (.cells (inC x).toArray 23))
              have HB := Lib.hid HQ1.out.size
              clear hq1 HO HQ
              go_wp2_with (at_builtin; refine append_one rfl _ _ 40 rfl w.heap.size 23 i0 _ 3 24 Tryd.underlying40 HI.out hz0 hz1 hz2 rfl (by decide) _ k _ rfl HO1.out 1 (w1.heap.size + 1) (by simp) (inC x) rfl rfl (by simp [inC, Value.oneCell']) (by omega) (by decide) HB.out ?_; intro g2 cap2 w2 hown2 hq2)
              go_roundw
              case rel => exact ⟨k + 1, cap2, _, by omega, by go_num, rfl, by rw [HN.out]; exact hown2, hq2 _ HQ1.out (Nat.le_refl _), HLE2.out⟩
              case measure => simp [intOf]; omega
            · have HE := Lib.hid (parseE_form (p := (n : Int)) HP.out (by rw [HL.out]) hm (by omega))
              generalize hx : zs[k] = x at *
              clear hc hx hzl hm
              have HQ := Lib.hid hq
              clear hown hq
              go_wp2_with (fail)
              refine (rDecode_no _ _ (by omega) (by omega)).mono ?_
              rintro e w1 ⟨rfl, hq1⟩
              have HQ1 := Lib.hid ((HQ.out.trans hq1).alloc (.cells #[.int .i64 0, .int .i64 0, .int .i64 0] 23))
              clear hq1
              go_wp2
              go_ret2
              exact retParse_none HE.out (by decide) HQ1.out
          · have e1 : k = n := by omega
            subst e1
            have e2 : zs.take k = zs := List.take_of_length_le (by rw [HL.out]; omega)
            have HLE2 := Lib.hid (show ∀ z ∈ zs, z ≤ 35 by have := HLE.out; rwa [e2] at this)
            rw [e2] at hown
            have HO := Lib.hid hown
            have HQ := Lib.hid hq
            clear hown hq e2
            go_wp2
            go_ret2
            exact retParse_all (parseE_ok HP.out (by rw [HL.out]) HLE2.out) HL.out HO.out HQ.out
end Go.Proofs.YtmcibkmaigolmaaDoor
