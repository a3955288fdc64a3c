/- The walk of CommitrevealHonest. -/
import Derived.Test.YtcpicifnadoeoaaCrWalkC
import Derived.Test.YtcpicifnadoeoaaOwnSet
namespace Go.Proofs.Ytcpicifnadoeoaa
open Go Go.RowKit Go.BigFrame

/-- the turn at which player q commits -/
def ix0 (n r q : Nat) : Nat := if r ≤ q then q - r else q + n - r
/-- the turn at which player q reveals -/
def ix1 (n r q : Nat) : Nat := ix0 n r (n - 1 - q)
def at0 (n r i : Nat) : Nat := (i + r) % n
theorem at0_eq {n r i : Nat} (hr : r < n) (hi : i < n) : at0 n r i = if i + r < n then i + r else i + r - n := by
  unfold at0
  split
  · exact Nat.mod_eq_of_lt (by assumption)
  · rw [Nat.mod_eq_sub_mod (by omega), Nat.mod_eq_of_lt (by omega)]
theorem at0_lt {n r i : Nat} (hr : r < n) (hi : i < n) : at0 n r i < n := by rw [at0_eq hr hi]; split <;> omega
theorem ix0_at {n r i : Nat} (hr : r < n) (hi : i < n) : ix0 n r (at0 n r i) = i := by
  rw [at0_eq hr hi]; unfold ix0; split <;> split <;> omega
theorem ix0_inj {n r p q : Nat} (hr : r < n) (hp : p < n) (hq : q < n) (h : ix0 n r p = ix0 n r q) : p = q := by
  unfold ix0 at h; split at h <;> split at h <;> omega
theorem ix0_lt {n r q : Nat} (hr : r < n) (hq : q < n) : ix0 n r q < n := by unfold ix0; split <;> omega

/-- the states after i commitments -/
def stA (n r : Nat) (com : Nat → Int) (i q : Nat) : St := if q < n ∧ ix0 n r q < i then ⟨true, false, com q, 4⟩ else st0
/-- the states after i reveals -/
def stB (n r : Nat) (com : Nat → Int) (inn : Nat → Int) (i q : Nat) : St := if q < n then (if ix1 n r q < i then ⟨true, true, com q, inn q⟩ else ⟨true, false, com q, 4⟩) else st0
def list8 (f : Nat → St) : List St := (List.range 8).map f
theorem list8_len (f : Nat → St) : (list8 f).length = 8 := by simp [list8]
theorem list8_get (f : Nat → St) (q : Nat) (h : q < 8) : getS (list8 f) q = f q := by
  unfold getS list8
  rw [List.getD, List.getElem?_map, show ((q : Int).toNat) = q by omega, List.getElem?_range h]
  rfl
theorem list8_set (f g : Nat → St) (p : Nat) (hp : p < 8) (y : St) (hy : g p = y) (h : ∀ q, q < 8 → q ≠ p → g q = f q) : (list8 f).set p y = list8 g := by
  apply List.ext_getElem?
  intro j
  rw [List.getElem?_set]
  unfold list8
  rw [List.getElem?_map, List.getElem?_map]
  by_cases hj : j < 8
  · rw [List.getElem?_range hj]
    by_cases e : p = j
    · subst e
      rw [if_pos rfl, if_pos (by simpa using hp)]
      simp [hy]
    · rw [if_neg e]
      simp [h j hj (Ne.symm e)]
  · rw [List.getElem?_eq_none (by simpa using hj)]
    rw [if_neg (by omega)]
    rfl
theorem list8_mem {f : Nat → St} {s : St} (h : s ∈ list8 f) : ∃ q, q < 8 ∧ f q = s := by
  obtain ⟨q, hq, e⟩ := List.mem_map.1 h
  exact ⟨q, List.mem_range.1 hq, e⟩
theorem stTrysane (n r : Nat) (com : Nat → Int) (i : Nat) (hc : ∀ q, U64 (com q)) : Sane (list8 (stA n r com i)) := by
  refine ⟨fun s h hcm => ?_, fun s h => ?_, fun s h => ?_⟩ <;> obtain ⟨q, _, rfl⟩ := list8_mem h
  · unfold stA at hcm ⊢
    split at hcm
    · cases hcm
    · rename_i h'; rw [if_neg h']
  · unfold stA; split
    · exact ⟨by show (0 : Int) ≤ 4; decide, by show (4 : Int) < 36; decide⟩
    · exact ⟨by show (0 : Int) ≤ 4; decide, by show (4 : Int) < 36; decide⟩
  · unfold stA; split
    · exact hc q
    · exact zero_u64
theorem stB_sane (n r : Nat) (com inn : Nat → Int) (i : Nat) (hc : ∀ q, U64 (com q)) (hi : ∀ q, q < n → 0 ≤ inn q ∧ inn q < 36) : Sane (list8 (stB n r com inn i)) := by
  refine ⟨fun s h hcm => ?_, fun s h => ?_, fun s h => ?_⟩ <;> obtain ⟨q, _, rfl⟩ := list8_mem h
  · unfold stB at hcm ⊢
    split at hcm
    · split at hcm <;> cases hcm
    · rename_i h'; rw [if_neg h']
  · unfold stB; split
    · split
      · exact hi q (by assumption)
      · exact ⟨by show (0 : Int) ≤ 4; decide, by show (4 : Int) < 36; decide⟩
    · exact ⟨by show (0 : Int) ≤ 4; decide, by show (4 : Int) < 36; decide⟩
  · unfold stB; split
    · split <;> exact hc q
    · exact zero_u64
theorem stTryzero (n r : Nat) (com : Nat → Int) : list8 (stA n r com 0) = List.replicate 8 st0 := by
  have : ∀ q, stA n r com 0 q = st0 := by intro q; unfold stA; rw [if_neg (by omega)]
  unfold list8
  rw [show stA n r com 0 = fun _ => st0 from funext this]
  rfl
theorem stTryall (n r : Nat) (com inn : Nat → Int) (hr : r < n) : list8 (stA n r com n) = list8 (stB n r com inn 0) := by
  have : stA n r com n = stB n r com inn 0 := by
    funext q
    unfold stA stB
    by_cases h : q < n
    · rw [if_pos ⟨h, ix0_lt hr h⟩, if_pos h, if_neg (by omega)]
    · rw [if_neg (by omega), if_neg h]
  rw [this]
/-- the commitment of the player whose turn it is -/
theorem honest_commit (n r i : Nat) (com : Nat → Int) (hr : r < n) (hi : i < n) (hn : n ≤ 8) : commitE n false (list8 (stA n r com i)) (at0 n r i : Nat) = 0 ∧ commitT n false (list8 (stA n r com i)) (at0 n r i : Nat) (com (at0 n r i)) = list8 (stA n r com (i + 1)) := by
  have hp := at0_lt hr hi
  have hx := ix0_at hr hi
  generalize hpp : at0 n r i = p at *
  have hg : getS (list8 (stA n r com i)) (p : Nat) = st0 := by rw [list8_get _ _ (by omega)]; unfold stA; rw [if_neg (by omega)]
  have hE : commitE n false (list8 (stA n r com i)) (p : Nat) = 0 := by
    unfold commitE
    rw [if_neg (by omega), if_neg (by decide), hg]
    rfl
  refine ⟨hE, ?_⟩
  unfold commitT
  rw [if_pos hE, show ((p : Int).toNat) = p by omega]
  refine list8_set _ _ p (by omega) _ ?_ fun q hq hne => ?_
  · unfold stA; rw [if_pos ⟨hp, by omega⟩]
  · unfold stA
    by_cases h : q < n
    · have : ix0 n r q ≠ i := fun e => hne (ix0_inj hr h hp (by omega))
      by_cases h2 : ix0 n r q < i
      · rw [if_pos ⟨h, by omega⟩, if_pos ⟨h, h2⟩]
      · rw [if_neg (by omega), if_neg (by omega)]
    · rw [if_neg (by omega), if_neg (by omega)]
/-- the reveal of the player whose turn it is -/
theorem honest_reveal (t : Int) (n r i : Nat) (com inn non : Nat → Int) (hr : r < n) (hi : i < n) (hn : n ≤ 8) (hc : ∀ q, com q = comZ q t (inn q) (non q)) (hin : ∀ q, q < n → 0 ≤ inn q ∧ inn q < 36) :
    revealE t n true (list8 (stB n r com inn i)) ((n - 1 - at0 n r i : Nat) : Int) (inn (n - 1 - at0 n r i) % 3 - 1) (inn (n - 1 - at0 n r i) / 3 % 3 - 1) (inn (n - 1 - at0 n r i) / 9) (non (n - 1 - at0 n r i)) = 0 ∧
    revealT t n true (list8 (stB n r com inn i)) ((n - 1 - at0 n r i : Nat) : Int) (inn (n - 1 - at0 n r i) % 3 - 1) (inn (n - 1 - at0 n r i) / 3 % 3 - 1) (inn (n - 1 - at0 n r i) / 9) (non (n - 1 - at0 n r i)) = list8 (stB n r com inn (i + 1)) := by
  have hp := at0_lt hr hi
  have hx := ix0_at hr hi
  have hx1 : ix1 n r (n - 1 - at0 n r i) = i := by unfold ix1; rw [show n - 1 - (n - 1 - at0 n r i) = at0 n r i by omega]; exact hx
  have hpn : n - 1 - at0 n r i < n := by omega
  generalize n - 1 - at0 n r i = p at *
  have hg : getS (list8 (stB n r com inn i)) (p : Nat) = ⟨true, false, com p, 4⟩ := by rw [list8_get _ _ (by omega)]; unfold stB; rw [if_pos hpn, if_neg (by omega)]
  obtain ⟨h0, h1⟩ := hin p hpn
  have hE : revealE t n true (list8 (stB n r com inn i)) (p : Nat) (inn p % 3 - 1) (inn p / 3 % 3 - 1) (inn p / 9) (non p) = 0 := by
    unfold revealE
    rw [if_neg (by omega), if_neg (by decide), hg, if_neg (by simp), if_neg (by simp), if_pos (errV_code _ h0 h1), codeOf_code, if_pos (hc p).symm]
  refine ⟨hE, ?_⟩
  unfold revealT
  rw [if_pos hE, show ((p : Int).toNat) = p by omega, hg, codeOf_code]
  refine list8_set _ _ p (by omega) _ ?_ fun q hq hne => ?_
  · unfold stB; rw [if_pos hpn, if_pos (by omega)]
  · unfold stB
    by_cases h : q < n
    · have : ix1 n r q ≠ i := fun e => hne (by
        unfold ix1 at e hx1
        have := ix0_inj hr (show n - 1 - q < n by omega) (show n - 1 - p < n by omega) (by omega)
        omega)
      rw [if_pos h, if_pos h]
      by_cases h2 : ix1 n r q < i
      · rw [if_pos (by omega), if_pos h2]
      · rw [if_neg (by omega), if_neg h2]
    · rw [if_neg h, if_neg h]
/-- all have revealed -/
theorem honest_res (n r : Nat) (com inn : Nat → Int) (hr : r < n) (hn : n ≤ 8) : resL ((list8 (stB n r com inn n)).take n) [] = (List.range n).map inn ∧ faultL ((list8 (stB n r com inn n)).take n) = [] := by
  have hs : (list8 (stB n r com inn n)).take n = (List.range n).map fun q => (⟨true, true, com q, inn q⟩ : St) := by
    unfold list8
    rw [← List.map_take, List.take_range, Nat.min_eq_left hn]
    apply List.map_congr_left
    intro q hq
    have hq := List.mem_range.1 hq
    unfold stB
    rw [if_pos hq, if_pos (show ix1 n r q < n from ix0_lt hr (by omega))]
  rw [hs]
  have h1 : ∀ (l : List Nat) (b : Nat), resFrom (l.map fun q => (⟨true, true, com q, inn q⟩ : St)) [] b = l.map inn := by
    intro l
    induction l with
    | nil => intro b; rfl
    | cons q l ih => intro b; simp only [List.map_cons, resFrom, ih]; rfl
  have h2 : ∀ (l : List Nat) (b : Nat), faultFrom (l.map fun q => (⟨true, true, com q, inn q⟩ : St)) b = [] := by
    intro l
    induction l with
    | nil => intro b; rfl
    | cons q l ih => intro b; simp only [List.map_cons, faultFrom, ih]; rfl
  exact ⟨h1 _ 0, h2 _ 0⟩
theorem rowU64' {w : World} {a : Option Addr} {len cap : Nat} {zs : List Int} (h : IsRow .u64 w a len cap zs) : ∀ z ∈ zs.take len, U64 z := by
  intro z hz
  rcases h with ⟨rfl, rfl, rfl, rfl⟩ | ⟨x, rfl, hl, hm, hzl, hc, hw⟩
  · simp at hz
  · have := wf_u64 (hw z (List.mem_of_mem_take hz))
    unfold U64 MM
    omega
/-- the nonce of player q -/
def nonceOf (ns : List Int) (q : Nat) : Int := if q < ns.length then ns.getD q 0 else q
theorem nonceOf_u64 (ns : List Int) (h : ∀ z ∈ ns, U64 z) (q : Nat) (hq : q < 1000) : U64 (nonceOf ns q) := by
  unfold nonceOf
  split
  · rename_i hl
    rw [List.getD, List.getElem?_eq_getElem hl]
    exact h _ (List.getElem_mem hl)
  · unfold U64 MM; omega

set_option maxRecDepth 100000 in
set_option maxHeartbeats 1000000 in
theorem honest_walk (a0 : Option Addr) (len0 cap0 : Nat) (z0 : List Int) (a1 : Option Addr) (len1 cap1 : Nat) (z1 : List Int) (tick turn : Int) (w : World) (w0 : IsRow .i64 w a0 len0 cap0 z0) (w1 : IsRow .u64 w a1 len1 cap1 z1) (wt : (Lit.int .i64 tick).wf = true) (wu : (Lit.int .i64 turn).wf = true) :
    Calls Try.prog 4 #[.slice a0 len0 cap0, .slice a1 len1 cap1, .int .i64 tick, .int .i64 turn] w fun e w' => e = .returned (.bool true) ∧ Q w w' := by
  obtain ⟨i0, hi, hz0, hz1, hz2⟩ := info_parts infoIn
  have HI := Lib.hid hi
  have S0 := Lib.hid (Sl.of_row w0)
  have R0 := Lib.hid (rowI64' w0)
  have S1 := Lib.hid (Sl.of_row w1)
  have R1 := Lib.hid (rowU64' w1)
  have GT := Lib.hid (wf_i64 wt)
  have GU := Lib.hid (wf_i64 wu)
  clear w0 w1 hi wt wu
  generalize z0.take len0 = zl at *
  generalize z1.take len1 = ns at *
  have HNL := Lib.hid (show ns.length = len1 by have := S1.out.1; simpa using this)
  have hcap1 : len1 ≤ 9223372036854775807 := by have := S1.out.2.1; have := S1.out.2.2.1; unfold maxLen at this; omega
  go_enter Try.func4, Try.ntmps4
  go_wp2_with (fail)
  refine (inputs_any a0 len0 cap0 7 zl _ S0.out R0.out (by omega)).mono ?_
  rintro e w2 ⟨a2, cap2, rfl, hown2, hq2⟩
  have hm7 : min len0 7 ≤ 7 := Nat.min_le_right _ _
  have HCL := Lib.hid (show (codesOf (zl.take 7)).length = min len0 7 by
    have := S0.out.1
    simp at this
    rw [codesOf_len, List.length_take, this, Nat.min_comm])
  have HCC := Lib.hid (codesOf_code (zl.take 7))
  have HO2 := Lib.hid hown2
  have HQ2 := Lib.hid hq2
  have HB2 := Lib.hid hq2.size
  clear hown2 hq2
  generalize codesOf (zl.take 7) = cs0 at *
  generalize min len0 7 = m at *
  go_wp2_with (at_builtin; refine append_one rfl _ _ 32 rfl w.heap.size 25 i0 _ 3 24 Try.underlying32 HI.out hz0 hz1 hz2 rfl (by decide) _ m _ rfl HO2.out 1 _ rfl (inC 5) rfl rfl (by simp [inC, Value.oneCell']) (by omega) (by decide) HB2.out ?_; intro g3 cap3 w3 hown3 hq3)
  have S3 := Lib.hid (show Sl w3 3 (some ⟨g3, 0, none⟩) (m + 1) cap3 (inCells (cs0 ++ [5])) by rw [inCells_snoc]; exact Sl.of_own hown3)
  have HQ3 := Lib.hid (hq3 _ HQ2.out (Nat.le_refl _))
  have hcc : ∀ c ∈ cs0 ++ [5], 0 ≤ c ∧ c < 36 := by
    intro c hc
    rcases List.mem_append.1 hc with h | h
    · exact HCC.out c h
    · rw [List.mem_singleton.1 h]; decide
  have HC := Lib.hid hcc
  have HL := Lib.hid (show (cs0 ++ [5]).length = m + 1 by rw [List.length_append, HCL.out]; rfl)
  clear hown3 hq3 hcc HO2 HQ2 HB2
  generalize cs0 ++ [5] = cs at *
  generalize hn : m + 1 = n at *
  have hn1 : 1 ≤ n := by omega
  have hn8 : n ≤ 8 := by omega
  clear hn hm7 HCL
  refine (around_any tick 6001 _ GT.out (by omega)).mono ?_
  rintro e w4 ⟨rfl, rfl⟩
  have p0 := aroundZ_lo tick 6001 (by omega)
  have p1 := aroundZ_hi tick 6001 (by omega)
  generalize aroundZ tick 6001 = t at *
  have HT := Lib.hid (show -9223372036854775808 ≤ t ∧ t ≤ 9223372036854775807 by omega)
  clear p0 p1
  go_wp2_with (fail)
  refine (crNew_any n t _).mono ?_
  rintro e w4 ⟨rfl, hR, hq4⟩
  have p0 := aroundZ_lo turn n (by omega)
  have p1 := aroundZ_hi turn n (by omega)
  obtain ⟨r, hr⟩ := Int.eq_ofNat_of_zero_le p0
  rw [hr] at p1
  have HRN := Lib.hid (show r < n by omega)
  have HRA := Lib.hid hr
  clear p0 p1 hr
  have HBw := Lib.hid (show w.heap.size ≤ w3.heap.size from HQ3.out.size)
  have HB3 := Lib.hid (Nat.le_refl w3.heap.size)
  have HX : ∀ q : Nat, q < n → U64 (nonceOf ns q) := fun q hq => nonceOf_u64 ns R1.out q (by omega)
  have HNU := Lib.hid HX
  generalize hB : w3.heap.size = B at *
  have HBe := Lib.hid (show w3.heap.size ≤ B by omega)
  generalize hinn : (fun q : Nat => cs.getD q 4) = inn at *
  generalize hnon : (fun q : Nat => nonceOf ns q) = non at *
  have HIN := Lib.hid (show ∀ q, q < n → 0 ≤ inn q ∧ inn q < 36 from fun q hq => by
    rw [← hinn]
    show 0 ≤ cs.getD q 4 ∧ cs.getD q 4 < 36
    rw [List.getD, List.getElem?_eq_getElem (by rw [HL.out]; exact hq)]
    exact HC.out _ (List.getElem_mem _))
  have HINV := Lib.hid (show ∀ q (hq : q < cs.length), cs[q] = inn q from fun q hq => by rw [← hinn]; show cs[q] = cs.getD q 4; rw [List.getD, List.getElem?_eq_getElem hq]; rfl)
  have HCS := Lib.hid (show (List.range n).map inn = cs by
    apply List.ext_getElem?
    intro j
    rw [List.getElem?_map]
    by_cases hj : j < n
    · rw [List.getElem?_range hj, ← hinn]
      simp [List.getD, HL.out, hj]
    · rw [List.getElem?_eq_none (by simpa using hj), List.getElem?_eq_none (by rw [HL.out]; omega)]; rfl)
  have HNON := Lib.hid (show ∀ q, non q = nonceOf ns q from fun q => by rw [← hnon])
  have HNV := Lib.hid (show ∀ q, q < n → U64 (non q) from fun q hq => by rw [← hnon]; exact HNU.out q hq)
  clear hinn hnon HX HNU
  generalize hcom : (fun q : Nat => comZ q t (inn q) (non q)) = com at *
  have HCOM := Lib.hid (show ∀ q, com q = comZ q t (inn q) (non q) from fun q => by rw [← hcom])
  have HCU := Lib.hid (show ∀ q, U64 (com q) from fun q => by rw [← hcom]; exact comZ_u64 _ _ _ _)
  have HQ4 := Lib.hid hq4
  have HR4 := Lib.hid (show Rd w4 B t n false (list8 (stA n r com 0)) by rw [stTryzero]; exact hR)
  clear hcom hR hq4
  go_wp2_with (fail)
  go_loopw [13] (fun v wr => ∃ ph : Int, 0 ≤ ph ∧ ph ≤ 2 ∧ v = .int .i64 ph ∧ Q w3 wr ∧ Rd wr B t n (decide (ph ≠ 0)) (list8 (if ph = 0 then stA n r com 0 else if ph = 1 then stB n r com inn 0 else stB n r com inn n))) (fun v _ => 2 - (intOf v).toNat)
  case atStart => exact ⟨0, by omega, by omega, rfl, HQ4.out, HR4.out⟩
  case round =>
    obtain ⟨ph, hph0, hph, rfl, hq, hR⟩ := hrel
    have HQr := Lib.hid hq
    clear HQ4 HR4
    rcases (show ph = 0 ∨ ph = 1 ∨ ph = 2 by omega) with rfl | rfl | rfl
    · have HRr := Lib.hid (show Rd wr B t n false (list8 (stA n r com 0)) from hR)
      clear hR hq
      go_wp2_with (fail)
      go_loopw [14] (fun v wr => ∃ i : Nat, i ≤ n ∧ v = .int .i64 i ∧ Q w3 wr ∧ Rd wr B t n false (list8 (stA n r com i))) (fun v _ => n - (intOf v).toNat)
      case atStart => exact ⟨0, by omega, rfl, HQr.out, HRr.out⟩
      case round =>
        obtain ⟨i, hin, rfl, hq, hR⟩ := hrel
        have HQi := Lib.hid hq
        have HRi := Lib.hid hR
        clear hq hR
        by_cases hi : i < n
        · have hi' : (i : Int) < n := by omega
          have hpl := at0_lt HRN.out hi
          have hpe : ((i : Int) + r) % n = (at0 n r i : Nat) := by unfold at0; rw [Int.natCast_emod, Int.natCast_add]
          have hpt : ((i : Int) + r).tmod n = (at0 n r i : Nat) := by rw [Int.tmod_eq_emod_of_nonneg (by omega)]; exact hpe
          have hrn := HRN.out
          have HON := Lib.hid (honest_commit n r i com HRN.out hi hn8)
          generalize at0 n r i = p at *
          have hpn : p < n := hpl
          have HPN := Lib.hid hpn
          have s0 := (S3.out.q HQi.out).at0 (by omega) (p * 3) _ (inCells_get cs p (by rw [HL.out]; exact hpn)).1
          have s1 := (S3.out.q HQi.out).at0 (by omega) (p * 3 + 1) _ (inCells_get cs p (by rw [HL.out]; exact hpn)).2.1
          have s2 := (S3.out.q HQi.out).at0 (by omega) (p * 3 + 2) _ (inCells_get cs p (by rw [HL.out]; exact hpn)).2.2
          rw [HINV.out p (by rw [HL.out]; exact hpn)] at s0 s1 s2
          by_cases hpl1 : p < len1
          · have hpl1' : (p : Int) < len1 := by omega
            obtain ⟨g1, o1, rfl, hg1, hc1⟩ := (S1.out.q (HQ3.out.trans HQi.out)).pos (by omega)
            have hzn : p < ns.length := by rw [HNL.out]; exact hpl1
            have c1 : wr.cell? ⟨g1, o1 + p, none⟩ = some (.int .u64 (non p)) := by
              rw [HNON.out p]
              unfold nonceOf
              rw [if_pos hzn, List.getD, List.getElem?_eq_getElem hzn]
              exact hc1 _ _ (by simp [hzn])
            clear hc1 hzn hg1
            go_wp2_with (fail)
            refine (around_any turn n _ GU.out (by omega)).mono ?_
            rintro e w5 ⟨rfl, rfl⟩
            rw [HRA.out]
            go_wp2_with (fail)
            refine (crCommitment_any p t (inn p) (non p) _ (by omega) HT.out (HIN.out p HPN.out) (HNV.out p HPN.out)).mono ?_
            rintro e w6 ⟨rfl, hq6⟩
            rw [← HCOM.out p]
            have HQ6 := Lib.hid (HQi.out.trans hq6)
            have HR6 := Lib.hid (Box.q HRi.out hq6)
            clear hq6 HQi HRi s0 s1 s2
            go_wp2_with (fail)
            refine (crCommit_any B t n p (com p) false _ _ HR6.out (list8_len _) (by omega) (stTrysane n r com i HCU.out)).mono ?_
            rintro e w7 ⟨rfl, hR7, hX7⟩
            rw [HON.out.1]
            rw [HON.out.2] at hR7
            have HQ7 := Lib.hid (HQ6.out.qx hX7 HBe.out)
            have HR7 := Lib.hid hR7
            clear hR7 hX7
            go_wp2_with (fail)
            go_roundw
            case rel => exact ⟨i + 1, by omega, by go_num, HQ7.out, HR7.out⟩
            case measure => simp [intOf]; omega
          · have hpl1' : ¬ (p : Int) < len1 := by omega
            have HNP := Lib.hid (show non p = p by rw [HNON.out p]; unfold nonceOf; rw [if_neg (by rw [HNL.out]; exact hpl1)])
            go_wp2_with (fail)
            refine (around_any turn n _ GU.out (by omega)).mono ?_
            rintro e w5 ⟨rfl, rfl⟩
            rw [HRA.out]
            go_wp2_with (fail)
            refine (crCommitment_any p t (inn p) p _ (by omega) HT.out (HIN.out p HPN.out) (by have := HNV.out p HPN.out; rwa [HNP.out] at this)).mono ?_
            rintro e w6 ⟨rfl, hq6⟩
            rw [show comZ p t (inn p) p = com p by rw [HCOM.out p, HNP.out]]
            have HQ6 := Lib.hid (HQi.out.trans hq6)
            have HR6 := Lib.hid (Box.q HRi.out hq6)
            clear hq6 HQi HRi s0 s1 s2
            go_wp2_with (fail)
            refine (crCommit_any B t n p (com p) false _ _ HR6.out (list8_len _) (by omega) (stTrysane n r com i HCU.out)).mono ?_
            rintro e w7 ⟨rfl, hR7, hX7⟩
            rw [HON.out.1]
            rw [HON.out.2] at hR7
            have HQ7 := Lib.hid (HQ6.out.qx hX7 HBe.out)
            have HR7 := Lib.hid hR7
            clear hR7 hX7
            go_wp2_with (fail)
            go_roundw
            case rel => exact ⟨i + 1, by omega, by go_num, HQ7.out, HR7.out⟩
            case measure => simp [intOf]; omega
        · have hi' : ¬ (i : Int) < n := by omega
          have HIN2 := Lib.hid (show i = n by omega)
          go_wp2_with (fail)
          refine (crClose_any B t n false _ _ HRi.out).mono ?_
          rintro e w5 ⟨⟨v5, rfl⟩, hR5, hX5⟩
          have HQ5 := Lib.hid (HQi.out.qx hX5 HBe.out)
          have HR5 := Lib.hid hR5
          clear hR5 hX5
          go_wp2_with (fail)
          go_roundw
          case rel => exact ⟨1, by omega, by omega, by go_num, HQ5.out, by have h := HR5.out; rw [HIN2.out, stTryall n r com inn HRN.out] at h; exact h⟩
          case measure => simp [intOf]
    · have HRr := Lib.hid (show Rd wr B t n true (list8 (stB n r com inn 0)) from hR)
      clear hR hq
      go_wp2_with (fail)
      go_loopw [14] (fun v wr => ∃ i : Nat, i ≤ n ∧ v = .int .i64 i ∧ Q w3 wr ∧ Rd wr B t n true (list8 (stB n r com inn i))) (fun v _ => n - (intOf v).toNat)
      case atStart => exact ⟨0, by omega, rfl, HQr.out, HRr.out⟩
      case round =>
        obtain ⟨i, hin, rfl, hq, hR⟩ := hrel
        have HQi := Lib.hid hq
        have HRi := Lib.hid hR
        clear hq hR
        by_cases hi : i < n
        · have hi' : (i : Int) < n := by omega
          have hpl := at0_lt HRN.out hi
          have hpe : ((i : Int) + r) % n = (at0 n r i : Nat) := by unfold at0; rw [Int.natCast_emod, Int.natCast_add]
          have hpt : ((i : Int) + r).tmod n = (at0 n r i : Nat) := by rw [Int.tmod_eq_emod_of_nonneg (by omega)]; exact hpe
          have hrn := HRN.out
          have HON := Lib.hid (honest_reveal t n r i com inn non HRN.out hi hn8 HCOM.out HIN.out)
          generalize at0 n r i = p0 at *
          have hpn : n - 1 - p0 < n := by omega
          have hpz : (n : Int) - 1 - p0 = ((n - 1 - p0 : Nat) : Int) := by omega
          generalize n - 1 - p0 = p at *
          have HPN := Lib.hid hpn
          have s0 := (S3.out.q HQi.out).at0 (by omega) (p * 3) _ (inCells_get cs p (by rw [HL.out]; exact hpn)).1
          have s1 := (S3.out.q HQi.out).at0 (by omega) (p * 3 + 1) _ (inCells_get cs p (by rw [HL.out]; exact hpn)).2.1
          have s2 := (S3.out.q HQi.out).at0 (by omega) (p * 3 + 2) _ (inCells_get cs p (by rw [HL.out]; exact hpn)).2.2
          rw [HINV.out p (by rw [HL.out]; exact hpn)] at s0 s1 s2
          by_cases hpl1 : p < len1
          · have hpl1' : (p : Int) < len1 := by omega
            obtain ⟨g1, o1, rfl, hg1, hc1⟩ := (S1.out.q (HQ3.out.trans HQi.out)).pos (by omega)
            have hzn : p < ns.length := by rw [HNL.out]; exact hpl1
            have c1 : wr.cell? ⟨g1, o1 + p, none⟩ = some (.int .u64 (non p)) := by
              rw [HNON.out p]
              unfold nonceOf
              rw [if_pos hzn, List.getD, List.getElem?_eq_getElem hzn]
              exact hc1 _ _ (by simp [hzn])
            clear hc1 hzn hg1
            go_wp2_with (fail)
            refine (around_any turn n _ GU.out (by omega)).mono ?_
            rintro e w5 ⟨rfl, rfl⟩
            rw [HRA.out]
            go_wp2_with (fail)
            refine (around_any turn n _ GU.out (by omega)).mono ?_
            rintro e w5 ⟨rfl, rfl⟩
            rw [HRA.out]
            go_wp2_with (fail)
            refine (crReveal_any B t n p _ _ _ (non p) true _ _ HRi.out (list8_len _) (by omega) (stB_sane n r com inn i HCU.out HIN.out) (HNV.out p HPN.out) HT.out).mono ?_
            rintro e w7 ⟨rfl, hR7, hX7⟩
            rw [HON.out.1]
            rw [HON.out.2] at hR7
            have HQ7 := Lib.hid (HQi.out.qx hX7 HBe.out)
            have HR7 := Lib.hid hR7
            clear hR7 hX7
            go_wp2_with (fail)
            go_roundw
            case rel => exact ⟨i + 1, by omega, by go_num, HQ7.out, HR7.out⟩
            case measure => simp [intOf]; omega
          · have hpl1' : ¬ (p : Int) < len1 := by omega
            have HNP := Lib.hid (show non p = p by rw [HNON.out p]; unfold nonceOf; rw [if_neg (by rw [HNL.out]; exact hpl1)])
            have hon := HON.out
            rw [HNP.out] at hon
            have HON2 := Lib.hid hon
            clear hon
            go_wp2_with (fail)
            refine (around_any turn n _ GU.out (by omega)).mono ?_
            rintro e w5 ⟨rfl, rfl⟩
            rw [HRA.out]
            go_wp2_with (fail)
            refine (around_any turn n _ GU.out (by omega)).mono ?_
            rintro e w5 ⟨rfl, rfl⟩
            rw [HRA.out]
            go_wp2_with (fail)
            refine (crReveal_any B t n p _ _ _ p true _ _ HRi.out (list8_len _) (by omega) (stB_sane n r com inn i HCU.out HIN.out) (by have := HNV.out p HPN.out; rwa [HNP.out] at this) HT.out).mono ?_
            rintro e w7 ⟨rfl, hR7, hX7⟩
            rw [HON2.out.1]
            rw [HON2.out.2] at hR7
            have HQ7 := Lib.hid (HQi.out.qx hX7 HBe.out)
            have HR7 := Lib.hid hR7
            clear hR7 hX7
            go_wp2_with (fail)
            go_roundw
            case rel => exact ⟨i + 1, by omega, by go_num, HQ7.out, HR7.out⟩
            case measure => simp [intOf]; omega
        · have hi' : ¬ (i : Int) < n := by omega
          have HIN2 := Lib.hid (show i = n by omega)
          go_wp2_with (fail)
          refine (crClose_any B t n true _ _ HRi.out).mono ?_
          rintro e w5 ⟨⟨v5, rfl⟩, hR5, hX5⟩
          have HQ5 := Lib.hid (HQi.out.qx hX5 HBe.out)
          have HR5 := Lib.hid hR5
          clear hR5 hX5
          go_wp2_with (fail)
          go_roundw
          case rel => exact ⟨2, by omega, by omega, by go_num, HQ5.out, by have h := HR5.out; rw [HIN2.out] at h; exact h⟩
          case measure => simp [intOf]
    · have HRr := Lib.hid (show Rd wr B t n true (list8 (stB n r com inn n)) from hR)
      clear hR hq
      go_wp2_with (fail)
      refine (crResult_any B t n true _ none 0 0 [] _ HRr.out (list8_len _) (by omega) ⟨rfl, Nat.le_refl _, by decide, fun _ => rfl, .inl rfl⟩ (by simp)).mono ?_
      rintro e w5 ⟨b1, c1, b2, c2, rfl, o1, o2, hq5⟩
      obtain ⟨r1, f1⟩ := honest_res n r com inn HRN.out hn8
      rw [r1, HCS.out] at o1 ⊢
      rw [f1] at o2 ⊢
      rw [HL.out] at o1 ⊢
      have X1 := Lib.hid (Sl.of_own o1)
      have HQ5 := Lib.hid (HQr.out.trans hq5)
      clear o1 o2 hq5 r1 f1 HRr HQr
      go_wp2_with (fail)
      refine (equal_any _ _ n n _ _ cs cs _ X1.out (S3.out.q HQ5.out) HC.out HC.out).mono ?_
      rintro e w6 ⟨rfl, hq6⟩
      rw [show eqB cs cs = true by simp [eqB]]
      have HQ6 := Lib.hid (HQ5.out.trans hq6)
      clear hq6
      go_wp2_with (fail)
      refine (lives31_any _).mono ?_
      rintro e w7 ⟨rfl, hq7⟩
      have HQ7 := Lib.hid (HQ3.out.trans (HQ6.out.trans hq7))
      clear hq7
      go_wp2
      go_ret
      exact ⟨rfl, HQ7.out⟩
end Go.Proofs.Ytcpicifnadoeoaa
