/- Contracts: Has; the reference's Wrong, and that NewPartial refuses what it refuses. -/
import Derived.Test.YtcgnihgebifcjaaMkAA
namespace Go.Proofs.Ytcgnihgebifcjaa
open Go Go.RowKit Go.BigFrame

def hasL (xs : List Int) (z : Int) : Bool := xs.contains z
theorem has_any (a : Option Addr) (n cap : Nat) (xs : List Int) (z : Int) (w : World) (hs : Sl w 1 a n cap (xs.map (Value.int .i64))) :
    Calls Try.prog 30 #[.slice a n cap, .int .i64 z] w fun e w' => e = .returned (.bool (hasL xs z)) ∧ Q w w' := by
  have hlx : xs.length = n := by have := hs.1; simpa using this
  have hc1 : n ≤ maxLen := Nat.le_trans hs.2.1 hs.2.2.1
  unfold maxLen at hc1
  have HS := Lib.hid hs
  have HX := Lib.hid hlx
  clear hs hlx
  go_enter Try.func30, Try.ntmps30
  go_wp2_with (fail)
  go_loopw [5] (fun i wr => ∃ (k : Nat), k ≤ n ∧ i = .int .i64 k ∧ Q w wr ∧ hasL xs z = hasL (xs.drop k) z) (fun i _ => n - (intOf i).toNat)
  case atStart => exact ⟨0, by omega, rfl, Q.refl _, by simp⟩
  case round =>
    obtain ⟨k, hkn, rfl, hq, heq⟩ := hrel
    have HE := Lib.hid heq
    clear heq
    by_cases h1 : k < n
    · have hzx : k < xs.length := by rw [HX.out]; exact h1
      obtain ⟨g, o, rfl, hg, hc⟩ := (HS.out.q hq).pos (by omega)
      have c0 : wr.cell? ⟨g, o + k, none⟩ = some (.int .i64 xs[k]) := hc _ _ (by simp [hzx])
      have hd : xs.drop k = xs[k] :: xs.drop (k + 1) := List.drop_eq_getElem_cons hzx
      have HN := Lib.hid (show hasL xs z = (z == xs[k] || hasL (xs.drop (k + 1)) z) by rw [HE.out]; unfold hasL; rw [hd, List.contains_cons])
      generalize xs[k] = x at *
      have HQ := Lib.hid hq
      clear hc hd hzx hq
      by_cases hxy : x = z
      · have hb : (x == z) = true := by simpa using hxy
        have HT := Lib.hid (show hasL xs z = true by rw [HN.out]; simp [hxy])
        clear hxy
        go_wp2
        go_ret
        rw [HT.out]
        exact ⟨rfl, HQ.out⟩
      · have hb : (x == z) = false := by simpa using hxy
        have HT := Lib.hid (show hasL xs z = hasL (xs.drop (k + 1)) z by rw [HN.out]; simp; intro e; exact absurd e.symm hxy)
        clear hxy
        go_wp2_with (fail)
        go_roundw
        case rel => exact ⟨k + 1, by omega, by go_num, HQ.out, HT.out⟩
        case measure => simp [intOf]; omega
    · have HT := Lib.hid (show hasL xs z = false by rw [HE.out, List.drop_of_length_le (by rw [HX.out]; omega)]; rfl)
      go_wp2
      go_ret
      rw [HT.out]
      exact ⟨rfl, hq⟩

def clash (x y : LF) : Bool := (y.i == x.i) && (y.v != x.v)
def wrongF (root : Int) (n : Nat) : List LF → List LF → Bool
  | _, [] => false
  | pre, x :: xs => !verZ root n x.i x.v x.p || pre.any (clash x) || wrongF root n (pre ++ [x]) xs
def wrongE (b : Bool) : Int := if b then 22 else 0
/-- what the map of cells says of the leaves that were taken up -/
structure Told (pre : List LF) (cm : Int → Option Int) : Prop where
  all : ∀ y ∈ pre, cm y.i = some y.v
  only : ∀ i v, cm i = some v → ∃ y ∈ pre, y.i = i
theorem told_nil : Told [] (fun _ => none) := ⟨fun y hy => (by cases hy), fun i v h => (by cases h)⟩
theorem told_bad {root : Int} {n : Nat} {pre : List LF} {s : PS} (h : Told pre s.cm) (x : LF) : badP root n s x = (!verZ root n x.i x.v x.p || pre.any (clash x)) := by
  unfold badP
  congr 1
  cases hc : s.cm x.i with
  | none =>
    symm
    rw [Option.isSome_none, Bool.false_and, List.any_eq_false]
    intro y hy
    have := h.all y hy
    unfold clash
    by_cases e : y.i = x.i
    · rw [e, hc] at this; cases this
    · simp [e]
  | some u =>
    rw [Option.isSome_some, Bool.true_and, Option.getD_some]
    by_cases e : u = x.v
    · have h1 : (u != x.v) = false := by simp [e]
      rw [h1]
      symm
      rw [List.any_eq_false]
      intro y hy
      unfold clash
      by_cases e2 : y.i = x.i
      · have := h.all y hy
        rw [e2, hc] at this
        cases this
        simp [e]
      · simp [e2]
    · have h1 : (u != x.v) = true := by simp [e]
      rw [h1]
      symm
      rw [List.any_eq_true]
      obtain ⟨y, hy, e2⟩ := h.only _ _ hc
      refine ⟨y, hy, ?_⟩
      have := h.all y hy
      rw [e2, hc] at this
      cases this
      unfold clash
      simp [e2, e]
theorem told_add {root : Int} {n : Nat} {pre : List LF} {s : PS} (h : Told pre s.cm) (x : LF) (hb : badP root n s x = false) : Told (pre ++ [x]) (addP s x).cm := by
  have hc : ∀ y ∈ pre, y.i = x.i → y.v = x.v := by
    intro y hy e
    rw [told_bad h] at hb
    have : (pre.any (clash x)) = false := by
      cases hp : pre.any (clash x) with
      | false => rfl
      | true => rw [hp, Bool.or_true] at hb; cases hb
    rw [List.any_eq_false] at this
    have h2 := this y hy
    unfold clash at h2
    simp [e] at h2
    exact h2
  constructor
  · intro y hy
    show (if y.i = x.i then some x.v else s.cm y.i) = some y.v
    rcases List.mem_append.1 hy with h' | h'
    · by_cases e : y.i = x.i
      · rw [if_pos e, hc y h' e]
      · rw [if_neg e]; exact h.all y h'
    · rw [List.mem_singleton.1 h', if_pos rfl]
  · intro i v hv
    replace hv : (if i = x.i then some x.v else s.cm i) = some v := hv
    split at hv
    · rename_i e; exact ⟨x, List.mem_append_right _ (List.mem_singleton.2 rfl), e.symm⟩
    · obtain ⟨y, hy, e⟩ := h.only i v hv
      exact ⟨y, List.mem_append_left _ hy, e⟩
theorem np1_wrong {root : Int} {n : Nat} : ∀ (L : List LF) (pre : List LF) (s : PS), Told pre s.cm → (np1 root n s L).isNone = wrongF root n pre L
  | [], _, _, _ => rfl
  | x :: L, pre, s, h => by
    unfold np1 wrongF
    cases hb : badP root n s x with
    | true =>
      rw [if_pos rfl]
      rw [told_bad h] at hb
      rw [hb]
      rfl
    | false =>
      have hb2 := hb
      rw [told_bad h] at hb2
      rw [hb2, Bool.false_or]
      exact np1_wrong L _ _ (told_add h x hb)
theorem npZ_wrong (root : Int) (n : Nat) (L : List LF) : (npZ root n L).isNone = wrongF root n [] L := by
  have := np1_wrong (root := root) (n := n) L [] (ps0 root) told_nil
  unfold npZ
  rw [← this]
  cases np1 root n (ps0 root) L <;> rfl
theorem npZ_told {root : Int} {n : Nat} : ∀ (L pre : List LF) (s s' : PS), Told pre s.cm → np1 root n s L = some s' → Told (pre ++ L) s'.cm
  | [], pre, s, s', h, e => by
    rw [List.append_nil]
    cases e
    exact h
  | x :: L, pre, s, s', h, e => by
    unfold np1 at e
    cases hb : badP root n s x with
    | true => rw [hb] at e; cases e
    | false =>
      rw [hb] at e
      have := npZ_told L _ _ _ (told_add h x hb) e
      rw [List.append_assoc] at this
      exact this
set_option maxRecDepth 100000 in
set_option maxHeartbeats 2000000 in
theorem rWrong_any (root : Int) (n : Nat) (a : Option Addr) (c cap : Nat) (L : List LF) (w : World) (hL : LfsAt w a c cap L) (hn : n ≤ 1000) (hc : c ≤ 100) :
    Calls Try.prog 27 #[.int .u64 root, .int .i64 n, .slice a c cap] w fun e w' => e = .returned (.int .i64 (wrongE (wrongF root n [] L))) ∧ Q w w' := by
  have HL := Lib.hid hL
  have HLL := Lib.hid hL.len
  clear hL
  go_enter Try.func27, Try.ntmps27
  go_wp2_with (fail)
  go_loopw [7] (fun iv wr => ∃ i : Nat, i ≤ c ∧ iv = .int .i64 i ∧ wrongF root n [] L = wrongF root n (L.take i) (L.drop i) ∧ Q w wr) (fun iv _ => c - (intOf iv).toNat)
  case atStart => exact ⟨0, by omega, rfl, by simp, Q.refl _⟩
  case round =>
    obtain ⟨i, hi, rfl, hw, hq⟩ := hrel
    have HW := Lib.hid hw
    have HQ := Lib.hid hq
    clear hw hq
    by_cases hic : i < c
    · have hii : (i : Int) < (c : Int) := by omega
      have hil : i < L.length := by rw [HLL.out]; exact hic
      obtain ⟨g, o, rfl, hg, c0, c1, c2⟩ := (HL.out.q HQ.out).at i hil
      have HX := Lib.hid (HL.out.pr _ (List.getElem_mem hil))
      have HWX := Lib.hid (show wrongF root n [] L = (!verZ root n L[i].i L[i].v L[i].p || (L.take i).any (clash L[i]) || wrongF root n (L.take (i + 1)) (L.drop (i + 1))) by
        rw [HW.out, List.drop_eq_getElem_cons hil, take_snoc_get L i hil]; rfl)
      generalize hxx : L[i] = x at *
      have HXI := Lib.hid hxx
      clear hxx hg
      go_wp2_with (fail)
      refine (rVerify_any root n x.i x.v x.a x.m x.c x.p _ (by omega) HX.out.2.1 HX.out.2.2 ((HX.out.1).q HQ.out)).mono ?_
      rintro e w4 ⟨rfl, hq4⟩
      have HQ4 := Lib.hid (HQ.out.trans hq4)
      clear hq4 c0 c1 c2
      cases hv : verZ root n x.i x.v x.p with
      | false =>
        have HR := Lib.hid (show wrongF root n [] L = true by rw [HWX.out, hv]; rfl)
        clear hv
        go_wp2
        go_ret
        rw [HR.out]
        exact ⟨rfl, HQ4.out⟩
      | true =>
        rw [hv] at HWX
        clear hv
        go_wp2_with (fail)
        go_loopw [9] (fun kv wr2 => ∃ k : Nat, k ≤ i ∧ kv = .int .i64 k ∧ (L.take i).any (clash x) = ((L.take i).drop k).any (clash x) ∧ Q w wr2) (fun kv _ => i - (intOf kv).toNat)
        case atStart => exact ⟨0, by omega, rfl, by simp, HQ4.out⟩
        case round =>
          obtain ⟨k, hk, rfl, hany, hq⟩ := hrel
          have HA := Lib.hid hany
          have HQ5 := Lib.hid hq
          clear hany hq
          by_cases hki : k < i
          · have hkii : (k : Int) < (i : Int) := by omega
            have hkl : k < L.length := by omega
            have hkt : k < (L.take i).length := by rw [List.length_take]; omega
            have HAX := Lib.hid (show (L.take i).any (clash x) = (clash x L[k] || ((L.take i).drop (k + 1)).any (clash x)) by
              rw [HA.out, List.drop_eq_getElem_cons hkt, List.any_cons, List.getElem_take])
            have hkc : (k : Int) < (c : Int) := by omega
            go_upto_region 10 with (fail)
            refine wp_region_mix [(0, true), (1, true), (2, true), (3, true), (4, true), (5, true), (6, true), (7, true), (8, true), (9, true), (10, true), (11, true), (12, true), (13, true), (14, true), (15, true), (16, true), (17, true), (18, true), (19, true), (20, true), (21, true), (22, true), (23, true)] (by kernel_rfl) (by kernel_rfl) (fun _ _ _ _ _ h => h) ?_
            have HQ6 := Lib.hid (HQ5.out.drew)
            generalize wr.drew = w6 at *
            have y0 : ∀ y : After w6, y.w.cell? ⟨g, o + k * 3, none⟩ = some (.int .i64 L[k].i) ∧ y.w.cell? ⟨g, o + k * 3 + 1, none⟩ = some (.int .i64 L[k].v) := fun y => by
              obtain ⟨g', o', he, _, d0, d1, _⟩ := (HL.out.q (HQ6.out.trans y.q)).at k hkl
              cases he
              exact ⟨d0, d1⟩
            have y1 : ∀ y : After w6, y.w.cell? ⟨g, o + i * 3, none⟩ = some (.int .i64 x.i) ∧ y.w.cell? ⟨g, o + i * 3 + 1, none⟩ = some (.int .i64 x.v) := fun y => by
              obtain ⟨g', o', he, _, d0, d1, _⟩ := (HL.out.q (HQ6.out.trans y.q)).at i hil
              cases he
              rw [HXI.out] at d0 d1
              exact ⟨d0, d1⟩
            have y00 := fun y => (y0 y).1
            have y01 := fun y => (y0 y).2
            have y10 := fun y => (y1 y).1
            have y11 := fun y => (y1 y).2
            clear y0 y1
            have HCL := Lib.hid (show clash x L[k] = ((L[k].i == x.i) && (L[k].v != x.v)) from rfl)
            generalize L[k].i = ki at *
            generalize L[k].v = kv at *
            cases he : (ki == x.i) with
            | false =>
              have HC := Lib.hid (show clash x L[k] = false by rw [HCL.out, he]; rfl)
              repeat (refine mix_val rfl rfl ?_; go_big_quiet_step (fail); refine wpQuiet_nil ?_)
              clear y00 y01 y10 y11 he
              refine mix_end ?_
              go_wp2_with (fail)
              go_roundw
              case rel => exact ⟨k + 1, by omega, by go_num, by rw [HAX.out, HC.out, Bool.false_or], HQ6.out⟩
              case measure => simp [intOf]; omega
            | true =>
              cases he2 : (kv != x.v) with
              | false =>
                have HC := Lib.hid (show clash x L[k] = false by rw [HCL.out, he, he2]; rfl)
                repeat (refine mix_val rfl rfl ?_; go_big_quiet_step (fail); refine wpQuiet_nil ?_)
                clear y00 y01 y10 y11 he he2
                refine mix_end ?_
                go_wp2_with (fail)
                go_roundw
                case rel => exact ⟨k + 1, by omega, by go_num, by rw [HAX.out, HC.out, Bool.false_or], HQ6.out⟩
                case measure => simp [intOf]; omega
              | true =>
                have HC := Lib.hid (show clash x L[k] = true by rw [HCL.out, he, he2]; rfl)
                have HR := Lib.hid (show wrongF root n [] L = true by rw [HWX.out, HAX.out, HC.out]; simp)
                repeat (refine mix_val rfl rfl ?_; go_big_quiet_step (fail); refine wpQuiet_nil ?_)
                clear y00 y01 y10 y11 he he2
                refine mix_end ?_
                go_wp2
                go_ret
                rw [HR.out]
                exact ⟨rfl, HQ6.out⟩
          · have hke : k = i := by omega
            subst hke
            have hkk : ¬ (k : Int) < (k : Int) := by omega
            have HR := Lib.hid (show wrongF root n [] L = wrongF root n (L.take (k + 1)) (L.drop (k + 1)) by
              rw [HWX.out, HA.out, List.drop_of_length_le (by rw [List.length_take]; omega)]
              rfl)
            go_wp2_with (fail)
            go_roundw
            case rel => exact ⟨k + 1, by omega, by go_num, HR.out, HQ5.out⟩
            case measure => simp [intOf]; omega
    · have hie : i = c := by omega
      subst hie
      have hkk : ¬ (i : Int) < (i : Int) := by omega
      have HR := Lib.hid (show wrongF root n [] L = false by rw [HW.out, List.drop_of_length_le (by rw [HLL.out]; exact Nat.le_refl _)]; rfl)
      go_wp2
      go_ret
      rw [HR.out]
      exact ⟨rfl, HQ.out⟩
end Go.Proofs.Ytcgnihgebifcjaa
