/- A tree in memory with its colours; contracts: New once more, Root. -/
import Derived.Test.YtcgnihgebifcjaaMkN
namespace Go.Proofs.Ytcgnihgebifcjaa
open Go Go.RowKit Go.BigFrame

/-- a tree; colour 1: its struct, 2: the row of its levels, 3: its cells, 4 + l: level l -/
structure TreeAt (w : World) (TB : Nat) (col : Nat → Nat) (cells : List Int) (F : Nat → Nat → Int) : Prop where
  ex : ∃ (CB : Nat) (ca : Option Addr) (cc VB vc : Nat) (B lc : Nat → Nat), Box w TB [.slice ca cells.length cc, .slice (some ⟨VB, 0, none⟩) (hgt cells.length + 1) vc] ∧
    (cells.length ≤ cc ∧ cc ≤ maxLen ∧ hgt cells.length + 1 ≤ vc ∧ vc ≤ maxLen) ∧ (0 < cells.length → ca = some ⟨CB, 0, none⟩ ∧ col CB = 3 ∧ Box w CB (cells.map (Value.int .i64))) ∧
    col VB = 2 ∧ Box w VB ((List.range (hgt cells.length + 1)).map (lvS (hgt cells.length) B lc)) ∧
    ∀ j, j ≤ hgt cells.length → Box w (B j) (rowF F (hgt cells.length) j) ∧ P2 (hgt cells.length - j) ≤ lc j ∧ lc j ≤ maxLen ∧ col (B j) = 4 + j
  c1 : col TB = 1
  new0 : ∀ b, w.heap.size ≤ b → col b = 0
  ok : I64s cells
  small : cells.length ≤ 1000
theorem TreeAt.qf {w w' : World} {G : Nat → Prop} {TB : Nat} {col : Nat → Nat} {cells : List Int} {F : Nat → Nat → Int} (h : TreeAt w TB col cells F) (q : QF G w w') (hG : ∀ b, G b → col b = 0) : TreeAt w' TB col cells F := by
  obtain ⟨⟨CB, ca, cc, VB, vc, B, lc, h1, h2, h3, h4, h5, h6⟩, c1, n0, ok, sm⟩ := h
  refine ⟨⟨CB, ca, cc, VB, vc, B, lc, h1.qf q (fun e => by rw [hG _ e] at c1; cases c1), h2, fun h0 => ?_, h4, h5.qf q (fun e => by rw [hG _ e] at h4; cases h4), fun j hj => ?_⟩, c1, fun b hb => n0 b (Nat.le_trans q.size hb), ok, sm⟩
  · obtain ⟨k1, k2, k3⟩ := h3 h0
    exact ⟨k1, k2, k3.qf q (fun e => by rw [hG _ e] at k2; cases k2)⟩
  · obtain ⟨k1, k2, k3, k4⟩ := h6 j hj
    exact ⟨k1.qf q (fun e => by rw [hG _ e] at k4; omega), k2, k3, k4⟩
theorem TreeAt.q {w w' : World} {TB : Nat} {col : Nat → Nat} {cells : List Int} {F : Nat → Nat → Int} (h : TreeAt w TB col cells F) (q : Q w w') : TreeAt w' TB col cells F :=
  h.qf (F := F) (G := fun _ => False) (QF.of q) (fun _ e => e.elim)
/-- what New leaves -/
def TreeRet (w : World) (cells : List Int) (e : Ending) (w' : World) : Prop :=
  Q w w' ∧ ∃ TB col, e = .returned (.pointer (some ⟨TB, 0, none⟩)) ∧ TreeAt w' TB col cells (nodeZ cells) ∧ ∀ b, col b ≠ 0 → w.heap.size ≤ b
theorem find_lvl {B : Nat → Nat} {c : Nat} (hinj : ∀ i j, i < j → j < c → B i < B j) {j : Nat} (hj : j < c) : (List.range c).find? (fun i => B i == B j) = some j := by
  rw [List.find?_eq_some_iff_getElem]
  refine ⟨by simp, j, by simpa using hj, by simp, fun i hi => ?_⟩
  have := hinj i j hi hj
  simp
  omega
theorem mTree_any (a : Option Addr) (n cap : Nat) (cells : List Int) (w : World) (hs : Sl w 1 a n cap (cells.map (Value.int .i64))) (hc : I64s cells) (hn : n ≤ 1000) :
    Calls Try.prog 19 #[.slice a n cap] w (TreeRet w cells) := by
  have hlen : cells.length = n := by have := hs.1; simpa using this
  subst hlen
  refine (mNew_any a _ cap cells w hs hc hn).mono ?_
  rintro e w' ⟨hq, TB, CB, ca, cc, va, vc, B, lc, he, hN, hTB, hCB, hcc1, hcc2⟩
  obtain ⟨VB, hva, hv1, hv2⟩ := own_addr1 hN.row (Nat.succ_pos _)
  subst hva
  have hsl := Sl.of_own hN.row
  have hlt : ∀ j, j < hgt cells.length + 1 → B j < w'.heap.size := fun j hj => (hN.lev j hj).1.1
  refine ⟨hq, TB, fun b => if b = TB then 1 else if b = VB then 2 else if 0 < cells.length ∧ b = CB then 3 else match (List.range (hgt cells.length + 1)).find? (fun i => B i == b) with | some j => 4 + j | none => 0, he, ⟨⟨CB, ca, cc, VB, vc, B, lc, hN.box, ⟨hcc1, hcc2, hsl.2.1, hsl.2.2.1⟩, fun h0 => ?_, ?_, box_own hN.row, fun j hj => ?_⟩, if_pos rfl, fun b hb => ?_, hc, hn⟩, fun b hb => ?_⟩
  · obtain ⟨k1, k2, k3⟩ := hN.cell h0
    refine ⟨k1, ?_, k3⟩
    show (if _ then _ else _) = 3
    rw [if_neg (by omega), if_neg (by omega), if_pos ⟨h0, rfl⟩]
  · show (if _ then _ else _) = 2
    rw [if_neg (by omega), if_pos rfl]
  · obtain ⟨k1, k2, k3, k4⟩ := hN.lev j (by omega)
    refine ⟨k1, k2, k3, ?_⟩
    show (if _ then _ else _) = 4 + j
    rw [if_neg (by omega), if_neg (fun e => hN.vne j (by omega) _ rfl e.symm), if_neg (fun h => by have := (hN.cell h.1).2.1; omega), find_lvl hN.inc (show j < hgt cells.length + 1 by omega)]
  · show (if _ then _ else _) = 0
    have h1 := hN.box.1
    rw [if_neg (by omega), if_neg (by omega), if_neg (fun h => by have := (hN.cell h.1).2.1; omega)]
    split
    · rename_i j hj
      have h2 := List.find?_some hj
      have h3 := List.mem_range.1 (List.mem_of_find?_eq_some hj)
      have := hlt j h3
      simp at h2
      omega
    · rfl
  · replace hb : (if b = TB then 1 else if b = VB then 2 else if 0 < cells.length ∧ b = CB then 3 else match (List.range (hgt cells.length + 1)).find? (fun i => B i == b) with | some j => 4 + j | none => 0) ≠ 0 := hb
    split at hb
    · omega
    · split at hb
      · omega
      · split at hb
        · rename_i h
          have := hCB h.1
          omega
        · split at hb
          · rename_i j hj
            have h2 := List.find?_some hj
            have h3 := List.mem_range.1 (List.mem_of_find?_eq_some hj)
            have := (hN.lev j h3).2.2.2
            simp at h2
            omega
          · exact absurd rfl hb
theorem bits_xor_i64_nat (a b : Nat) (ha : a < 9223372036854775808) (hb : b < 9223372036854775808) : bits .xor .i64 (a : Int) (b : Int) = ((a ^^^ b : Nat) : Int) := by
  have hx : a ^^^ b < 2 ^ 63 := Nat.xor_lt_two_pow (by omega) (by omega)
  have h1 : (BitVec.ofInt 64 (a : Int)).toNat = a := by
    rw [BitVec.ofInt_natCast, BitVec.toNat_ofNat]; exact Nat.mod_eq_of_lt (by omega)
  have h2 : (BitVec.ofInt 64 (b : Int)).toNat = b := by
    rw [BitVec.ofInt_natCast, BitVec.toNat_ofNat]; exact Nat.mod_eq_of_lt (by omega)
  show IntKind.i64.wrap ((BitVec.ofInt 64 (a : Int) ^^^ BitVec.ofInt 64 (b : Int)).toNat : Int) = _
  rw [BitVec.toNat_xor, h1, h2, IntKind.wrap_i64]
  omega
/-- the node beside node k -/
def sib (k : Nat) : Nat := k ^^^ 1
theorem sib_eq (k : Nat) : sib k = 2 * (k / 2) + (1 - k % 2) := by
  have h1 : (k ^^^ 1) / 2 = k / 2 := by rw [Nat.xor_div_two]; simp
  have h2 : (k ^^^ 1) % 2 = (k + 1) % 2 := by
    have h3 := Nat.testBit_xor (x := k) (y := 1) (i := 0)
    rw [Nat.testBit_zero, Nat.testBit_zero, Nat.testBit_zero] at h3
    rcases Nat.mod_two_eq_zero_or_one k with h | h <;> rcases Nat.mod_two_eq_zero_or_one (k ^^^ 1) with h' | h' <;> rw [h, h'] at h3 <;> first | omega | exact absurd h3 (by decide)
  unfold sib
  omega
theorem sib_xor (k : Nat) (hk : k < 1000000000) : bits .xor .i64 (k : Int) 1 = ((sib k : Nat) : Int) := bits_xor_i64_nat k 1 (by omega) (by omega)
theorem sib_lt {k M : Nat} (h : k < 2 * M) : sib k < 2 * M := by rw [sib_eq]; omega
theorem up_lt {i h m : Nat} (hi : i < P2 h) (hm : m ≤ h) : up i m < P2 (h - m) := by
  unfold up
  rw [Nat.div_lt_iff_lt_mul (P2_pos m)]
  have : P2 (h - m) * P2 m = P2 h := by unfold P2; rw [← Nat.pow_add]; congr 1; omega
  rw [this]
  exact hi
set_option maxRecDepth 100000 in
set_option maxHeartbeats 2000000 in
theorem mTRoot_any (TB : Nat) (col : Nat → Nat) (cells : List Int) (F : Nat → Nat → Int) (w : World) (hT : TreeAt w TB col cells F) :
    Calls Try.prog 21 #[.pointer (some ⟨TB, 0, none⟩)] w fun e w' => e = .returned (.int .u64 (F (hgt cells.length) 0)) ∧ Q w w' := by
  obtain ⟨CB, ca, cc, VB, vc, B, lc, h1, h2, h3, h4, h5, h6⟩ := hT.ex
  have hsm := hT.small
  have h17 := hgt_17 cells.length (by omega)
  clear hT h3
  generalize hgt cells.length = h at *
  obtain ⟨k1, k2, k3, k4⟩ := h6 h (Nat.le_refl _)
  have e1 : P2 (h - h) = 1 := by rw [Nat.sub_self]; rfl
  rw [e1] at k2
  have HB := Lib.hid h1
  have HV := Lib.hid h5
  have HL := Lib.hid k1
  have HLV := Lib.hid (show ((List.range (h + 1)).map (lvS h B lc))[h]? = some (.slice (some ⟨B h, 0, none⟩) 1 (lc h)) by
    rw [List.getElem?_map, List.getElem?_range (by omega), Option.map_some]
    unfold lvS
    rw [e1])
  have HR := Lib.hid (rowF_at F h h 0 (by rw [e1]; omega))
  obtain ⟨_, _, h2c, h2d⟩ := h2
  unfold maxLen at h2d k3
  clear h1 h5 h6 k1 e1 h4 k4
  go_enter Try.func21, Try.ntmps21
  go_upto_region 1 with (fail)
  refine wp_region_mix [(0, true), (1, true), (2, true), (3, true), (4, true), (5, true), (6, true), (7, true), (8, true), (9, true), (10, true), (11, true), (12, true), (13, true), (14, true)] (by kernel_rfl) (by kernel_rfl) (fun _ _ _ _ _ h => h) ?_
  have HQ := Lib.hid ((Q.refl w).drew)
  have HBD := Lib.hid (HB.out.q (Q.drew (Q.refl w)))
  have HVD := Lib.hid (HV.out.q (Q.drew (Q.refl w)))
  have HLD := Lib.hid (HL.out.q (Q.drew (Q.refl w)))
  generalize w.drew = W at *
  have y1 : ∀ y : After W, y.w.cell? ⟨TB, 1, none⟩ = some (.slice (some ⟨VB, 0, none⟩) (h + 1) vc) := Box.sf HBD.out 1 _ rfl
  have y2 : ∀ y : After W, y.w.cell? ⟨VB, h, none⟩ = some (.slice (some ⟨B h, 0, none⟩) 1 (lc h)) := Box.sf HVD.out h _ HLV.out
  have y3 : ∀ y : After W, y.w.cell? ⟨B h, 0, none⟩ = some (.int .u64 (F h 0)) := Box.sf HLD.out 0 _ HR.out
  have hh1 : ((h : Int) + 1 - 1) = h := by omega
  repeat (first | (refine mix_val rfl rfl ?_; go_big_quiet_step (fail); refine wpQuiet_nil ?_) | (refine mix_nil rfl rfl rfl ?_; go_big_quiet_step (fail); refine wpQuiet_nil ?_))
  refine mix_end ?_
  clear y1 y2 y3
  go_wp2
  go_ret
  exact ⟨rfl, HQ.out⟩
end Go.Proofs.Ytcgnihgebifcjaa
