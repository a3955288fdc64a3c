/- Contract: the closure of Open. -/
import Derived.Test.YtfkbdiheccnohaaJQ
namespace Go.Proofs.Ytfkbdiheccnohaa
open Go Go.RowKit Go.BigFrame

/-- what Open's closure reads: the data, the position, the log -/
structure NextAt (w : World) (DB AB LX LB : Nat) (col : Nat → Nat) (a : Option Addr) (n cap k : Nat) (bs : List Int) (rs : List (List Int)) : Prop where
  data : Box w DB [.slice a n cap]
  pos : Box w AB [.int .i64 k]
  ptr : Box w LX [.pointer (some ⟨LB, 0, none⟩)]
  log : LogAt w LB col rs
  apart : AB ≠ DB ∧ AB ≠ LX ∧ col DB = 0 ∧ col AB = 0 ∧ col LX = 0
  sl : Sl w 1 a n cap (bV bs)
  far : ∀ y, a = some y → y.block ≠ AB ∧ col y.block = 0 ∧ y.block < w.heap.size
theorem bV_len (x : List Int) : (bV x).length = x.length := by simp [bV]
/-- a piece of a slice of bytes -/
theorem sl_part {w : World} {n cap : Nat} {bs : List Int} {g o : Nat} (h : Sl w 1 (some ⟨g, o, none⟩) n cap (bV bs)) (hn : bs.length = n) (hg : g < w.heap.size) (hc : ∀ j u, (bV bs)[j]? = some u → w.cell? ⟨g, o + j, none⟩ = some u) (i m c : Nat) (hm : i + m ≤ n) (hcc : m ≤ c) (hcm : c ≤ cap) :
    Sl w 1 (some ⟨g, o + i, none⟩) m c (bV ((bs.drop i).take m)) :=
  ⟨by rw [bV_len, List.length_take, List.length_drop]; omega, hcc, Nat.le_trans hcm h.2.2.1, (fun e => by cases e), .inr ⟨g, o + i, rfl, hg, fun j u hu => by
    have hj : j < m := by
      rcases Nat.lt_or_ge j m with h' | h'
      · exact h'
      · rw [List.getElem?_eq_none (by rw [bV_len, List.length_take]; omega)] at hu; cases hu
    rw [Nat.add_assoc]
    refine hc (i + j) u ?_
    unfold bV at hu ⊢
    rw [List.getElem?_map, List.getElem?_take, if_pos hj, List.getElem?_drop] at hu
    rw [List.getElem?_map]
    exact hu⟩⟩
theorem neq34_nil (v : Value) (w : World) : (binOp .neq 52 (.iface 29 v) .nilIface).run Try.prog w = .ok (.bool true) w := by kernel_rfl
theorem neq34_nn (w : World) : (binOp .neq 52 .nilIface .nilIface).run Try.prog w = .ok (.bool false) w := by kernel_rfl
set_option maxRecDepth 100000 in
set_option maxHeartbeats 2000000 in
theorem jNext_err (w : World) (DB AB LX LB : Nat) (col : Nat → Nat) (a : Option Addr) (n cap k : Nat) (bs : List Int) (rs : List (List Int)) (hN : NextAt w DB AB LX LB col a n cap k bs rs) (hbb : Bys bs) (hk : k < n) (hn : n ≤ 90000) (he : (lenZ (bs.drop k)).2.2 ≠ 0) :
    Calls Try.prog 25 #[.pointer (some ⟨DB, 0, none⟩), .pointer (some ⟨AB, 0, none⟩), .pointer (some ⟨LX, 0, none⟩)] w fun e w' => e = .returned (eV34 (stepZ (bs.drop k)).1) ∧ w' = w := by
  have hlen : bs.length = n := by have := hN.sl.1; rw [bV_len] at this; omega
  have hcap := hN.sl.2.1
  have hmax := hN.sl.2.2.1
  unfold maxLen at hmax
  obtain ⟨g, o, rfl, hg, hcs⟩ := hN.sl.pos (by omega)
  have HS := Lib.hid (sl_part hN.sl hlen hg hcs k (n - k) (cap - k) (by omega) (by omega) (by omega))
  have c0 := (hN.data.2 0 _ rfl).1
  have c1 := (hN.pos.2 0 _ rfl).1
  have hD := hN.data.1
  have hA := hN.pos.1
  have HT := Lib.hid (show (bs.drop k).take (n - k) = bs.drop k from List.take_of_length_le (by rw [List.length_drop]; omega))
  have HE := Lib.hid he
  have HB := Lib.hid (show Bys (bs.drop k) from fun b hb => hbb b (List.mem_of_mem_drop hb))
  clear hN hcs he hbb
  rw [HT.out] at HS
  go_enter Try.func25, Try.ntmps25
  go_wp2_with (fail)
  refine (jLength_any _ _ _ (bs.drop k) w HS.out HB.out (by omega)).mono ?_
  rintro e w1 ⟨rfl, rfl⟩
  have HZ := Lib.hid (show (stepZ (bs.drop k)).1 = (lenZ (bs.drop k)).2.2 by unfold stepZ; rw [if_pos HE.out])
  obtain ⟨z1, z2, z3, hz⟩ : ∃ z1 z2 z3, lenZ (bs.drop k) = (z1, z2, z3) := ⟨_, _, _, rfl⟩
  have hz3 : z3 ≠ 0 := by have := HE.out; rw [hz] at this; exact this
  have HV := Lib.hid (show lenV (lenZ (bs.drop k)) = .tuple #[.int .i64 z1, .int .i64 z2, .iface 29 (.int .i64 z3)] by rw [hz]; unfold lenV eV34 eI; simp only []; rw [if_neg hz3])
  have HV2 := Lib.hid (show eV34 (lenZ (bs.drop k)).2.2 = .iface 29 (.int .i64 z3) by rw [hz]; unfold eV34 eI; simp only []; rw [if_neg hz3])
  rw [HV.out]
  have hne := neq34_nil
  clear hz hz3
  go_wp2
  go_ret
  exact ⟨by rw [HZ.out, HV2.out]; rfl, rfl⟩
end Go.Proofs.Ytfkbdiheccnohaa
