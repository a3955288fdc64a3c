/- Contracts: Partial.Set; Has. -/
import Derived.Test.YtcgnihgebifcjaaMkZ
namespace Go.Proofs.Ytcgnihgebifcjaa
open Go Go.RowKit Go.BigFrame

def setP (n : Nat) (i v : Int) (s : PS) : PS := if (s.cm i).isSome then updP n i.toNat ⟨putC s.cm i v, s.N, s.root⟩ else s
def KnownOk (n : Nat) (cm : Int → Option Int) : Prop := ∀ i v, cm i = some v → 0 ≤ i ∧ i < n ∧ I64 v
theorem KnownOk.put {n : Nat} {cm : Int → Option Int} (h : KnownOk n cm) (i v : Int) (hi : 0 ≤ i ∧ i < n) (hv : I64 v) : KnownOk n (putC cm i v) := by
  intro j u hj
  replace hj : (if j = i then some v else cm j) = some u := hj
  split at hj
  · rename_i e
    cases hj
    rw [e]
    exact ⟨hi.1, hi.2, hv⟩
  · exact h j u hj
theorem setP_known {n : Nat} {i v : Int} {s : PS} (h : KnownOk n s.cm) (hv : I64 v) : KnownOk n (setP n i v s).cm := by
  unfold setP
  split
  · rename_i hk
    obtain ⟨u, hu⟩ := Option.isSome_iff_exists.1 hk
    have := h i u hu
    exact h.put i v ⟨this.1, this.2.1⟩ hv
  · exact h
def PSetRet (w : World) (PB MC MN n : Nat) (s : PS) (i v : Int) (e : Ending) (w' : World) : Prop :=
  e = .returned (.bool (s.cm i).isSome) ∧ PartAt w' PB MC MN n (setP n i v s) ∧ QF (fun b => b = PB ∨ b = MC ∨ b = MN) w w'
set_option maxRecDepth 100000 in
set_option maxHeartbeats 1000000 in
theorem mPSet_any (PB MC MN n : Nat) (s : PS) (i v : Int) (w : World) (h : PartAt w PB MC MN n s) (hn : n ≤ 1000) (hk : KnownOk n s.cm) (hi : I64 i) (hv : I64 v) :
    Calls Try.prog 28 #[.pointer (some ⟨PB, 0, none⟩), .int .i64 i, .int .i64 v] w (PSetRet w PB MC MN n s i v) := by
  have hl := h.box.1
  have c2 := (h.box.2 2 _ rfl).1
  have hlk := lookC h.cm i hi
  have HP := Lib.hid h
  have HK := Lib.hid hk
  have HI := Lib.hid hi
  have HV := Lib.hid hv
  clear h hk hi hv
  cases hc : s.cm i with
  | none =>
    have HZ := Lib.hid (show setP n i v s = s by unfold setP; rw [hc]; rfl)
    have HS := Lib.hid (show (s.cm i).isSome = false by rw [hc]; rfl)
    rw [hc] at hlk
    replace hlk : (Instr.lookup 70 (.map (some MC)) (.int .i64 i) true).run Try.prog w = .ok (.tuple #[.int .i64 0, .bool false]) w := hlk
    clear hc
    go_enter Try.func28, Try.ntmps28
    go_wp2
    go_ret
    unfold PSetRet
    rw [HS.out, HZ.out]
    exact ⟨rfl, HP.out, QF.refl _ _⟩
  | some u =>
    have HZ := Lib.hid (show setP n i v s = updP n i.toNat ⟨putC s.cm i v, s.N, s.root⟩ by unfold setP; rw [hc]; rfl)
    have HS := Lib.hid (show (s.cm i).isSome = true by rw [hc]; rfl)
    have HR := Lib.hid (HK.out i u hc)
    rw [hc] at hlk
    replace hlk : (Instr.lookup 70 (.map (some MC)) (.int .i64 i) true).run Try.prog w = .ok (.tuple #[.int .i64 u, .bool true]) w := hlk
    clear hc
    obtain ⟨k, rfl⟩ := Int.eq_ofNat_of_zero_le HR.out.1
    rw [Int.toNat_natCast] at HZ
    go_enter Try.func28, Try.ntmps28
    go_wp2_with (at_mapUpdate; refine stopAt ?_)
    refine goOn ?_
    refine wpList_put rfl _ _ _ 70 rfl keyedInt Try.underlying70 kI_inj (k : Int) (keyInt (k : Int) HI.out) (.int .i64 v) rfl rfl rfl HP.out.cm ?_
    intro w2 hm2 hq2 hsz2
    go_frame
    have HP2 := Lib.hid (HP.out.putC k v hq2 hm2)
    have HQ2 := Lib.hid hq2
    have HK2 := Lib.hid (HK.out.put k v ⟨HR.out.1, HR.out.2.1⟩ HV.out)
    clear hm2 hq2 hsz2 hlk c2
    have hkn : k < n := by have := HR.out.2.1; omega
    go_wp2_with (fail)
    refine (mUpdate_any PB MC MN n k _ _ HP2.out hkn hn (fun j u hj => (HK2.out j u hj).2.2)).mono ?_
    rintro e w3 ⟨⟨x, rfl⟩, hp3, hq3⟩
    have HP3 := Lib.hid hp3
    have HQ3 := Lib.hid (show QF (fun b => b = PB ∨ b = MC ∨ b = MN) w w3 from (HQ2.out.mono (fun b hb => .inr (.inl hb))).trans hq3 (fun b hb => .inl (hb.elim .inl (fun e => .inr (.inr e)))))
    clear hp3 hq3
    go_wp2
    go_ret
    unfold PSetRet
    rw [HS.out, HZ.out]
    exact ⟨rfl, HP3.out, HQ3.out⟩
end Go.Proofs.Ytcgnihgebifcjaa
