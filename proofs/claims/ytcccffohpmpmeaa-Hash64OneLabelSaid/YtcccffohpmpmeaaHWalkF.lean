/- The walk of Hash64OneLabel. -/
import Derived.Test.YtcccffohpmpmeaaHWalkE
namespace Go.Proofs.Ytcccffohpmpmeaa
open Go Go.RowKit Go.BigFrame

theorem strZ_push (zs : List Int) (hb : Bys zs) : ∀ r : ByteArray, strZ (zs.foldl (fun r n => r.push (UInt8.ofNat n.toNat)) r) = strZ r ++ zs := by
  induction zs with
  | nil => intro r; simp
  | cons z zs ih =>
    intro r
    rw [List.foldl_cons, ih (fun b hb' => hb b (List.mem_cons_of_mem _ hb'))]
    have h := hb z List.mem_cons_self
    have e : ((UInt8.ofNat z.toNat).toNat : Int) = z := by
      rw [UInt8.toNat_ofNat']
      omega
    simp [strZ, ByteArray.push]
    simpa using e
theorem strZ_strOf (zs : List Int) (hb : Bys zs) : strZ (strOf zs) = zs := by
  unfold strOf
  rw [strZ_push zs hb]
  rfl
theorem strOf_size (zs : List Int) (hb : Bys zs) : (strOf zs).size = zs.length := by rw [← strZ_len, strZ_strOf zs hb]
theorem oneLabel_law (xs l : List Int) (k : Nat) (x by_ : Int) (ha : Bys xs) (hk : k < xs.length) (hx : xs[k] = x) (hby : 0 ≤ by_ ∧ by_ ≤ 255) (hm : xs.length ≤ 1000000) (hml : l.length ≤ 1000000) :
    ((sumZ (strZ (strOf xs)) l == sumZ (strZ (strOf (xs.set k (xorB x by_)))) l) == (by_ == 0)) = true := by
  have hxr : 0 ≤ x ∧ x ≤ 255 := by rw [← hx]; exact ha _ (List.getElem_mem hk)
  have hb : Bys (xs.set k (xorB x by_)) := ha.set k _ (xorB_range _ _ hxr hby)
  rw [strZ_strOf xs ha, strZ_strOf _ hb]
  by_cases e : by_ = 0
  · have h0 : xorB x by_ = x := (xorB_zero x by_ hxr hby).2 e
    have : xs.set k x  = xs := by rw [← hx]; exact List.set_getElem_self hk
    rw [h0, this, e]; simp
  · have hne : xs ≠ xs.set k (xorB x by_) := fun h => by
      have h3 := congrArg (fun l => l[k]?) h
      simp [hk] at h3
      rw [hx] at h3
      exact e ((xorB_zero x by_ hxr hby).1 h3.symm)
    have hs : SameBut (k / 8) xs (xs.set k (xorB x by_)) := SameBut.set ⟨rfl, rfl, rfl⟩ k (by omega) (by omega) _
    have : sumZ xs l ≠ sumZ (xs.set k (xorB x by_)) l := fun h => hne (sumZ_label (k / 8) ha hb (by omega) hs.1 hm hml hs.2.1 hs.2.2 h)
    rw [beq_eq_false_iff_ne.2 this, beq_eq_false_iff_ne.2 e]; rfl

theorem hash64OneLabel_walk (s : ByteArray) (a1 : Option Addr) (len1 cap1 : Nat) (z1 : List Int) (at_ by_ : Int) (w : World) (_hs : s.size ≤ maxLen) (w1 : IsRow .i64 w a1 len1 cap1 z1) (wa : (Lit.int .i64 at_).wf = true) (wo : (Lit.int .u8 by_).wf = true) :
    Calls Try.prog 7 #[.string s, .slice a1 len1 cap1, .int .i64 at_, .int .u8 by_] w fun e w' => e = .returned (.bool true) ∧ Q w w' := by
  have s0 := Lib.hid (Sl.of_row w1)
  have r0 := Lib.hid (rowI64 w1)
  have GA := Lib.hid (wf_i64 wa)
  have GO := Lib.hid (wf_u8 wo)
  clear w1 _hs wa wo
  generalize z1.take len1 = zl at *
  go_enter Try.func7, Try.ntmps7
  go_wp2_with (fail)
  refine (ints_any a1 len1 cap1 6 zl _ s0.out (by omega)).mono ?_
  rintro e w2 ⟨a2, cap2, rfl, hown2, hq2⟩
  have hm : min len1 6 ≤ 6 := Nat.min_le_right _ _
  have HM := Lib.hid hm
  have R1 := Lib.hid (show ∀ z ∈ zl.take 6, -9223372036854775808 ≤ z ∧ z ≤ 9223372036854775807 from fun z hz => r0.out z (List.mem_of_mem_take hz))
  have HL := Lib.hid (show (zl.take 6).length = min len1 6 by have := s0.out.1; simp at this; rw [List.length_take, this, Nat.min_comm])
  have Q2 := Lib.hid hq2
  have S2 := Lib.hid (Sl.of_own hown2)
  clear hown2 hq2
  generalize zl.take 6 = ws at *
  generalize min len1 6 = m at *
  go_wp2_with (fail)
  refine (short_any s 29 _ (by omega)).mono ?_
  rintro e w3 ⟨rfl, rfl⟩
  have hsz := shortB_size s 29
  generalize shortB s 29 = sh at *
  have hts : (sh ++ { data := #[120] } : ByteArray).size = sh.size + 1 := by rw [ByteArray.size_append]; rfl
  have hconv := run_bytes_of_string (P := Try.prog) w3 9 30 5 (sh ++ { data := #[120] }) Try.underlying9 Try.underlying30 Try.underlying5
  have hsb := Lib.hid (sl_str w3 (sh ++ { data := #[120] }) (by omega))
  have hq0 : Q w3 (w3.drew.alloc (.cells (bytesRow (sh ++ { data := #[120] }) (grownCap w3 (sh ++ { data := #[120] } : ByteArray).size 0 5)) 5 ((bytesRow (sh ++ { data := #[120] }) (grownCap w3 (sh ++ { data := #[120] } : ByteArray).size 0 5)).size, (bytesRow (sh ++ { data := #[120] }) (grownCap w3 (sh ++ { data := #[120] } : ByteArray).size 0 5)).size + 1))) := (Q.refl w3).drew.alloc _
  have hbx := strZ_bys (sh ++ { data := #[120] })
  have hlx := strZ_len (sh ++ { data := #[120] })
  rw [hts] at hconv hsb hq0 hlx
  generalize hn : sh.size + 1 = n at *
  generalize hcc : grownCap w3 n 0 5 = cc at *
  generalize hrr : bytesRow (sh ++ { data := #[120] }) cc = rr at *
  generalize strZ (sh ++ { data := #[120] }) = xs at *
  have HQ0 := Lib.hid hq0
  have HBX := Lib.hid hbx
  have HLX := Lib.hid hlx
  have HN := Lib.hid (show 1 ≤ n ∧ n ≤ 30 by omega)
  clear hq0 hcc hrr hbx hlx hn hts
  go_wp2_with (fail)
  refine (few_any _ _ _ 30 xs _ hsb.out (by omega)).mono ?_
  rintro e w4 ⟨a4, cap4, rfl, hown4, hq4⟩
  have hn1 := HN.out.1
  have hn2 := HN.out.2
  rw [Nat.min_eq_left hn2] at hown4 ⊢
  rw [List.take_of_length_le (by rw [HLX.out]; omega)] at hown4
  obtain ⟨g4, rfl, hg4, hlt4⟩ := own_addr1 hown4 (by omega)
  have Q34 := Lib.hid hq4
  have O4 := Lib.hid hown4
  have G4 := Lib.hid hg4
  clear hown4 hq4 hg4 hconv
  have QA := Lib.hid (Q2.out.trans HQ0.out)
  have S3w := Lib.hid (S2.out.q HQ0.out)
  clear S2 Q2 HQ0
  generalize w3.drew.alloc (.cells rr 5 (rr.size, rr.size + 1)) = W3 at *
  generalize w3.heap.size = g3 at *
  go_wp2_with (fail)
  refine (around_any _ _ _ GA.out (by omega)).mono ?_
  rintro e w5 ⟨rfl, rfl⟩
  have k0 := aroundZ_lo at_ (n : Int) (by omega)
  have k1 := aroundZ_hi at_ (n : Int) (by omega)
  obtain ⟨k, hk⟩ := Int.eq_ofNat_of_zero_le k0
  rw [hk] at k1 ⊢
  clear hk k0
  have hkx : k < xs.length := by rw [HLX.out]; omega
  have hkm : k < n := by omega
  obtain ⟨hc4, hf4⟩ := own_cell O4.out k (.int .u8 xs[k]) (by simp [hkx])
  have HX := Lib.hid (HBX.out _ (List.getElem_mem hkx))
  have LAW0 := Lib.hid (fun x hx => oneLabel_law xs ws k x by_ HBX.out hkx hx GO.out (by rw [HLX.out]; omega) (by rw [HL.out]; omega))
  have LAW := LAW0.out xs[k] rfl
  clear LAW0
  generalize xs[k] = x at *
  have O5 := Lib.hid (show (w4.setCell ⟨g4, k, none⟩ (.int .u8 (xorB x by_))).ownsRow W3.heap.size 5 1 (.slice (some ⟨g4, 0, none⟩) n cap4) n ((xs.set k (xorB x by_)).map (Value.int .u8)) by rw [List.map_set]; exact own_set O4.out k _)
  have Q5 := Lib.hid ((Q34.out.setCell (p := ⟨g4, k, none⟩) G4.out (.int .u8 (xorB x by_))).drew)
  have R5 := Lib.hid (HBX.out.set k (xorB x by_) (xorB_range _ _ HX.out GO.out))
  have EX : bits BinOp.xor IntKind.u8 x by_ = xorB x by_ := rfl
  have S5b := Lib.hid ((Sl.of_own O5.out).q (Q.refl _).drew)
  clear O5
  have HL5 := Lib.hid (show (xs.set k (xorB x by_)).length = n by rw [List.length_set, HLX.out])
  go_wp2_with (fail)
  refine wp_region_mix [(0, true), (1, true), (2, true), (4, true), (5, true), (6, true), (9, true), (10, true), (3, false), (7, false), (8, true), (11, true), (12, true), (13, false), (14, true), (15, true)] (by kernel_rfl) (by kernel_rfl) (fun _ _ _ _ _ h => h) ?_
  generalize (w4.setCell ⟨g4, k, none⟩ (.int .u8 (xorB x by_))).drew = W at *
  generalize xs.set k (xorB x by_) = ys at *
  have T1 := toStr_soft (hsb.out.q Q5.out)
  have T2 := toStr_soft S5b.out
  have Z1 := Lib.hid (show (strOf xs).size ≤ 1000000 by rw [strOf_size xs HBX.out, HLX.out]; omega)
  have Z2 := Lib.hid (show (strOf ys).size ≤ 1000000 by rw [strOf_size ys R5.out, HL5.out]; omega)
  have SW := Lib.hid (S3w.out.q Q5.out)
  have Q6 := Lib.hid (QA.out.trans Q5.out)
  clear hc4 hf4 O4 Q34 G4 hsb Q5 S3w QA S5b
  generalize strOf xs = sa at *
  generalize strOf ys = sb at *
  repeat (refine mix_val rfl rfl ?_; go_big_quiet_step (fail); refine wpQuiet_nil ?_)
  clear T1 T2
  refine mix_run rfl rfl ?_
  intro K hK
  go_wp2_with (fail)
  refine (sum_any sa _ _ _ ws _ Z1.out (by omega) SW.out R1.out).mono ?_
  rintro e w7 ⟨rfl, hq7⟩
  refine hK _ _ hq7 ?_
  clear hK K
  have Q7 := Lib.hid (Q6.out.trans hq7)
  have S7 := Lib.hid (SW.out.q hq7)
  clear hq7 SW Q6
  refine mix_run rfl rfl ?_
  intro K hK
  go_wp2_with (fail)
  refine (sum_any sb _ _ _ ws _ Z2.out (by omega) S7.out R1.out).mono ?_
  rintro e w8 ⟨rfl, hq8⟩
  refine hK _ _ hq8 ?_
  clear hK K
  have Q8 := Lib.hid (Q7.out.trans hq8)
  clear hq8 S7 Q7
  repeat (refine mix_val rfl rfl ?_; go_big_quiet_step (fail); refine wpQuiet_nil ?_)
  refine mix_run rfl rfl ?_
  intro K hK
  go_wp2_with (fail)
  refine (lives10_any _).mono ?_
  rintro e w9 ⟨rfl, hq9⟩
  refine hK _ _ hq9 ?_
  clear hK K
  have Q9 := Lib.hid (Q8.out.trans hq9)
  clear hq9 Q8
  repeat (refine mix_val rfl rfl ?_; go_big_quiet_step (fail); refine wpQuiet_nil ?_)
  refine mix_end ?_
  go_wp2
  go_ret
  exact ⟨rfl, Q9.out⟩
end Go.Proofs.Ytcccffohpmpmeaa
