/- Contracts: the operations made from numbers; an operation performed. -/
import Derived.Test.YtcpicifnadoeoaaCrL
import Derived.Test.YtcpicifnadoeoaaMixX
namespace Go.Proofs.Ytcpicifnadoeoaa
open Go Go.RowKit Go.BigFrame

/-- an operation -/
structure Ac where
  act : Int
  p : Int
  x : Int
  bad : Bool
  n : Int
def Ac.f (a : Ac) : Int := if a.bad then 9 else a.x / 9
def acC (a : Ac) : List Value := [.int .i64 a.act, .int .i64 a.p, .int .i64 (a.x % 3 - 1), .int .i64 (a.x / 3 % 3 - 1), .int .i64 a.f, .int .u64 a.n]
/-- what holds of every operation -/
structure AcOk (a : Ac) : Prop where
  k0 : 0 ≤ a.act
  k1 : a.act ≤ 2
  p0 : -1 ≤ a.p
  p1 : a.p ≤ 4
  x0 : 0 ≤ a.x
  x1 : a.x < 36
  n0 : 0 ≤ a.n
  n1 : a.n ≤ 1
/-- the input that a commitment is to -/
def Ac.c (a : Ac) : Int := if a.bad then 4 else a.x
theorem Ac.err (a : Ac) (h : AcOk a) : errV (a.x % 3 - 1) (a.x / 3 % 3 - 1) a.f = if a.bad then 1 else 0 := by
  unfold Ac.f
  cases hb : a.bad with
  | true => simp [errV, inB]
  | false => simpa using errV_code a.x h.x0 h.x1
theorem Ac.c_range (a : Ac) (h : AcOk a) : 0 ≤ a.c ∧ a.c < 36 := by
  unfold Ac.c
  cases a.bad
  · exact ⟨h.x0, h.x1⟩
  · show (0 : Int) ≤ 4 ∧ (4 : Int) < 36; decide
def doesE (t k : Int) (o : Bool) (sts : List St) (a : Ac) : Int := if a.act = 0 then commitE k o sts a.p else if a.act = 1 then revealE t k o sts a.p (a.x % 3 - 1) (a.x / 3 % 3 - 1) a.f a.n else 0
def doesT (t k : Int) (o : Bool) (sts : List St) (a : Ac) : List St := if a.act = 0 then commitT k o sts a.p (comZ a.p t a.c a.n) else if a.act = 1 then revealT t k o sts a.p (a.x % 3 - 1) (a.x / 3 % 3 - 1) a.f a.n else sts
def doesO (o : Bool) (a : Ac) : Bool := if a.act = 0 then o else if a.act = 1 then o else true
theorem does_len (t k : Int) (o : Bool) (sts : List St) (a : Ac) : (doesT t k o sts a).length = sts.length := by
  unfold doesT
  split
  · exact commit_len _ _ _ _ _
  · split
    · exact reveal_len _ _ _ _ _ _ _ _ _
    · rfl
theorem does_sane {t k : Int} {o : Bool} {sts : List St} (a : Ac) (h : Sane sts) : Sane (doesT t k o sts a) := by
  unfold doesT
  split
  · exact sane_commit h (comZ_u64 _ _ _ _)
  · split
    · exact sane_reveal h
    · exact h
theorem ac_nonce {a : Ac} (h : AcOk a) : U64 a.n := by
  have := h.n0
  have := h.n1
  unfold U64 MM
  omega
theorem Box.softX {W : World} {B B' : Nat} {vs : List Value} (h : Box W B' vs) (hB : B' ≠ B) (k : Nat) (v : Value) (hv : vs[k]? = some v) : ∀ x : AfterX B W, x.w.cell? ⟨B', k, none⟩ = some v := fun x => ((Box.qx h x.q hB).2 k v hv).1

theorem does_commit (B : Nat) (t k p x n : Int) (o : Bool) (sts : List St) (w : World) (hR : Rd w B t k o sts) (h8 : sts.length = 8) (hk : k ≤ 8) (hs : Sane sts) (hp : -1 ≤ p ∧ p ≤ 4) (hx : 0 ≤ x ∧ x < 36) (hn : U64 n) (ht : -9223372036854775808 ≤ t ∧ t ≤ 9223372036854775807) :
    Calls Try.prog 23 #[.pointer (some ⟨B, 0, none⟩), .int .i64 t, .agg #[.int .i64 0, .int .i64 p, .int .i64 (x % 3 - 1), .int .i64 (x / 3 % 3 - 1), .int .i64 (x / 9), .int .u64 n]] w fun e w' =>
      e = .returned (.int .i64 (commitE k o sts p)) ∧ Rd w' B t k o (commitT k o sts p (comZ p t x n)) ∧ QX B w w' := by
  have hlt := hR.1
  have HQ0 := Lib.hid ((Q.refl w).alloc (.cells #[.int .i64 0, .int .i64 p, .int .i64 (x % 3 - 1), .int .i64 (x / 3 % 3 - 1), .int .i64 (x / 9), .int .u64 n] 49))
  have HI := Lib.hid (Box.new w [.int .i64 0, .int .i64 p, .int .i64 (x % 3 - 1), .int .i64 (x / 3 % 3 - 1), .int .i64 (x / 9), .int .u64 n] 49)
  have HR := Lib.hid (Box.q hR HQ0.out)
  have HS := Lib.hid hs
  have HT := Lib.hid ht
  have HX := Lib.hid hx
  have HP := Lib.hid (show -9223372036854775808 ≤ p ∧ p ≤ 9223372036854775807 by omega)
  have HN := Lib.hid hn
  have HE := Lib.hid (show errV (x % 3 - 1) (x / 3 % 3 - 1) (x / 9) = 0 from errV_code x hx.1 hx.2)
  have HCU := Lib.hid (comZ_u64 p t x n)
  clear hR hs ht hx hn hp
  go_enter Try.func23, Try.ntmps23
  go_wp2_with (fail)
  refine (rValidate_any _ _ _ _).mono ?_
  rintro e w1 ⟨rfl, hq1⟩
  rw [HE.out]
  have HQ1 := Lib.hid (HQ0.out.trans hq1)
  have HI1 := Lib.hid (Box.q HI.out hq1)
  have HR1 := Lib.hid (Box.q HR.out hq1)
  have hne : w.heap.size ≠ B := by omega
  have HNE := Lib.hid hne
  have HWI := Lib.hid (show w.heap.size ≤ w.heap.size from Nat.le_refl _)
  have HQ3 := Lib.hid HQ1.out.drew
  have HI3 := Lib.hid (Box.q HI1.out (Q.refl _).drew)
  have HR3 := Lib.hid (Box.q HR1.out (Q.refl _).drew)
  clear hq1 HI HR HQ0 HI1 HR1 HQ1
  go_wp2_with (fail)
  refine wp_region_mixX (B := B) [(0, true), (1, true), (2, true), (3, true), (4, true), (5, true), (6, true), (7, true), (8, true), (9, true), (10, false), (11, false), (12, true)] (by kernel_rfl) (by kernel_rfl) (fun _ _ _ _ _ h => h) ?_
  generalize w1.drew = W at *
  have s1 := Box.softX HI3.out hne 1 _ rfl
  have s2 := Box.softX HI3.out hne 2 _ rfl
  have s3 := Box.softX HI3.out hne 3 _ rfl
  have s4 := Box.softX HI3.out hne 4 _ rfl
  have s5 := Box.softX HI3.out hne 5 _ rfl
  repeat (refine mixX_val rfl rfl ?_; go_big_quiet_step (fail); refine wpQuiet_nil ?_)
  clear s1 s2 s3 s4 s5
  refine mixX_run rfl rfl ?_
  intro K hK
  go_wp2_with (fail)
  refine (rCommitment_any p t x n _ HP.out HT.out HX.out HN.out).mono ?_
  rintro e w5 ⟨rfl, hq5⟩
  refine hK _ _ (QX.of hq5) ?_
  clear hK K
  refine mixX_run rfl rfl ?_
  intro K hK
  go_wp2_with (fail)
  refine (crCommit_any B t k p _ o sts _ (Box.q HR3.out hq5) h8 hk HS.out).mono ?_
  rintro e w6 ⟨rfl, hR6, hX6⟩
  refine hK _ _ hX6 ?_
  clear hK K
  have HR6 := Lib.hid hR6
  have HX6 := Lib.hid ((QX.of (HQ3.out.trans hq5)).trans hX6)
  clear hR6 hX6 hq5
  repeat (refine mixX_val rfl rfl ?_; go_big_quiet_step (fail); refine wpQuiet_nil ?_)
  refine mixX_end ?_
  go_wp2
  go_ret
  exact ⟨rfl, HR6.out, HX6.out⟩
theorem does_commit_bad (B : Nat) (t k p x n : Int) (o : Bool) (sts : List St) (w : World) (hR : Rd w B t k o sts) (h8 : sts.length = 8) (hk : k ≤ 8) (hs : Sane sts) (hp : -1 ≤ p ∧ p ≤ 4) (hx : 0 ≤ x ∧ x < 36) (hn : U64 n) (ht : -9223372036854775808 ≤ t ∧ t ≤ 9223372036854775807) :
    Calls Try.prog 23 #[.pointer (some ⟨B, 0, none⟩), .int .i64 t, .agg #[.int .i64 0, .int .i64 p, .int .i64 (x % 3 - 1), .int .i64 (x / 3 % 3 - 1), .int .i64 9, .int .u64 n]] w fun e w' =>
      e = .returned (.int .i64 (commitE k o sts p)) ∧ Rd w' B t k o (commitT k o sts p (comZ p t 4 n)) ∧ QX B w w' := by
  have hlt := hR.1
  have HQ0 := Lib.hid ((Q.refl w).alloc (.cells #[.int .i64 0, .int .i64 p, .int .i64 (x % 3 - 1), .int .i64 (x / 3 % 3 - 1), .int .i64 9, .int .u64 n] 49))
  have HI := Lib.hid (Box.new w [.int .i64 0, .int .i64 p, .int .i64 (x % 3 - 1), .int .i64 (x / 3 % 3 - 1), .int .i64 9, .int .u64 n] 49)
  have HR := Lib.hid (Box.q hR HQ0.out)
  have HS := Lib.hid hs
  have HT := Lib.hid ht
  have HX := Lib.hid hx
  have HP := Lib.hid (show -9223372036854775808 ≤ p ∧ p ≤ 9223372036854775807 by omega)
  have HN := Lib.hid hn
  have HE := Lib.hid (show errV (x % 3 - 1) (x / 3 % 3 - 1) 9 = 1 by simp [errV, inB])
  have HCU := Lib.hid (comZ_u64 p t 4 n)
  clear hR hs ht hx hn hp
  go_enter Try.func23, Try.ntmps23
  go_wp2_with (fail)
  refine (rValidate_any _ _ _ _).mono ?_
  rintro e w1 ⟨rfl, hq1⟩
  rw [HE.out]
  have HQ1 := Lib.hid (HQ0.out.trans hq1)
  have HI1 := Lib.hid (Box.q HI.out hq1)
  have HR1 := Lib.hid (Box.q HR.out hq1)
  have hne : w.heap.size ≠ B := by omega
  have HNE := Lib.hid hne
  have HWI := Lib.hid (show w.heap.size ≤ w.heap.size from Nat.le_refl _)
  have b1 := HI1.out
  obtain ⟨e2, f2⟩ := b1.2 2 _ rfl
  obtain ⟨e3, f3⟩ := b1.2 3 _ rfl
  obtain ⟨e4, f4⟩ := b1.2 4 _ rfl
  have hlt1 := b1.1
  have HI2 := Lib.hid (Box.set (Box.set (Box.set b1 2 (.int .i64 0) (by simp)) 3 (.int .i64 0) (by simp)) 4 (.int .i64 0) (by simp))
  have HQ2 := Lib.hid (((HQ1.out.setCell (p := ⟨w.heap.size, 2, none⟩) (Nat.le_refl _) (.int .i64 0)).setCell (p := ⟨w.heap.size, 3, none⟩) (Nat.le_refl _) (.int .i64 0)).setCell (p := ⟨w.heap.size, 4, none⟩) (Nat.le_refl _) (.int .i64 0))
  have HR2 := Lib.hid (Box.qx (Box.qx (Box.qx HR1.out (QX.set w1 w.heap.size 2 (.int .i64 0)) hne.symm) (QX.set _ w.heap.size 3 (.int .i64 0)) hne.symm) (QX.set _ w.heap.size 4 (.int .i64 0)) hne.symm)
  clear hq1 b1 HI HR HQ0 HI1 HR1 HQ1
  go_wp2_with (fail)
  clear e2 e3 e4 f2 f3 f4
  have HQ3 := Lib.hid HQ2.out.drew
  have HI3 := Lib.hid (Box.q HI2.out (Q.refl _).drew)
  have HR3 := Lib.hid (Box.q HR2.out (Q.refl _).drew)
  generalize hW : (((w1.setCell ⟨w.heap.size, 2, none⟩ (.int .i64 0)).setCell ⟨w.heap.size, 3, none⟩ (.int .i64 0)).setCell ⟨w.heap.size, 4, none⟩ (.int .i64 0)) = W0 at *
  clear hW HQ2 HI2 HR2
  refine wp_region_mixX (B := B) [(0, true), (1, true), (2, true), (3, true), (4, true), (5, true), (6, true), (7, true), (8, true), (9, true), (10, false), (11, false), (12, true)] (by kernel_rfl) (by kernel_rfl) (fun _ _ _ _ _ h => h) ?_
  generalize W0.drew = W at *
  have s1 := Box.softX HI3.out hne 1 _ rfl
  have s2 := Box.softX HI3.out hne 2 _ rfl
  have s3 := Box.softX HI3.out hne 3 _ rfl
  have s4 := Box.softX HI3.out hne 4 _ rfl
  have s5 := Box.softX HI3.out hne 5 _ rfl
  repeat (refine mixX_val rfl rfl ?_; go_big_quiet_step (fail); refine wpQuiet_nil ?_)
  clear s1 s2 s3 s4 s5
  refine mixX_run rfl rfl ?_
  intro K hK
  go_wp2_with (fail)
  refine (rCommitment_any p t 4 n _ HP.out HT.out (by omega) HN.out).mono ?_
  rintro e w5 ⟨rfl, hq5⟩
  refine hK _ _ (QX.of hq5) ?_
  clear hK K
  refine mixX_run rfl rfl ?_
  intro K hK
  go_wp2_with (fail)
  refine (crCommit_any B t k p _ o sts _ (Box.q HR3.out hq5) h8 hk HS.out).mono ?_
  rintro e w6 ⟨rfl, hR6, hX6⟩
  refine hK _ _ hX6 ?_
  clear hK K
  have HR6 := Lib.hid hR6
  have HX6 := Lib.hid ((QX.of (HQ3.out.trans hq5)).trans hX6)
  clear hR6 hX6 hq5
  repeat (refine mixX_val rfl rfl ?_; go_big_quiet_step (fail); refine wpQuiet_nil ?_)
  refine mixX_end ?_
  go_wp2
  go_ret
  exact ⟨rfl, HR6.out, HX6.out⟩
theorem does_reveal (B : Nat) (t k p a b f n : Int) (o : Bool) (sts : List St) (w : World) (hR : Rd w B t k o sts) (h8 : sts.length = 8) (hk : k ≤ 8) (hs : Sane sts) (hn : U64 n) (ht : -9223372036854775808 ≤ t ∧ t ≤ 9223372036854775807) :
    Calls Try.prog 23 #[.pointer (some ⟨B, 0, none⟩), .int .i64 t, .agg #[.int .i64 1, .int .i64 p, .int .i64 a, .int .i64 b, .int .i64 f, .int .u64 n]] w fun e w' =>
      e = .returned (.int .i64 (revealE t k o sts p a b f n)) ∧ Rd w' B t k o (revealT t k o sts p a b f n) ∧ QX B w w' := by
  have hlt := hR.1
  have HQ0 := Lib.hid ((Q.refl w).alloc (.cells #[.int .i64 1, .int .i64 p, .int .i64 a, .int .i64 b, .int .i64 f, .int .u64 n] 49))
  have HR := Lib.hid (Box.q hR HQ0.out)
  have HS := Lib.hid hs
  have HT := Lib.hid ht
  have HN := Lib.hid hn
  clear hR hs ht hn
  go_enter Try.func23, Try.ntmps23
  go_wp2_with (fail)
  refine (crReveal_any B t k p a b f n o sts _ HR.out h8 hk HS.out HN.out HT.out).mono ?_
  rintro e w6 ⟨rfl, hR6, hX6⟩
  have HR6 := Lib.hid hR6
  have HX6 := Lib.hid ((QX.of HQ0.out).trans hX6)
  clear hR6 hX6
  go_wp2
  go_ret
  exact ⟨rfl, HR6.out, HX6.out⟩
theorem does_close (B : Nat) (t k c p a b f n : Int) (o : Bool) (sts : List St) (w : World) (hR : Rd w B t k o sts) (hc0 : c ≠ 0) (hc1 : c ≠ 1) :
    Calls Try.prog 23 #[.pointer (some ⟨B, 0, none⟩), .int .i64 t, .agg #[.int .i64 c, .int .i64 p, .int .i64 a, .int .i64 b, .int .i64 f, .int .u64 n]] w fun e w' =>
      e = .returned (.int .i64 0) ∧ Rd w' B t k true sts ∧ QX B w w' := by
  have HQ0 := Lib.hid ((Q.refl w).alloc (.cells #[.int .i64 c, .int .i64 p, .int .i64 a, .int .i64 b, .int .i64 f, .int .u64 n] 49))
  have HR := Lib.hid (Box.q hR HQ0.out)
  have b0 : (c == 0) = false := by simpa using hc0
  have b1 : (c == 1) = false := by simpa using hc1
  clear hR hc0 hc1
  go_enter Try.func23, Try.ntmps23
  go_wp2_with (fail)
  refine (crClose_any B t k o sts _ HR.out).mono ?_
  rintro e w6 ⟨⟨v, rfl⟩, hR6, hX6⟩
  have HR6 := Lib.hid hR6
  have HX6 := Lib.hid ((QX.of HQ0.out).trans hX6)
  clear hR6 hX6
  go_wp2
  go_ret
  exact ⟨rfl, HR6.out, HX6.out⟩
theorem does31_any (B : Nat) (t k : Int) (o : Bool) (sts : List St) (a : Ac) (w : World) (hR : Rd w B t k o sts) (h8 : sts.length = 8) (hk : k ≤ 8) (hs : Sane sts) (ha : AcOk a) (ht : -9223372036854775808 ≤ t ∧ t ≤ 9223372036854775807) :
    Calls Try.prog 23 #[.pointer (some ⟨B, 0, none⟩), .int .i64 t, .agg #[.int .i64 a.act, .int .i64 a.p, .int .i64 (a.x % 3 - 1), .int .i64 (a.x / 3 % 3 - 1), .int .i64 a.f, .int .u64 a.n]] w fun e w' =>
      e = .returned (.int .i64 (doesE t k o sts a)) ∧ Rd w' B t k (doesO o a) (doesT t k o sts a) ∧ QX B w w' := by
  have hn := ac_nonce ha
  by_cases h0 : a.act = 0
  · unfold doesE doesT doesO
    rw [if_pos h0, if_pos h0, if_pos h0, h0]
    unfold Ac.f Ac.c
    cases a.bad with
    | false => exact does_commit B t k a.p a.x a.n o sts w hR h8 hk hs ⟨ha.p0, ha.p1⟩ ⟨ha.x0, ha.x1⟩ hn ht
    | true => exact does_commit_bad B t k a.p a.x a.n o sts w hR h8 hk hs ⟨ha.p0, ha.p1⟩ ⟨ha.x0, ha.x1⟩ hn ht
  · by_cases h1 : a.act = 1
    · unfold doesE doesT doesO
      rw [if_neg h0, if_neg h0, if_neg h0, if_pos h1, if_pos h1, if_pos h1, h1]
      exact does_reveal B t k a.p _ _ a.f a.n o sts w hR h8 hk hs hn ht
    · unfold doesE doesT doesO
      rw [if_neg h0, if_neg h0, if_neg h0, if_neg h1, if_neg h1, if_neg h1]
      exact does_close B t k a.act a.p _ _ _ _ o sts w hR h0 h1
end Go.Proofs.Ytcpicifnadoeoaa
