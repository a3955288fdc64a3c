/- Contract: the calls made from numbers (chapter 22). -/
import Derived.Test.YtpoffkkkkieniaaQD
import Derived.Test.YtpoffkkkkieniaaInR
namespace Go.Proofs.Ytpoffkkkkieniaa
open Go Go.RowKit Go.BigFrame

structure A22 where
  dx : Int
  now : Int
  p : Int
  t : Int
  a : Int
  b : Int
  f : Int
def a22C (x : A22) : List Value := [.int .i64 x.dx, .int .i64 x.now, .int .i64 x.p, .int .i64 x.t, .int .i64 x.a, .int .i64 x.b, .int .i64 x.f]
theorem a22C_len (x : A22) : (a22C x).length = 7 := rfl
def stp (n : Int) : Int := if n % 7 = 2 then 1 else if n % 7 = 4 then 2 else if n % 7 = 6 then 1 else 0
theorem stp_get (m : Int) : [Value.int .i64 0, Value.int .i64 0, Value.int .i64 1, Value.int .i64 0, Value.int .i64 2, Value.int .i64 0, Value.int .i64 1][(m % 7).toNat]? = some (Value.int .i64 (stp m)) := by
  have h : m % 7 = 0 ∨ m % 7 = 1 ∨ m % 7 = 2 ∨ m % 7 = 3 ∨ m % 7 = 4 ∨ m % 7 = 5 ∨ m % 7 = 6 := by omega
  unfold stp
  rcases h with h | h | h | h | h | h | h <;> rw [h] <;> rfl
theorem stp_le (m : Int) : 0 ≤ stp m ∧ stp m ≤ 2 := by unfold stp; repeat' split <;> omega
def mk22 (k : Int) (now n : Int) : A22 :=
  ⟨if n / 3 % 5 = 0 then 1 else 0, now, if n / 7 % 17 = 16 then k else n / 7 % k, if n / 504 % 23 = 22 then now + 9 else now + n / 56 % 9 - 3,
   if n / 504 % 29 = 28 then 2 else n / 504 % 36 % 3 - 1, n / 504 % 36 / 3 % 3 - 1, n / 504 % 36 / 9⟩
def ar7 (z : Int) : Int := aroundZ z 10000000
def nowOf : List Int → Int
  | [] => 0
  | z :: zs => stp (ar7 z) + nowOf zs
def actsF (k : Int) : List Int → Int → List A22
  | [], _ => []
  | z :: zs, now => mk22 k (now + stp (ar7 z)) (ar7 z) :: actsF k zs (now + stp (ar7 z))
def acts22 (k : Int) (zs : List Int) : List A22 := actsF k zs 0
theorem nowOf_snoc (zs : List Int) (z : Int) : nowOf (zs ++ [z]) = nowOf zs + stp (ar7 z) := by
  induction zs with
  | nil => simp [nowOf]
  | cons y zs ih => simp only [List.cons_append, nowOf, ih]; omega
theorem actsF_snoc (k : Int) (zs : List Int) (z : Int) (now : Int) : actsF k (zs ++ [z]) now = actsF k zs now ++ [mk22 k (now + nowOf zs + stp (ar7 z)) (ar7 z)] := by
  induction zs generalizing now with
  | nil => simp [actsF, nowOf]
  | cons y zs ih => simp only [List.cons_append, actsF, ih, nowOf]; rw [show now + stp (ar7 y) + nowOf zs = now + (stp (ar7 y) + nowOf zs) by omega]
theorem acts22_snoc (k : Int) (zs : List Int) (z : Int) : acts22 k (zs ++ [z]) = acts22 k zs ++ [mk22 k (nowOf (zs ++ [z])) (ar7 z)] := by
  unfold acts22
  rw [actsF_snoc, nowOf_snoc, Int.zero_add]
theorem nowOf_le (zs : List Int) : 0 ≤ nowOf zs ∧ nowOf zs ≤ 2 * zs.length := by
  induction zs with
  | nil => simp [nowOf]
  | cons z zs ih => have := stp_le (ar7 z); simp only [nowOf, List.length_cons]; omega
theorem acts22_len (k : Int) (zs : List Int) : (acts22 k zs).length = zs.length := by
  have : ∀ (zs : List Int) (now : Int), (actsF k zs now).length = zs.length := by
    intro zs
    induction zs with
    | nil => intro _; rfl
    | cons z zs ih => intro now; simp [actsF, ih]
  exact this zs 0
/-- what holds of every call -/
structure Ok22 (k : Int) (x : A22) : Prop where
  d : x.dx = 0 ∨ x.dx = 1
  n0 : 0 ≤ x.now
  n1 : x.now ≤ 100
  p0 : 0 ≤ x.p
  p1 : x.p ≤ k
  t0 : -3 ≤ x.t
  t1 : x.t ≤ x.now + 9
  a0 : -1 ≤ x.a
  a1 : x.a ≤ 2
  b0 : -1 ≤ x.b
  b1 : x.b ≤ 1
  f0 : 0 ≤ x.f
  f1 : x.f ≤ 3
theorem ok_mk22 (k now n : Int) (hk : 1 ≤ k) (h0 : 0 ≤ now) (h1 : now ≤ 100) : Ok22 k (mk22 k now n) := by
  have e1 : 0 ≤ n / 7 % k := Int.emod_nonneg _ (by omega)
  have e2 : n / 7 % k < k := Int.emod_lt_of_pos _ (by omega)
  refine ⟨?_, ?_, ?_, ?_, ?_, ?_, ?_, ?_, ?_, ?_, ?_, ?_, ?_⟩ <;> simp only [mk22]
  · split <;> simp
  · exact h0
  · exact h1
  · split <;> omega
  · split <;> omega
  · split <;> omega
  · split <;> omega
  · split <;> omega
  · split <;> omega
  all_goals omega
theorem acts22_ok (k : Int) (zs : List Int) (hk : 1 ≤ k) (hl : zs.length ≤ 40) : ∀ x ∈ acts22 k zs, Ok22 k x := by
  have : ∀ (zs : List Int) (now : Int), 0 ≤ now → now + 2 * zs.length ≤ 100 → ∀ x ∈ actsF k zs now, Ok22 k x := by
    intro zs
    induction zs with
    | nil => intro now _ _ x hx; cases hx
    | cons z zs ih =>
      intro now h0 h1 x hx
      have hs := stp_le (ar7 z)
      simp only [List.length_cons] at h1
      rcases List.mem_cons.1 hx with rfl | hx
      · exact ok_mk22 k _ _ hk (by omega) (by omega)
      · exact ih _ (by omega) (by omega) x hx
  exact this zs 0 (by omega) (by omega)
theorem infoA22 : (Try.prog.info? 36).map (fun i => (i.zero, i.size, i.bytes)) = some (some (.agg #[.int .i64 0, .int .i64 0, .int .i64 0, .int .i64 0, .int .i64 0, .int .i64 0, .int .i64 0]), 7, 56) := by kernel_rfl
set_option maxRecDepth 100000 in
set_option maxHeartbeats 1000000 in
theorem acts22_any (a : Option Addr) (n cap : Nat) (k : Nat) (zs : List Int) (w : World) (hs : Sl w 1 a n cap (zs.map (Value.int .i64))) (hz : ∀ z ∈ zs, -9223372036854775808 ≤ z ∧ z ≤ 9223372036854775807) (hk1 : 1 ≤ k) (hk8 : k ≤ 8) :
    Calls Try.prog 12 #[.slice a n cap, .int .i64 k] w (RetOwn w 36 7 (min n 40) ((acts22 k (zs.take 40)).flatMap a22C)) := by
  obtain ⟨i0, hi, hz0, hz1, hz2⟩ := info_parts infoA22
  have hlen : zs.length = n := by have := hs.1; simpa using this
  have hcapn := hs.2.1
  have hcap := hs.2.2.1
  unfold maxLen at hcap
  have HS := Lib.hid hs
  have HL := Lib.hid hlen
  have HZ := Lib.hid hz
  have HI := Lib.hid hi
  clear hs hlen hz hi
  go_enter Try.func12, Try.ntmps12
  go_wp2_with (fail)
  go_loopw [5, 6, 7] (fun v nw i wr => ∃ (j cp : Nat) (b : Option Addr), j ≤ n ∧ j ≤ 40 ∧ i = .int .i64 j ∧ nw = .int .i64 (nowOf (zs.take j)) ∧ v = .slice b j cp ∧ wr.ownsRow w.heap.size 36 7 (.slice b j cp) j ((acts22 k (zs.take j)).flatMap a22C) ∧ Q w wr) (fun _ _ i _ => n - (intOf i).toNat)
  case atStart => exact ⟨0, 0, none, by omega, by omega, rfl, rfl, rfl, World.ownsRow_nil _ _ _ _, Q.refl _⟩
  case round =>
    obtain ⟨j, cp, b, hjn, hj40, rfl, rfl, rfl, hown, hq⟩ := hrel
    have HO := Lib.hid hown
    have HQ := Lib.hid hq
    have hnl := nowOf_le (zs.take j)
    have hjl : (zs.take j).length ≤ j := List.length_take_le _ _
    by_cases h1 : j < n ∧ j < 40
    · obtain ⟨h1, h2⟩ := h1
      have h1' : (j : Int) < n := by omega
      have hzl : j < zs.length := by rw [HL.out]; exact h1
      obtain ⟨g, o, rfl, hg, hcs⟩ := (HS.out.q hq).pos (by omega)
      have hce : wr.cell? ⟨g, o + j, none⟩ = some (.int .i64 zs[j]) := hcs j _ (by simp [hzl])
      have hzr := Lib.hid (HZ.out _ (List.getElem_mem hzl))
      have HN := Lib.hid (show acts22 k (zs.take (j + 1)) = acts22 k (zs.take j) ++ [mk22 k (nowOf (zs.take j) + stp (ar7 zs[j])) (ar7 zs[j])] by rw [take_snoc_get _ _ hzl, acts22_snoc, nowOf_snoc])
      have HW := Lib.hid (show nowOf (zs.take (j + 1)) = nowOf (zs.take j) + stp (ar7 zs[j]) by rw [take_snoc_get _ _ hzl, nowOf_snoc])
      unfold ar7 at HN HW
      generalize zs[j] = z at *
      generalize nowOf (zs.take j) = now at *
      clear hcs hzl hown hq
      go_wp2_with (fail)
      refine (around_any z 10000000 _ hzr.out (by omega)).mono ?_
      rintro e w1 ⟨rfl, rfl⟩
      have p0 := aroundZ_lo z 10000000 (by omega)
      have p1 := aroundZ_hi z 10000000 (by omega)
      generalize aroundZ z 10000000 = m at *
      clear hce
      have hkg := stp_get m
      have hst := stp_le m
      go_upto_region 8 with (fail)
      have HQ1 := Lib.hid ((Q.refl wr).alloc (.cells #[.int .i64 0, .int .i64 0, .int .i64 1, .int .i64 0, .int .i64 2, .int .i64 0, .int .i64 1] 3))
      generalize wr.alloc (.cells #[.int .i64 0, .int .i64 0, .int .i64 1, .int .i64 0, .int .i64 2, .int .i64 0, .int .i64 1] 3) = wa at *
      have hnw0 : 0 ≤ now + stp m := by omega
      have hnw1 : now + stp m ≤ 200 := by omega
      generalize hnw : now + stp m = nw at *
      have HNW := Lib.hid hnw
      clear hnw hkg hst
      have HX := Lib.hid (show aroundZ (m / 504) 36 = m / 504 % 36 by unfold aroundZ; rw [if_neg (by omega)])
      generalize hx : m / 504 % 36 = x at *
      have HXX := Lib.hid hx
      have hx0 : 0 ≤ x := by omega
      have hx1 : x < 36 := by omega
      clear hx
      go_cut [9] (fun s9 wx => ∃ AB, s9 = .pointer (some ⟨AB, 0, none⟩) ∧ Box wx AB [.int .i64 0, .int .i64 nw, .int .i64 (m / 7 % k), .int .i64 (nw + m / 56 % 9 - 3), .int .i64 (x % 3 - 1), .int .i64 (x / 3 % 3 - 1), .int .i64 (x / 9)] ∧ Q wa wx ∧ hsz wa ≤ AB)
      case first =>
        refine wp_region_tree (fun w'' => ∃ x : After wa.drew, w'' = x.w) (.val 0 (.val 1 (.val 2 (.val 3 (.val 4 (.val 5 (.val 6 (.val 7 (.val 8 (.val 9 (.val 10 (.val 11 (.val 12 (.two 13 (.val 14 (.one 15 (.one 16 (.fin)))) 15 (.one 13 (.val 14 (.one 16 (.fin)))))))))))))))))) (by kernel_rfl) (by kernel_rfl) (fun _ _ _ _ _ h => h) ⟨⟨_, Q.refl _⟩, rfl⟩ ?_
        have HQW := Lib.hid (Q.drew (Q.refl wa))
        generalize wa.drew = W at *
        repeat (refine tree_val rfl rfl ?_; go_big_quiet_step (fail); refine wpQuiet_nil ?_)
        refine tree_two ?_ ?_
        · refine tree_one rfl rfl ?_
          intro K hK
          go_wp2_with (fail)
          refine (of_any (m / 504) _ (by omega)).mono ?_
          rintro e wd ⟨rfl, hqd⟩
          rw [HX.out]
          refine hK _ _ ⟨⟨_, hqd⟩, rfl⟩ ?_
          clear hK K
          refine tree_val rfl rfl ?_; go_big_quiet_step (fail); refine wpQuiet_nil ?_
          refine tree_one rfl rfl ?_
          intro K hK
          go_wp2_with (fail)
          refine hK _ _ ⟨⟨_, hqd.alloc _⟩, rfl⟩ ?_
          clear hK K
          have HB : Hid (Box (wd.alloc (.cells #[.int .i64 0, .int .i64 0, .int .i64 0, .int .i64 0, .int .i64 0, .int .i64 0, .int .i64 0] 36)) wd.heap.size [.int .i64 0, .int .i64 0, .int .i64 0, .int .i64 0, .int .i64 0, .int .i64 0, .int .i64 0]) := Lib.hid (Box.new wd _ 36)
          have HAB := Lib.hid (show W.heap.size ≤ wd.heap.size from hqd.size)
          have HABa := Lib.hid (show hsz wa ≤ wd.heap.size from (HQW.out.trans hqd).size)
          have HQD := Lib.hid (hqd.alloc (.cells #[.int .i64 0, .int .i64 0, .int .i64 0, .int .i64 0, .int .i64 0, .int .i64 0, .int .i64 0] 36))
          generalize wd.alloc (.cells #[.int .i64 0, .int .i64 0, .int .i64 0, .int .i64 0, .int .i64 0, .int .i64 0, .int .i64 0] 36) = wf at *
          generalize wd.heap.size = AB at *
          obtain ⟨e0, f0⟩ := HB.out.2 0 _ rfl
          obtain ⟨e1, f1⟩ := HB.out.2 1 _ rfl
          obtain ⟨e2, f2⟩ := HB.out.2 2 _ rfl
          obtain ⟨e3, f3⟩ := HB.out.2 3 _ rfl
          obtain ⟨e4, f4⟩ := HB.out.2 4 _ rfl
          obtain ⟨e5, f5⟩ := HB.out.2 5 _ rfl
          obtain ⟨e6, f6⟩ := HB.out.2 6 _ rfl
          have hABl := HB.out.1
          refine tree_one rfl rfl ?_
          intro K hK
          go_wp2_with (fail)
          have HQ7 := Lib.hid (((((((HQD.out.setCell (p := ⟨AB, 0, none⟩) HAB.out (.int .i64 0)).setCell (p := ⟨AB, 1, none⟩) HAB.out (.int .i64 nw)).setCell (p := ⟨AB, 2, none⟩) HAB.out (.int .i64 (m / 7 % k))).setCell (p := ⟨AB, 3, none⟩) HAB.out (.int .i64 (nw + m / 56 % 9 - 3))).setCell (p := ⟨AB, 4, none⟩) HAB.out (.int .i64 (x % 3 - 1))).setCell (p := ⟨AB, 5, none⟩) HAB.out (.int .i64 (x / 3 % 3 - 1))).setCell (p := ⟨AB, 6, none⟩) HAB.out (.int .i64 (x / 9)))
          refine hK _ _ ⟨⟨_, HQ7.out⟩, rfl⟩ ?_
          clear hK K e0 e1 e2 e3 e4 e5 e6 f0 f1 f2 f3 f4 f5 f6
          refine tree_end ?_
          go_wp2_with (fail)
          go_meet
          refine ⟨AB, rfl, ?_, HQW.out.trans HQ7.out, HABa.out⟩
          exact Box.set (Box.set (Box.set (Box.set (Box.set (Box.set (Box.set HB.out 0 (.int .i64 0) (show 0 < 7 by decide)) 1 (.int .i64 nw) (show 1 < 7 by decide)) 2 (.int .i64 (m / 7 % k)) (show 2 < 7 by decide)) 3 (.int .i64 (nw + m / 56 % 9 - 3)) (show 3 < 7 by decide)) 4 (.int .i64 (x % 3 - 1)) (show 4 < 7 by decide)) 5 (.int .i64 (x / 3 % 3 - 1)) (show 5 < 7 by decide)) 6 (.int .i64 (x / 9)) (show 6 < 7 by decide)
        · refine tree_one rfl rfl ?_
          intro K hK
          go_wp2_with (fail)
          refine hK _ _ ⟨⟨_, (Q.refl W).alloc _⟩, rfl⟩ ?_
          clear hK K
          have HB : Hid (Box (W.alloc (.cells #[.int .i64 0, .int .i64 0, .int .i64 0, .int .i64 0, .int .i64 0, .int .i64 0, .int .i64 0] 36)) W.heap.size [.int .i64 0, .int .i64 0, .int .i64 0, .int .i64 0, .int .i64 0, .int .i64 0, .int .i64 0]) := Lib.hid (Box.new W _ 36)
          have HAB0 := Lib.hid (show hsz W ≤ W.heap.size from Nat.le_refl _)
          have HABa := Lib.hid (show hsz wa ≤ W.heap.size from (HQW.out.trans (Q.refl W)).size)
          have HQD := Lib.hid ((Q.refl W).alloc (.cells #[.int .i64 0, .int .i64 0, .int .i64 0, .int .i64 0, .int .i64 0, .int .i64 0, .int .i64 0] 36))
          generalize W.alloc (.cells #[.int .i64 0, .int .i64 0, .int .i64 0, .int .i64 0, .int .i64 0, .int .i64 0, .int .i64 0] 36) = wf at *
          generalize W.heap.size = AB at *
          refine tree_one rfl rfl ?_
          intro K hK
          go_wp2_with (fail)
          refine (of_any (m / 504) _ (by omega)).mono ?_
          rintro e wd ⟨rfl, hqd⟩
          rw [HX.out]
          refine hK _ _ ⟨⟨_, HQD.out.trans hqd⟩, rfl⟩ ?_
          clear hK K
          have HB2 := Lib.hid (Box.q HB.out hqd)
          have HQD2 := Lib.hid (HQD.out.trans hqd)
          have HAB := Lib.hid (show W.heap.size ≤ AB from HAB0.out)
          clear HB HQD hqd HAB0
          have HB := HB2
          have HQD := HQD2
          clear HB2 HQD2
          refine tree_val rfl rfl ?_; go_big_quiet_step (fail); refine wpQuiet_nil ?_
          obtain ⟨e0, f0⟩ := HB.out.2 0 _ rfl
          obtain ⟨e1, f1⟩ := HB.out.2 1 _ rfl
          obtain ⟨e2, f2⟩ := HB.out.2 2 _ rfl
          obtain ⟨e3, f3⟩ := HB.out.2 3 _ rfl
          obtain ⟨e4, f4⟩ := HB.out.2 4 _ rfl
          obtain ⟨e5, f5⟩ := HB.out.2 5 _ rfl
          obtain ⟨e6, f6⟩ := HB.out.2 6 _ rfl
          have hABl := HB.out.1
          refine tree_one rfl rfl ?_
          intro K hK
          go_wp2_with (fail)
          have HQ7 := Lib.hid (((((((HQD.out.setCell (p := ⟨AB, 0, none⟩) HAB.out (.int .i64 0)).setCell (p := ⟨AB, 1, none⟩) HAB.out (.int .i64 nw)).setCell (p := ⟨AB, 2, none⟩) HAB.out (.int .i64 (m / 7 % k))).setCell (p := ⟨AB, 3, none⟩) HAB.out (.int .i64 (nw + m / 56 % 9 - 3))).setCell (p := ⟨AB, 4, none⟩) HAB.out (.int .i64 (x % 3 - 1))).setCell (p := ⟨AB, 5, none⟩) HAB.out (.int .i64 (x / 3 % 3 - 1))).setCell (p := ⟨AB, 6, none⟩) HAB.out (.int .i64 (x / 9)))
          refine hK _ _ ⟨⟨_, HQ7.out⟩, rfl⟩ ?_
          clear hK K e0 e1 e2 e3 e4 e5 e6 f0 f1 f2 f3 f4 f5 f6
          refine tree_end ?_
          go_wp2_with (fail)
          go_meet
          refine ⟨AB, rfl, ?_, HQW.out.trans HQ7.out, HABa.out⟩
          exact Box.set (Box.set (Box.set (Box.set (Box.set (Box.set (Box.set HB.out 0 (.int .i64 0) (show 0 < 7 by decide)) 1 (.int .i64 nw) (show 1 < 7 by decide)) 2 (.int .i64 (m / 7 % k)) (show 2 < 7 by decide)) 3 (.int .i64 (nw + m / 56 % 9 - 3)) (show 3 < 7 by decide)) 4 (.int .i64 (x % 3 - 1)) (show 4 < 7 by decide)) 5 (.int .i64 (x / 3 % 3 - 1)) (show 5 < 7 by decide)) 6 (.int .i64 (x / 9)) (show 6 < 7 by decide)
      case rest =>
        obtain ⟨AB, rfl, hbx, hqc, hab⟩ := hcut
        have HB8 := Lib.hid hbx
        have HQ8 := Lib.hid hqc
        have HA8 := Lib.hid hab
        clear hbx hqc hab
        obtain ⟨v2, Hv2⟩ : ∃ v : Int, Hid (v = if m / 7 % 17 = 16 then (k : Int) else (m / 7 % k)) := ⟨_, Lib.hid rfl⟩
        go_upto_if 50 with (fail)
        go_cut [9] (fun s9 wx => s9 = .pointer (some ⟨AB, 0, none⟩) ∧ Box wx AB [.int .i64 0, .int .i64 nw, .int .i64 v2, .int .i64 (nw + m / 56 % 9 - 3), .int .i64 (x % 3 - 1), .int .i64 (x / 3 % 3 - 1), .int .i64 (x / 9)] ∧ Q wa wx)
        case first =>
          by_cases hc : m / 7 % 17 = 16
          · have hb : (m / 7 % 17 == 16) = true := by simpa using hc
            have hv : v2 = (k : Int) := by rw [Hv2.out, if_pos hc]
            obtain ⟨ee, ff⟩ := HB8.out.2 2 _ rfl
            have hABl := HB8.out.1
            have HV := Lib.hid hv
            clear hc hv
            go_wp2
            go_meet
            rw [HV.out]
            exact ⟨rfl, Box.set HB8.out 2 _ (show 2 < 7 by decide), HQ8.out.setCell (p := ⟨AB, 2, none⟩) HA8.out _⟩
          · have hb : (m / 7 % 17 == 16) = false := by simpa using hc
            have hv : v2 = (m / 7 % k) := by rw [Hv2.out, if_neg hc]
            have HV := Lib.hid hv
            clear hc hv
            go_wp2
            go_meet
            rw [HV.out]
            exact ⟨rfl, HB8.out, HQ8.out⟩
        case rest =>
          obtain ⟨rfl, hbx, hqc⟩ := hcut
          have HB9 := Lib.hid hbx
          have HQ9 := Lib.hid hqc
          clear hbx hqc HB8 HQ8
          obtain ⟨v3, Hv3⟩ : ∃ v : Int, Hid (v = if m / 504 % 23 = 22 then (nw + 9) else (nw + m / 56 % 9 - 3)) := ⟨_, Lib.hid rfl⟩
          go_upto_if 56 with (fail)
          go_cut [9] (fun s9 wx => s9 = .pointer (some ⟨AB, 0, none⟩) ∧ Box wx AB [.int .i64 0, .int .i64 nw, .int .i64 v2, .int .i64 v3, .int .i64 (x % 3 - 1), .int .i64 (x / 3 % 3 - 1), .int .i64 (x / 9)] ∧ Q wa wx)
          case first =>
            by_cases hc : m / 504 % 23 = 22
            · have hb : (m / 504 % 23 == 22) = true := by simpa using hc
              have hv : v3 = (nw + 9) := by rw [Hv3.out, if_pos hc]
              obtain ⟨ee, ff⟩ := HB9.out.2 3 _ rfl
              have hABl := HB9.out.1
              have HV := Lib.hid hv
              clear hc hv
              go_wp2
              go_meet
              rw [HV.out]
              exact ⟨rfl, Box.set HB9.out 3 _ (show 3 < 7 by decide), HQ9.out.setCell (p := ⟨AB, 3, none⟩) HA8.out _⟩
            · have hb : (m / 504 % 23 == 22) = false := by simpa using hc
              have hv : v3 = (nw + m / 56 % 9 - 3) := by rw [Hv3.out, if_neg hc]
              have HV := Lib.hid hv
              clear hc hv
              go_wp2
              go_meet
              rw [HV.out]
              exact ⟨rfl, HB9.out, HQ9.out⟩
          case rest =>
            obtain ⟨rfl, hbx, hqc⟩ := hcut
            have HB10 := Lib.hid hbx
            have HQ10 := Lib.hid hqc
            clear hbx hqc HB9 HQ9
            obtain ⟨v4, Hv4⟩ : ∃ v : Int, Hid (v = if m / 504 % 29 = 28 then 2 else (x % 3 - 1)) := ⟨_, Lib.hid rfl⟩
            go_upto_if 63 with (fail)
            go_cut [9] (fun s9 wx => s9 = .pointer (some ⟨AB, 0, none⟩) ∧ Box wx AB [.int .i64 0, .int .i64 nw, .int .i64 v2, .int .i64 v3, .int .i64 v4, .int .i64 (x / 3 % 3 - 1), .int .i64 (x / 9)] ∧ Q wa wx)
            case first =>
              by_cases hc : m / 504 % 29 = 28
              · have hb : (m / 504 % 29 == 28) = true := by simpa using hc
                have hv : v4 = 2 := by rw [Hv4.out, if_pos hc]
                obtain ⟨ee, ff⟩ := HB10.out.2 4 _ rfl
                have hABl := HB10.out.1
                have HV := Lib.hid hv
                clear hc hv
                go_wp2
                go_meet
                rw [HV.out]
                exact ⟨rfl, Box.set HB10.out 4 _ (show 4 < 7 by decide), HQ10.out.setCell (p := ⟨AB, 4, none⟩) HA8.out _⟩
              · have hb : (m / 504 % 29 == 28) = false := by simpa using hc
                have hv : v4 = (x % 3 - 1) := by rw [Hv4.out, if_neg hc]
                have HV := Lib.hid hv
                clear hc hv
                go_wp2
                go_meet
                rw [HV.out]
                exact ⟨rfl, HB10.out, HQ10.out⟩
            case rest =>
              obtain ⟨rfl, hbx, hqc⟩ := hcut
              have HB11 := Lib.hid hbx
              have HQ11 := Lib.hid hqc
              clear hbx hqc HB10 HQ10
              obtain ⟨v0, Hv0⟩ : ∃ v : Int, Hid (v = if m / 3 % 5 = 0 then 1 else 0) := ⟨_, Lib.hid rfl⟩
              go_upto_if 69 with (fail)
              go_cut [9] (fun s9 wx => s9 = .pointer (some ⟨AB, 0, none⟩) ∧ Box wx AB [.int .i64 v0, .int .i64 nw, .int .i64 v2, .int .i64 v3, .int .i64 v4, .int .i64 (x / 3 % 3 - 1), .int .i64 (x / 9)] ∧ Q wa wx)
              case first =>
                by_cases hc : m / 3 % 5 = 0
                · have hb : (m / 3 % 5 == 0) = true := by simpa using hc
                  have hv : v0 = 1 := by rw [Hv0.out, if_pos hc]
                  obtain ⟨ee, ff⟩ := HB11.out.2 0 _ rfl
                  have hABl := HB11.out.1
                  have HV := Lib.hid hv
                  clear hc hv
                  go_wp2
                  go_meet
                  rw [HV.out]
                  exact ⟨rfl, Box.set HB11.out 0 _ (show 0 < 7 by decide), HQ11.out.setCell (p := ⟨AB, 0, none⟩) HA8.out _⟩
                · have hb : (m / 3 % 5 == 0) = false := by simpa using hc
                  have hv : v0 = 0 := by rw [Hv0.out, if_neg hc]
                  have HV := Lib.hid hv
                  clear hc hv
                  go_wp2
                  go_meet
                  rw [HV.out]
                  exact ⟨rfl, HB11.out, HQ11.out⟩
              case rest =>
                obtain ⟨rfl, hbx, hqc⟩ := hcut
                have HB12 := Lib.hid hbx
                have HQ12 := Lib.hid hqc
                clear hbx hqc HB11 HQ11
                have HM := Lib.hid (show a22C (mk22 k nw m) = [.int .i64 v0, .int .i64 nw, .int .i64 v2, .int .i64 v3, .int .i64 v4, .int .i64 (x / 3 % 3 - 1), .int .i64 (x / 9)] by
                  simp only [a22C, mk22]
                  rw [HXX.out, ← Hv0.out, ← Hv2.out, ← Hv3.out, ← Hv4.out])
                obtain ⟨e0, f0⟩ := HB12.out.2 0 _ rfl
                obtain ⟨e1, f1⟩ := HB12.out.2 1 _ rfl
                obtain ⟨e2, f2⟩ := HB12.out.2 2 _ rfl
                obtain ⟨e3, f3⟩ := HB12.out.2 3 _ rfl
                obtain ⟨e4, f4⟩ := HB12.out.2 4 _ rfl
                obtain ⟨e5, f5⟩ := HB12.out.2 5 _ rfl
                obtain ⟨e6, f6⟩ := HB12.out.2 6 _ rfl
                have hABl := HB12.out.1
                have HQ13 := Lib.hid (HQ.out.trans (HQ1.out.trans HQ12.out))
                have HO4 := Lib.hid (own_q HO.out (HQ1.out.trans HQ12.out))
                go_wp2_with (at_builtin; refine append_one rfl _ _ 31 rfl w.heap.size 36 i0 _ 7 56 Try.underlying31 HI.out hz0 hz1 hz2 rfl (by decide) _ j _ rfl HO4.out 1 _ rfl [.int .i64 v0, .int .i64 nw, .int .i64 v2, .int .i64 v3, .int .i64 v4, .int .i64 (x / 3 % 3 - 1), .int .i64 (x / 9)] rfl rfl (by simp [Value.oneCell']) (by omega) (by decide) HQ13.out.size ?_; intro g5 cap5 w5 hown5 hq5)
                go_roundw
                case rel => exact ⟨j + 1, cap5, _, by omega, by omega, by go_num, by rw [HW.out], rfl, by rw [HN.out, List.flatMap_append, List.flatMap_singleton, HM.out]; exact hown5, hq5 _ HQ13.out (Nat.le_refl _)⟩
                case measure => simp [intOf]; omega
    · have e1 : min n 40 = j := by omega
      have e2 : zs.take j = zs.take 40 := by
        by_cases h : j < n
        · rw [show j = 40 by omega]
        · rw [List.take_of_length_le (by rw [HL.out]; omega), List.take_of_length_le (by rw [HL.out]; omega)]
      have HE := Lib.hid e1
      have HE2 := Lib.hid e2
      clear e1 e2 hown hq
      by_cases h : j < n
      · have h40 : ¬ (j : Int) < 40 := by omega
        go_wp2
        go_ret
        rw [HE.out, ← HE2.out]
        exact ⟨_, _, rfl, HO.out, HQ.out⟩
      · have h40 : ¬ (j : Int) < n := by omega
        go_wp2
        go_ret
        rw [HE.out, ← HE2.out]
        exact ⟨_, _, rfl, HO.out, HQ.out⟩
end Go.Proofs.Ytpoffkkkkieniaa
