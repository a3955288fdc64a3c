/- Contract: NewPartial. -/
import Derived.Test.YtcgnihgebifcjaaMkY
namespace Go.Proofs.Ytcgnihgebifcjaa
open Go Go.RowKit Go.BigFrame
attribute [local go_sem] Oper.semAt_some

/-- a leaf in memory -/
structure LF where
  i : Int
  v : Int
  a : Option Addr
  m : Nat
  c : Nat
  p : List Int
def lfC (x : LF) : List Value := [.int .i64 x.i, .int .i64 x.v, .slice x.a x.m x.c]
theorem lfC_len (x : LF) : (lfC x).length = 3 := rfl
theorem lfs_len : ∀ L : List LF, (L.flatMap lfC).length = L.length * 3
  | [] => rfl
  | x :: L => by rw [List.flatMap_cons, List.length_append, lfs_len L, lfC_len, List.length_cons]; omega
theorem lfs_get : ∀ (L : List LF) (i j : Nat) (_ : i < L.length) (_ : j < 3), (L.flatMap lfC)[i * 3 + j]? = (lfC L[i])[j]?
  | x :: L, 0, j, _, hj => by rw [List.flatMap_cons, Nat.zero_mul, Nat.zero_add, List.getElem?_append_left (by rw [lfC_len]; exact hj)]; rfl
  | x :: L, i + 1, j, hi, hj => by
    rw [List.flatMap_cons, List.getElem?_append_right (by rw [lfC_len]; omega), lfC_len, show (i + 1) * 3 + j - 3 = i * 3 + j by omega]
    exact lfs_get L i j (by simpa using hi) hj
def I64 (x : Int) : Prop := -9223372036854775808 ≤ x ∧ x ≤ 9223372036854775807
structure LfsAt (w : World) (a : Option Addr) (n cap : Nat) (L : List LF) : Prop where
  sl : Sl w 3 a n cap (L.flatMap lfC)
  pr : ∀ x ∈ L, Sl w 1 x.a x.m x.c (x.p.map (Value.int .u64)) ∧ I64 x.i ∧ I64 x.v
theorem LfsAt.len {w : World} {a : Option Addr} {n cap : Nat} {L : List LF} (h : LfsAt w a n cap L) : L.length = n := by have := h.sl.1; rw [lfs_len] at this; omega
theorem LfsAt.q {w w' : World} {a : Option Addr} {n cap : Nat} {L : List LF} (h : LfsAt w a n cap L) (q : Q w w') : LfsAt w' a n cap L := ⟨h.sl.q q, fun x hx => ⟨(h.pr x hx).1.q q, (h.pr x hx).2⟩⟩
theorem LfsAt.at {w : World} {a : Option Addr} {n cap : Nat} {L : List LF} (h : LfsAt w a n cap L) (j : Nat) (hj : j < L.length) : ∃ g o, a = some ⟨g, o, none⟩ ∧ g < w.heap.size ∧ w.cell? ⟨g, o + j * 3, none⟩ = some (.int .i64 L[j].i) ∧ w.cell? ⟨g, o + j * 3 + 1, none⟩ = some (.int .i64 L[j].v) ∧ w.cell? ⟨g, o + j * 3 + 2, none⟩ = some (.slice L[j].a L[j].m L[j].c) := by
  obtain ⟨g, o, ha, hg, hc⟩ := h.sl.pos (by have := h.len; omega)
  refine ⟨g, o, ha, hg, ?_, ?_, ?_⟩
  · have := hc (j * 3 + 0) _ (by rw [lfs_get L j 0 hj (by decide)]; rfl); exact this
  · have := hc (j * 3 + 1) _ (by rw [lfs_get L j 1 hj (by decide)]; rfl); rw [← Nat.add_assoc] at this; exact this
  · have := hc (j * 3 + 2) _ (by rw [lfs_get L j 2 hj (by decide)]; rfl); rw [← Nat.add_assoc] at this; exact this
/-- one leaf taken up -/
def addF (x : LF) (N : Nat × Nat → Option Int) (l : Nat) : Nat × Nat → Option Int := putN N (l, sib (up x.i.toNat l)) (x.p.getD l 0)
def addP (s : PS) (x : LF) : PS := ⟨putC s.cm x.i x.v, (List.range x.m).foldl (addF x) s.N, s.root⟩
def badP (root : Int) (n : Nat) (s : PS) (x : LF) : Bool := !verZ root n x.i x.v x.p || ((s.cm x.i).isSome && ((s.cm x.i).getD 0 != x.v))
def np1 (root : Int) (n : Nat) : PS → List LF → Option PS
  | s, [] => some s
  | s, x :: xs => if badP root n s x then none else np1 root n (addP s x) xs
def np2 (n : Nat) (s : PS) (L : List LF) : PS := L.foldl (fun s x => updP n x.i.toNat s) s
def ps0 (root : Int) : PS := ⟨fun _ => none, fun _ => none, root⟩
def npZ (root : Int) (n : Nat) (L : List LF) : Option PS := (np1 root n (ps0 root) L).map (np2 n · L)
def NpRet (w : World) (root : Int) (n : Nat) (L : List LF) (e : Ending) (w' : World) : Prop :=
  Q w w' ∧ match npZ root n L with
    | none => e = .returned (.tuple #[.pointer none, .int .i64 22])
    | some s => ∃ PB MC MN, e = .returned (.tuple #[.pointer (some ⟨PB, 0, none⟩), .int .i64 0]) ∧ PartAt w' PB MC MN n s ∧ w.heap.size ≤ PB ∧ w.heap.size ≤ MC ∧ w.heap.size ≤ MN
def npFr (root : Int) (n : Nat) (a : Option Addr) (c cap QB MC MN PB j : Nat) (U : Nat → Value) : Array Value :=
  #[.int .u64 root, .int .i64 n, .slice a c cap, undef, undef, undef, .pointer none, .int .i64 0, .pointer (some ⟨QB, 0, none⟩), undef, U 10, U 11, U 12, U 13, U 14, undef, undef, .int .i64 n, .int .u64 root, .map (some MC), .map (some MN), .agg #[.int .i64 n, .int .u64 root, .map (some MC), .map (some MN)], .pointer (some ⟨PB, 0, none⟩), .slice a c cap, .int .i64 c, .int .i64 j, U 26, U 27, U 28, U 29, U 30, U 31, U 32, U 33, U 34, U 35, U 36, U 37, U 38, U 39, U 40, U 41, U 42, U 43, U 44, U 45, U 46, U 47, U 48, U 49, U 50, U 51, U 52, U 53, U 54, U 55, U 56, U 57, U 58, U 59, U 60, U 61, U 62, U 63, U 64, U 65, U 66, U 67, U 68, U 69, U 70, U 71, U 72, U 73, U 74, U 75, U 76, U 77, U 78, U 79, U 80, U 81, U 82, undef, undef, undef, undef, undef, undef, undef, undef, undef, undef, undef, undef]
theorem MarksOk.qf' {ds : List Deferred} {W W' : World} {F : Nat → Prop} (h : MarksOk ds W) (q : QF F W W') (hF : ∀ b, F b → ¬ MarkF ds b) : MarksOk ds W' := by
  refine ⟨fun d hd => ?_, h.2⟩
  obtain ⟨D, h1, h2⟩ := h.1 d hd
  exact ⟨D, h1, (q.block D (Array.getElem?_eq_some_iff.1 h2).1 (fun hf => hF D hf ⟨d, hd, h1⟩)).trans h2⟩
theorem MarksOk.lt {ds : List Deferred} {W : World} (h : MarksOk ds W) (b : Nat) (hb : MarkF ds b) : b < W.heap.size := by
  obtain ⟨d, hd, e⟩ := hb
  obtain ⟨D, h1, h2⟩ := h.1 d hd
  rw [e] at h1
  cases h1
  exact (Array.getElem?_eq_some_iff.1 h2).1
theorem MarksOk.cons {ds : List Deferred} {W : World} {D : Nat} (h : MarksOk ds W) (hD : W.heap[D]? = some (.deferred (some []))) (hn : ∀ b, MarkF ds b → b < D) : MarksOk ({ target := .collected D, args := #[] } :: ds) W := by
  refine ⟨fun d hd => ?_, List.pairwise_cons.2 ⟨fun d hd e => ?_, h.2⟩⟩
  · rcases List.mem_cons.1 hd with rfl | h'
    · exact ⟨D, rfl, hD⟩
    · exact h.1 d h'
  · obtain ⟨E, h1, h2⟩ := h.1 d hd
    rw [h1] at e
    injection e with e
    have := hn E ⟨d, hd, h1⟩
    omega
/-- the memory of NewPartial between two rounds -/
structure NpM (w : World) (root : Int) (n QB MC MN PB : Nat) (ds : List Deferred) (s : PS) (wr : World) : Prop where
  part : PartAt wr PB MC MN n s
  box : Box wr QB [.pointer (some ⟨PB, 0, none⟩)]
  q : Q w wr
  marks : MarksOk ds wr
  mb : ∀ b, MarkF ds b → QB < b
  cr : ∀ i v, s.cm i = some v → I64 v
  lo : w.heap.size ≤ PB ∧ w.heap.size ≤ MC ∧ w.heap.size ≤ MN
  hi : PB < QB ∧ MC < QB ∧ MN < QB
def NpI (w : World) (root : Int) (n : Nat) (a : Option Addr) (c cap : Nat) (L : List LF) (QB MC MN PB : Nat) (a' : Act) (wr : World) : Prop :=
  ∃ (j : Nat) (s : PS), (∃ U, a'.tmps = npFr root n a c cap QB MC MN PB j U) ∧ j ≤ c ∧ np1 root n (ps0 root) L = np1 root n s (L.drop j) ∧ NpM w root n QB MC MN PB a'.defers s wr
theorem npFr_of {root : Int} {n : Nat} {a : Option Addr} {c cap QB MC MN PB j : Nat} (X : Array Value) (h : X = npFr root n a c cap QB MC MN PB j (fun i => X.getD i undef)) : ∃ U, X = npFr root n a c cap QB MC MN PB j U := ⟨_, h⟩
theorem NpM.q' {w : World} {root : Int} {n QB MC MN PB : Nat} {ds : List Deferred} {s : PS} {wr wr' : World} (h : NpM w root n QB MC MN PB ds s wr) (q : Q wr wr') : NpM w root n QB MC MN PB ds s wr' :=
  ⟨h.part.q q, h.box.q q, h.q.trans q, h.marks.qf' (F := fun _ => False) (QF.of q) (fun _ h => h.elim), h.mb, h.cr, h.lo, h.hi⟩
theorem NpM.qf' {w : World} {root : Int} {n QB MC MN PB : Nat} {ds : List Deferred} {s : PS} {wr wr' : World} {F : Nat → Prop} (h : NpM w root n QB MC MN PB ds s wr) (q : QF F wr wr') (hF : ∀ b, F b → QB < b ∧ ¬ MarkF ds b) : NpM w root n QB MC MN PB ds s wr' := by
  obtain ⟨h1, h2, h3⟩ := h.hi
  refine ⟨h.part.qf q (fun e => by have := (hF _ e).1; omega) (fun e => by have := (hF _ e).1; omega) (fun e => by have := (hF _ e).1; omega), h.box.qf q (fun e => by have := (hF _ e).1; omega), QF.q h.q q (fun b hb => ?_), h.marks.qf' q (fun b hb => (hF b hb).2), h.mb, h.cr, h.lo, h.hi⟩
  have := (hF b hb).1
  have := h.lo.1
  omega
theorem NpM.putC' {w : World} {root : Int} {n QB MC MN PB : Nat} {ds : List Deferred} {s : PS} {wr wr' : World} (h : NpM w root n QB MC MN PB ds s wr) (i x : Int) (hx : I64 x) (q : QF (· = MC) wr wr') (hm : MapIs Try.prog 3 kI wr' MC (fun y => if y = i then some (.int .i64 x) else cmV s.cm y)) :
    NpM w root n QB MC MN PB ds ⟨putC s.cm i x, s.N, s.root⟩ wr' := by
  obtain ⟨h1, h2, h3⟩ := h.hi
  refine ⟨h.part.putC i x q hm, h.box.qf q (fun e => by omega), QF.q h.q q (fun b hb => by rw [hb]; exact h.lo.2.1), h.marks.qf' q (fun b hb hm => by have := h.mb b hm; omega), h.mb, (fun j v hv => ?_), h.lo, h.hi⟩
  replace hv : (if j = i then some x else s.cm j) = some v := hv
  split at hv
  · cases hv; exact hx
  · exact h.cr j v hv
theorem NpM.putN' {w : World} {root : Int} {n QB MC MN PB : Nat} {ds : List Deferred} {s : PS} {wr wr' : World} (h : NpM w root n QB MC MN PB ds s wr) (p : Nat × Nat) (x : Int) (q : QF (· = MN) wr wr') (hm : MapIs Try.prog 75 kP wr' MN (fun y => if y = p then some (.int .u64 x) else nmV s.N y)) :
    NpM w root n QB MC MN PB ds ⟨s.cm, putN s.N p x, s.root⟩ wr' := by
  obtain ⟨h1, h2, h3⟩ := h.hi
  exact ⟨h.part.putN p x q hm, h.box.qf q (fun e => by omega), QF.q h.q q (fun b hb => by rw [hb]; exact h.lo.2.2), h.marks.qf' q (fun b hb hm => by have := h.mb b hm; omega), h.mb, h.cr, h.lo, h.hi⟩
theorem np1_ver {root : Int} {n : Nat} : ∀ (L : List LF) (s s' : PS), np1 root n s L = some s' → ∀ x ∈ L, verZ root n x.i x.v x.p = true
  | [], _, _, _, x, hx => by cases hx
  | y :: L, s, s', h, x, hx => by
    unfold np1 at h
    cases hb : badP root n s y with
    | true => rw [hb] at h; cases h
    | false =>
      rw [hb] at h
      rcases List.mem_cons.1 hx with rfl | h'
      · unfold badP at hb
        cases hv : verZ root n x.i x.v x.p with
        | true => rfl
        | false => rw [hv] at hb; cases hb
      · exact np1_ver L _ _ h x h'
theorem ver_rng {root : Int} {n : Nat} {i v : Int} {p : List Int} (h : verZ root n i v p = true) : 0 ≤ i ∧ i < n := by
  unfold verZ at h
  simp only [Bool.and_eq_true, decide_eq_true_eq] at h
  exact ⟨h.1.1.1, h.1.1.2⟩
theorem NpM.upd {w : World} {root : Int} {n QB MC MN PB k : Nat} {ds : List Deferred} {s : PS} {wr wr' : World} {e : Ending} (h : NpM w root n QB MC MN PB ds s wr) (r : UpdRet wr PB MC MN n k s e wr') : NpM w root n QB MC MN PB ds (updP n k s) wr' := by
  obtain ⟨h1, h2, h3⟩ := h.hi
  refine ⟨r.2.1, h.box.qf r.2.2 (fun e => by omega), QF.q h.q r.2.2 (fun b hb => by rcases hb with e | e <;> rw [e]; exact h.lo.1; exact h.lo.2.2), h.marks.qf' r.2.2 (fun b hb hm => by have := h.mb b hm; omega), h.mb, h.cr, h.lo, h.hi⟩
set_option maxRecDepth 100000 in
set_option maxHeartbeats 2000000 in
theorem mNewPartial_any (root : Int) (n : Nat) (a : Option Addr) (c cap : Nat) (L : List LF) (w : World) (hL : LfsAt w a c cap L) (hn : n ≤ 1000) (hc : c ≤ 100) :
    Calls Try.prog 26 #[.int .u64 root, .int .i64 n, .slice a c cap] w (NpRet w root n L) := by
  have HL := Lib.hid hL
  have HLL := Lib.hid hL.len
  clear hL
  refine calls_marks Try.func26 rfl ?_
  simp only [Try.ntmps26, List.size_toArray, List.length_cons, List.length_nil, Nat.reduceAdd, Nat.reduceSub, Array.replicate_succ, Array.replicate_zero, List.push_toArray, List.append_toArray, List.nil_append, List.cons_append]
  have hmm := @run_makeMap Try.prog
  go_upto_region 2 with (fail)
  clear hmm
  go_wp2_with (fail)
  have q1 : Q w (w.alloc (.map #[] 0)) := (Q.refl w).alloc _
  have q2 : Q (w.alloc (.map #[] 0)) ((w.alloc (.map #[] 0)).alloc (.map #[] 0)) := (Q.refl _).alloc _
  have m1 := MapIs.new w Try.prog 3 kI
  have m2 := MapIs.new (w.alloc (.map #[] 0)) Try.prog 75 kP
  have b1 := Box.new ((w.alloc (.map #[] 0)).alloc (.map #[] 0)) [.int .i64 n, .int .u64 root, .map (some w.heap.size), .map (some (w.heap.size + 1))] 73
  have b2 := Box.new (((w.alloc (.map #[] 0)).alloc (.map #[] 0)).alloc (.cells #[.int .i64 n, .int .u64 root, .map (some w.heap.size), .map (some (w.heap.size + 1))] 73)) [.pointer (some ⟨w.heap.size + 1 + 1, 0, none⟩)] 47
  rw [World.size_alloc] at m2
  simp only [World.size_alloc] at b1 b2
  have NP : Hid (NpM w root n (w.heap.size + 1 + 1 + 1) w.heap.size (w.heap.size + 1) (w.heap.size + 1 + 1) [] (ps0 root) ((((w.alloc (.map #[] 0)).alloc (.map #[] 0)).alloc (.cells #[.int .i64 n, .int .u64 root, .map (some w.heap.size), .map (some (w.heap.size + 1))] 73)).alloc (.cells #[.pointer (some ⟨w.heap.size + 1 + 1, 0, none⟩)] 47))) := by
    refine Lib.hid ⟨⟨b1.alloc _, ?_, ?_, by omega, by omega, by omega⟩, b2, ((q1.trans q2).alloc _).alloc _, MarksOk.nil _, (fun b hb => by obtain ⟨d, hd, _⟩ := hb; cases hd), (fun i v h => by cases h), ⟨by omega, by omega, by omega⟩, ⟨by omega, by omega, by omega⟩⟩
    · exact m1.q (((q2).alloc _).alloc _)
    · exact m2.q (((Q.refl _).alloc _).alloc _)
  clear q1 q2 m1 m2 b1 b2
  generalize (((w.alloc (.map #[] 0)).alloc (.map #[] 0)).alloc (.cells #[.int .i64 n, .int .u64 root, .map (some w.heap.size), .map (some (w.heap.size + 1))] 73)).alloc (.cells #[.pointer (some ⟨w.heap.size + 1 + 1, 0, none⟩)] 47) = W at *
  generalize hQB : w.heap.size + 1 + 1 + 1 = QB at *
  generalize hPB : w.heap.size + 1 + 1 = PB at *
  generalize hMN : w.heap.size + 1 = MN at *
  generalize hMC : w.heap.size = MC at *
  clear hQB hPB hMN
  refine wp_loop (NpI w root n a c cap L QB MC MN PB) (fun a' _ => c - (intOf (a'.tmps.getD 25 undef)).toNat) ?start ?round
  case start =>
    refine ⟨0, ps0 root, npFr_of _ rfl, by omega, rfl, NP.out⟩
  case round =>
    rintro ⟨tm, ds⟩ wr ⟨j, s, ⟨U, hU⟩, hj, hnp, hm⟩
    obtain rfl : tm = _ := hU
    have HNP := Lib.hid hnp
    have HM : Hid (NpM w root n QB MC MN PB ds s wr) := Lib.hid hm
    clear hnp hm NP
    have HMU := Lib.hid (show c - (intOf ((npFr root n a c cap QB MC MN PB j U).getD 25 undef)).toNat = c - j from rfl)
    dsimp only
    generalize c - (intOf ((npFr root n a c cap QB MC MN PB j U).getD 25 undef)).toNat = mu at *
    unfold npFr
    by_cases hjc : j < c
    · have hji : (j : Int) < (c : Int) := by omega
      have hjl : j < L.length := by rw [HLL.out]; exact hjc
      obtain ⟨g, o, rfl, hg, c0, c1, c2⟩ := (HL.out.q HM.out.q).at j hjl
      have HX := Lib.hid (HL.out.pr _ (List.getElem_mem hjl))
      have HNX := Lib.hid (show np1 root n (ps0 root) L = (if badP root n s L[j] then none else np1 root n (addP s L[j]) (L.drop (j + 1))) by
        rw [HNP.out, List.drop_eq_getElem_cons hjl]; rfl)
      generalize L[j] = x at *
      obtain ⟨xi, xv, xa, xm, xc, xp⟩ := x
      dsimp only at c0 c1 c2
      have HX : Hid (Sl w 1 xa xm xc (xp.map (Value.int .u64)) ∧ I64 xi ∧ I64 xv) := HX
      go_upto_region 5 with (fail)
      have hqa : Q wr (wr.alloc (.cells #[.int .i64 xi, .int .i64 xv, .slice xa xm xc] 25)) := (Q.refl wr).alloc _
      have HX4 := Lib.hid (Box.new wr [.int .i64 xi, .int .i64 xv, .slice xa xm xc] 25)
      have HM4 := Lib.hid (HM.out.q' hqa)
      have HLB := Lib.hid (show QB < wr.heap.size ∧ ∀ b, MarkF ds b → b < wr.heap.size from ⟨HM.out.box.1, HM.out.marks.lt⟩)
      clear hqa HM hg c0 c1 c2
      generalize wr.alloc (.cells #[.int .i64 xi, .int .i64 xv, .slice xa xm xc] 25) = w4 at *
      generalize wr.heap.size = LB at *
      refine wp_region_mix [(0, true), (1, true), (2, true), (3, true), (4, true), (5, true), (6, true), (7, true), (8, true), (9, true), (10, true), (11, true)] (by kernel_rfl) (by kernel_rfl) (fun _ _ _ _ _ h => h) ?_
      have hqd : Q w4 w4.drew := (Q.refl w4).drew
      have HX5 := Lib.hid (HX4.out.q hqd)
      have HM5 := Lib.hid (HM4.out.q' hqd)
      clear hqd HX4 HM4
      generalize w4.drew = w5 at *
      have y0 : ∀ y : After w5, y.w.cell? ⟨QB, 0, none⟩ = some (.pointer (some ⟨PB, 0, none⟩)) := Box.sf HM5.out.box 0 _ rfl
      have y1 : ∀ y : After w5, y.w.cell? ⟨PB, 2, none⟩ = some (.map (some MC)) := Box.sf HM5.out.part.box 2 _ rfl
      have y2 : ∀ y : After w5, y.w.cell? ⟨LB, 0, none⟩ = some (.int .i64 xi) := Box.sf HX5.out 0 _ rfl
      have y3 : ∀ y : After w5, (Instr.lookup 70 (.map (some MC)) (.int .i64 xi) true).run Try.prog y.w = .ok (.tuple #[.int .i64 ((s.cm xi).getD 0), .bool (s.cm xi).isSome]) y.w := fun y => lookC (HM5.out.part.cm.q y.q) xi HX.out.2.1
      have HBP := Lib.hid (show badP root n s ⟨xi, xv, xa, xm, xc, xp⟩ = (!verZ root n xi xv xp || ((s.cm xi).isSome && ((s.cm xi).getD 0 != xv))) from rfl)
      generalize hcv : (s.cm xi).getD 0 = cv at *
      generalize hck : (s.cm xi).isSome = ck at *
      clear hcv hck
      repeat (first | (refine mix_val rfl rfl ?_; go_big_quiet_step (fail); refine wpQuiet_nil ?_) | (refine mix_nil rfl rfl rfl ?_; go_big_quiet_step (fail); refine wpQuiet_nil ?_))
      clear y0 y1 y2 y3
      refine mix_end ?_
      obtain ⟨hxl, x0, x1, x2⟩ := Box.here3 HX5.out
      go_upto_region 6 with (fail)
      go_cut [52] from 39 to 52 (fun s52 wx => s52 = .bool (badP root n s ⟨xi, xv, xa, xm, xc, xp⟩) ∧ Q w5 wx)
      case first =>
        go_wp2_with (fail)
        refine (mVerify_any root n xi xv xa xm xc xp _ (by omega) HX.out.2.1 HX.out.2.2 ((HX.out.1).q HM5.out.q)).mono ?_
        rintro e w6 ⟨rfl, hq6⟩
        have HQ6 := Lib.hid hq6
        have HX6 := Lib.hid (HX5.out.q hq6)
        clear hq6 hxl x0 x1 x2
        obtain ⟨hxl, x0, x1, x2⟩ := Box.here3 HX6.out
        cases hvz : verZ root n xi xv xp with
        | false =>
          have HB := Lib.hid (show badP root n s ⟨xi, xv, xa, xm, xc, xp⟩ = true by rw [HBP.out, hvz]; rfl)
          clear hvz
          go_wp2_with (fail)
          go_meet
          rw [HB.out]
          exact ⟨rfl, HQ6.out⟩
        | true =>
          cases ck with
          | false =>
            have HB := Lib.hid (show badP root n s ⟨xi, xv, xa, xm, xc, xp⟩ = false by rw [HBP.out, hvz]; rfl)
            clear hvz
            go_wp2_with (fail)
            go_meet
            rw [HB.out]
            exact ⟨rfl, HQ6.out⟩
          | true =>
            have HB := Lib.hid (show badP root n s ⟨xi, xv, xa, xm, xc, xp⟩ = (cv != xv) by rw [HBP.out, hvz]; rfl)
            clear hvz
            generalize hne : (cv != xv) = ne at *
            go_wp2_with (fail)
            go_meet
            rw [HB.out]
            exact ⟨rfl, HQ6.out⟩
      case rest =>
        obtain ⟨rfl, hq6⟩ := hcut
        have HX6 := Lib.hid (HX5.out.q hq6)
        have HM6 := Lib.hid (HM5.out.q' hq6)
        clear hq6 hxl x0 x1 x2
        cases hb : badP root n s ⟨xi, xv, xa, xm, xc, xp⟩ with
        | true =>
          have HNZ := Lib.hid (show npZ root n L = none by unfold npZ; rw [HNX.out, hb]; rfl)
          clear hb
          go_wp2
          refine postM_ret (v := .tuple #[.pointer none, .int .i64 22]) HM6.out.marks (fun W' q => ⟨results_tmp2 (fn := Try.f26) (t := 6) (u := 7) rfl _ _ _, q_marks HM6.out.q q (fun d hd b e => ?_), by rw [HNZ.out]⟩)
          have h1 := HM6.out.mb b ⟨d, hd, e⟩
          have h2 := HM6.out.hi.1
          have h3 := HM6.out.lo.1
          omega
        | false =>
          have HNY := Lib.hid (show np1 root n (ps0 root) L = np1 root n (addP s ⟨xi, xv, xa, xm, xc, xp⟩) (L.drop (j + 1)) by rw [HNX.out, hb]; rfl)
          have hvz : verZ root n xi xv xp = true := by
            have h := HBP.out
            rw [hb] at h
            cases hz : verZ root n xi xv xp with
            | true => rfl
            | false => rw [hz] at h; cases h
          unfold verZ at hvz
          simp only [Bool.and_eq_true, decide_eq_true_eq] at hvz
          obtain ⟨⟨⟨hv0, hv1⟩, hv2⟩, _⟩ := hvz
          obtain ⟨k, rfl⟩ := Int.eq_ofNat_of_zero_le hv0
          have h17 := hgt_17 n (by omega)
          have hkn : k < n := by omega
          have HXP := Lib.hid (show xp.length = xm by have := HX.out.1.1; simpa using this)
          have hxm : xm ≤ 17 := by have := HXP.out; omega
          clear hb hv0 hv1 hv2 h17
          go_upto_region 8 with (fail)
          refine wp_region_mixS (F := fun _ => False) 8 [(0, true), (1, true), (2, true), (3, true), (4, true), (5, true), (6, true), (7, true), (8, false)] (by kernel_rfl) (by kernel_rfl) (fun _ _ _ _ _ h => h) ?_
          have hqd : Q wc wc.drew := (Q.refl wc).drew
          have HX7 := Lib.hid (HX6.out.q hqd)
          have HM7 := Lib.hid (HM6.out.q' hqd)
          clear hqd HX6 HM6
          generalize wc.drew = w7 at *
          have y0 : ∀ y : AfterF (fun _ => False) w7, y.w.cell? ⟨QB, 0, none⟩ = some (.pointer (some ⟨PB, 0, none⟩)) := Box.sF HM7.out.box (fun e => e) 0 _ rfl
          have y1 : ∀ y : AfterF (fun _ => False) w7, y.w.cell? ⟨PB, 2, none⟩ = some (.map (some MC)) := Box.sF HM7.out.part.box (fun e => e) 2 _ rfl
          have y2 : ∀ y : AfterF (fun _ => False) w7, y.w.cell? ⟨LB, 0, none⟩ = some (.int .i64 k) := Box.sF HX7.out (fun e => e) 0 _ rfl
          have y3 : ∀ y : AfterF (fun _ => False) w7, y.w.cell? ⟨LB, 1, none⟩ = some (.int .i64 xv) := Box.sF HX7.out (fun e => e) 1 _ rfl
          repeat (first | (refine mixS_val rfl rfl ?_; go_big_quiet_step (fail); refine wpQuiet_nil ?_) | (refine mixS_nil rfl rfl rfl ?_; go_big_quiet_step (fail); refine wpQuiet_nil ?_))
          clear y0 y1 y2 y3
          refine mixS_last rfl rfl ?_
          intro K hK
          refine wp_put _ _ _ 70 rfl keyedInt Try.underlying70 kI_inj (k : Int) (keyInt (k : Int) (by omega)) (.int .i64 xv) rfl rfl rfl HM7.out.part.cm ?_
          intro w8 hm8 hq8 hsz8
          go_frame
          refine hK _ _ ?_
          clear hK K
          refine mixS_end ?_
          have HM8 := Lib.hid (HM7.out.putC' k xv HX.out.2.2 hq8 hm8)
          have HX8 := Lib.hid (HX7.out.qf hq8 (fun e => by have h1 := HLB.out.1; have h2 := HM7.out.hi.2.1; omega))
          clear hm8 hq8 hsz8 HM7 HX7
          obtain ⟨hxl, x0, x1, x2⟩ := Box.here3 HX8.out
          go_wp2_with (fail)
          refine (mPath_any k xm _).mono ?_
          rintro e w9 ⟨rfl, rfl⟩
          go_wp2_with (fail)
          have hq9 : Q w8 ((w8.alloc (.cells #[.int .i64 k] 3)).alloc (.cells #[.int .i64 xm] 3)) := ((Q.refl w8).alloc _).alloc _
          have bI := (Boxed.new w8 3 (.int .i64 k)).alloc (.cells #[.int .i64 xm] 3)
          have bM := Boxed.new (w8.alloc (.cells #[.int .i64 k] 3)) 3 (.int .i64 xm)
          rw [World.size_alloc] at bM
          have HX9 := Lib.hid (HX8.out.q hq9)
          have HM9 := Lib.hid (HM8.out.q' hq9)
          have HW9 := Lib.hid (show ((w8.alloc (.cells #[.int .i64 k] 3)).alloc (.cells #[.int .i64 xm] 3)).heap.size = w8.heap.size + 1 + 1 by simp)
          have HL9 := Lib.hid (show LB < w8.heap.size from HX8.out.1)
          clear hq9 hxl x0 x1 x2 HX8 HM8
          have HI9 := Lib.hid bI
          have HMM9 := Lib.hid bM
          clear bI bM
          generalize (w8.alloc (.cells #[.int .i64 k] 3)).alloc (.cells #[.int .i64 xm] 3) = W9 at *
          generalize w8.heap.size = IB at *
          refine wp_path (σ := Nat × Nat → Option Int) (IB + 1) IB k xm (by omega) (by omega) rfl rfl HMM9.out HI9.out (addF ⟨k, xv, xa, xm, xc, xp⟩) s.N
            (fun jj N V => NpM w root n QB MC MN PB ds ⟨putC s.cm k xv, N, s.root⟩ V ∧ Box V LB [.int .i64 k, .int .i64 xv, .slice xa xm xc] ∧ W9.heap.size ≤ V.heap.size)
            ⟨HM9.out, HX9.out, Nat.le_refl _⟩ ?stay ?a1 ?assign ?body ?done
          case stay =>
            rintro jj N V V' ⟨t1, t2, t3⟩ q
            have e1 := HW9.out
            have e2 := HL9.out
            obtain ⟨e3, e4⟩ := HLB.out
            exact ⟨t1.qf' q (fun b hb => ⟨by have := hb.1; omega, fun hm => by have h1 := hb.1; have h2 := e4 b hm; omega⟩), t2.qf q (fun e => by have := e.1; omega), Nat.le_trans t3 q.size⟩
          case assign =>
            intro l n' y V K hK
            unfold lvl
            gi_wp2
            exact hK
          case body =>
            rintro l n' y jj N V R hx hjj ⟨t1, t2, t3⟩ hL hR hK
            have HKK := Lib.hid hK
            have HRR := Lib.hid hR
            have HT1 := Lib.hid t1
            have HT2 := Lib.hid t2
            have HT3 := Lib.hid t3
            clear hK t1 t2 t3
            refine wpIn_block ?_
            gi_wp2_with (fail)
            refine wpIn_region_mixS (F := fun _ => False) 13 [(0, true), (1, true), (2, true), (3, true), (4, true), (5, true), (6, true), (7, true), (8, true), (9, true), (10, true), (11, true), (12, true), (13, false)] (by kernel_rfl) (by kernel_rfl) (fun c a d v w h => HRR.out c a d v w h) (fun ⟨a', w', h⟩ => hL ⟨a', w', h⟩) ?_
            have hqd : Q V V.drew := (Q.refl V).drew
            have HD1 := Lib.hid (HT1.out.q' hqd)
            have HD2 := Lib.hid (HT2.out.q hqd)
            have HD3 := Lib.hid (show W9.heap.size ≤ V.drew.heap.size from HT3.out)
            have HAF := Lib.hid (show addF ⟨k, xv, xa, xm, xc, xp⟩ N y = putN N (y, sib (up k y)) (xp.getD y 0) from rfl)
            have HKD := Lib.hid (show ∀ a' W', KeepsFrom W9.heap.size V.drew W' → W'.heap[IB]? = V.drew.heap[IB]? → (NpM w root n QB MC MN PB ds ⟨putC s.cm k xv, addF ⟨k, xv, xa, xm, xc, xp⟩ N y, s.root⟩ W' ∧ Box W' LB [.int .i64 k, .int .i64 xv, .slice xa xm xc] ∧ W9.heap.size ≤ W'.heap.size) → R .normal a' W' from fun a' W' h1 h2 h3 => HKK.out a' W' ⟨h1.size, h1.same⟩ h2 h3)
            clear hqd HKK HT1 HT2 HT3
            rw [HAF.out] at HKD
            generalize V.drew = W1 at *
            obtain ⟨g5, o5, rfl, hg5, hcs⟩ := ((HX.out.1).q HD1.out.q).pos (by omega)
            have hpx : (xp.map (Value.int .u64))[y]? = some (.int .u64 (xp.getD y 0)) := by
              rw [List.getElem?_map, List.getElem?_eq_getElem (show y < xp.length by rw [HXP.out]; exact hx), List.getD_eq_getElem?_getD, List.getElem?_eq_getElem (show y < xp.length by rw [HXP.out]; exact hx)]
              rfl
            have y0 : ∀ z : AfterF (fun _ => False) W1, z.w.cell? ⟨QB, 0, none⟩ = some (.pointer (some ⟨PB, 0, none⟩)) := Box.sF HD1.out.box (fun e => e) 0 _ rfl
            have y1 : ∀ z : AfterF (fun _ => False) W1, z.w.cell? ⟨PB, 3, none⟩ = some (.map (some MN)) := Box.sF HD1.out.part.box (fun e => e) 3 _ rfl
            have y2 : ∀ z : AfterF (fun _ => False) W1, z.w.cell? ⟨LB, 2, none⟩ = some (.slice (some ⟨g5, o5, none⟩) xm xc) := Box.sF HD2.out (fun e => e) 2 _ rfl
            have y3 : ∀ z : AfterF (fun _ => False) W1, z.w.cell? ⟨g5, o5 + y, none⟩ = some (.int .u64 (xp.getD y 0)) := fun z => (World.cell?_of_block (a := ⟨g5, o5 + y, none⟩) (z.q.block g5 hg5 (fun e => e))).trans (hcs y _ hpx)
            generalize xp.getD y 0 = px at *
            have hx6 : up k y ≤ k := Nat.div_le_self _ _
            have hxor := sib_xor (up k y) (by omega)
            have hs6 : sib (up k y) ≤ up k y + 1 := by rw [sib_eq]; omega
            generalize sib (up k y) = sy at *
            generalize up k y = uy at *
            clear hpx hcs hg5
            repeat (first | (refine mixS_val rfl rfl ?_; go_big_quiet_step (fail); refine wpQuiet_nil ?_) | (refine mixS_nil rfl rfl rfl ?_; go_big_quiet_step (fail); refine wpQuiet_nil ?_))
            clear y0 y1 y2 y3
            refine mixS_last rfl rfl ?_
            intro K hK
            obtain ⟨kl, hkl⟩ := keyPlace (y, sy) (by show y ≤ _; omega) (by show sy ≤ _; omega)
            refine wp_put _ _ _ 71 rfl keyedPlace Try.underlying71 kP_inj (y, sy) hkl (.int .u64 px) rfl rfl rfl HD1.out.part.nm ?_
            intro w2 hm2 hq2 hsz2
            go_frame
            refine hK _ _ ?_
            clear hK K
            refine mixS_end ?_
            have e1 := HW9.out
            have e2 := HL9.out
            obtain ⟨e3, e4⟩ := HLB.out
            have e5 := HD1.out.hi.2.2
            have e6 := HD3.out
            refine HKD.out _ _ (QF.keeps hq2 (fun b hb hge o ho => by omega)) (hq2.block IB (by omega) (by omega)) ⟨HD1.out.putN' (y, sy) px hq2 hm2, HD2.out.qf hq2 (fun e => by omega), by rw [hsz2]; exact e6⟩
          case done =>
            rintro D V hD ⟨t1, t2, t3⟩ hh
            have e1 := HW9.out
            have e2 := HL9.out
            obtain ⟨e3, e4⟩ := HLB.out
            have HMD : Hid (NpM w root n QB MC MN PB ({ target := .collected D, args := #[] } :: ds) (addP s ⟨k, xv, xa, xm, xc, xp⟩) V) := by
              refine Lib.hid ⟨t1.part, t1.box, t1.q, t1.marks.cons hh (fun b hb => by have := e4 b hb; omega), fun b hb => ?_, t1.cr, t1.lo, t1.hi⟩
              obtain ⟨d, hd, he⟩ := hb
              rcases List.mem_cons.1 hd with rfl | h'
              · injection he with he; omega
              · exact t1.mb b ⟨d, h', he⟩
            clear t1 t2 t3 hh hD e1 e2 e3 e4
            go_wp2_with (fail)
            refine ⟨⟨j + 1, _, npFr_of _ rfl, by omega, HNY.out, HMD.out⟩, ?_⟩
            have := HMU.out
            simp [intOf]
            omega
    · have hje : j = c := by omega
      subst hje
      have HSS := Lib.hid (show np1 root n (ps0 root) L = some s by
        rw [HNP.out, List.drop_of_length_le (by rw [HLL.out]; exact Nat.le_refl _)]; rfl)
      have HVR := Lib.hid (fun x hx => ver_rng (np1_ver L _ _ HSS.out x hx))
      have HNZ := Lib.hid (show npZ root n L = some (np2 n s L) by unfold npZ; rw [HSS.out]; rfl)
      clear HMU hj hjc
      have hnj : ¬ (j : Int) < (j : Int) := by omega
      go_wp2_with (fail)
      clear hnj
      go_loopw [85] (fun iv wr' => ∃ (j2 : Nat) (s2 : PS), j2 ≤ j ∧ iv = .int .i64 j2 ∧ np2 n s L = np2 n s2 (L.drop j2) ∧ NpM w root n QB MC MN PB ds s2 wr') (fun iv _ => j - (intOf iv).toNat)
      case atStart => exact ⟨0, s, by omega, rfl, rfl, HM.out⟩
      case round =>
        obtain ⟨j2, s2, hj2, rfl, hnp2, hm2⟩ := hrel
        have HN2 := Lib.hid hnp2
        have HM2 := Lib.hid hm2
        clear hnp2 hm2
        by_cases hjc : j2 < j
        · have hji : (j2 : Int) < (j : Int) := by omega
          have hjl : j2 < L.length := by rw [HLL.out]; exact hjc
          obtain ⟨g, o, rfl, hg, c0, c1, c2⟩ := (HL.out.q HM2.out.q).at j2 hjl
          have hrg := HVR.out _ (List.getElem_mem hjl)
          have HNX := Lib.hid (show np2 n s L = np2 n (updP n L[j2].i.toNat s2) (L.drop (j2 + 1)) by
            rw [HN2.out, List.drop_eq_getElem_cons hjl]; rfl)
          generalize L[j2] = x at *
          obtain ⟨xi, xv, xa, xm, xc, xp⟩ := x
          dsimp only at c0 c1 c2 hrg
          obtain ⟨k, rfl⟩ := Int.eq_ofNat_of_zero_le hrg.1
          have hkn : k < n := by have := hrg.2; omega
          have HNX : Hid (np2 n s L = np2 n (updP n k s2) (L.drop (j2 + 1))) := HNX
          clear hrg
          go_upto_region 17 with (fail)
          have hqa : Q wr (wr.alloc (.cells #[.int .i64 k, .int .i64 xv, .slice xa xm xc] 25)) := (Q.refl wr).alloc _
          have HX4 := Lib.hid (Box.new wr [.int .i64 k, .int .i64 xv, .slice xa xm xc] 25)
          have HM4 := Lib.hid (HM2.out.q' hqa)
          clear hqa HM2 hg c0 c1 c2
          generalize wr.alloc (.cells #[.int .i64 k, .int .i64 xv, .slice xa xm xc] 25) = w4 at *
          generalize wr.heap.size = LB at *
          obtain ⟨hxl, x0, x1, x2⟩ := Box.here3 HX4.out
          obtain ⟨q0, _⟩ := HM4.out.box.2 0 _ rfl
          have hql := HM4.out.box.1
          go_wp2_with (fail)
          refine (mUpdate_any PB MC MN n k s2 _ HM4.out.part hkn hn HM4.out.cr).mono ?_
          rintro e w5 hr
          have HM5 := Lib.hid (HM4.out.upd hr)
          obtain ⟨⟨xx, rfl⟩, _⟩ := hr
          go_wp2
          go_roundw
          case rel => exact ⟨j2 + 1, _, by omega, by go_num, HNX.out, HM5.out⟩
          case measure => simp [intOf]; omega
        · have hje : j2 = j := by omega
          subst hje
          have HS3 := Lib.hid (show np2 n s L = s2 by rw [HN2.out, List.drop_of_length_le (by rw [HLL.out]; exact Nat.le_refl _)]; rfl)
          obtain ⟨q0, _⟩ := HM2.out.box.2 0 _ rfl
          have hql := HM2.out.box.1
          have hnj : ¬ (j2 : Int) < (j2 : Int) := by omega
          go_wp2
          refine postM_ret (v := .tuple #[.pointer (some ⟨PB, 0, none⟩), .int .i64 0]) HM2.out.marks (fun W' q => ⟨results_tmp2 (fn := Try.f26) (t := 6) (u := 7) rfl _ _ _, q_marks HM2.out.q q (fun d hd b e => ?_), ?_⟩)
          · have h1 := HM2.out.mb b ⟨d, hd, e⟩
            have h2 := HM2.out.hi.1
            have h3 := HM2.out.lo.1
            omega
          · rw [HNZ.out, HS3.out]
            obtain ⟨h1, h2, h3⟩ := HM2.out.hi
            exact ⟨PB, MC, MN, rfl, HM2.out.part.qf q (fun e => by have := HM2.out.mb _ e; omega) (fun e => by have := HM2.out.mb _ e; omega) (fun e => by have := HM2.out.mb _ e; omega), HM2.out.lo.1, HM2.out.lo.2.1, HM2.out.lo.2.2⟩
end Go.Proofs.Ytcgnihgebifcjaa
