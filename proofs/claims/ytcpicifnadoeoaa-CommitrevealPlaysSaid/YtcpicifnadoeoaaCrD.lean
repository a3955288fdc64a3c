/- Contract: Result. -/
import Derived.Test.YtcpicifnadoeoaaCrC
namespace Go.Proofs.Ytcpicifnadoeoaa
open Go Go.RowKit Go.BigFrame

/-- the input that counts for a player -/
def resC (s : St) (last : List Int) (i : Nat) : Int := if s.rev then s.inn else (last.getD i 4) % 9
def resFrom : List St → List Int → Nat → List Int
  | [], _, _ => []
  | s :: r, last, i => resC s last i :: resFrom r last (i + 1)
def faultFrom : List St → Nat → List Int
  | [], _ => []
  | s :: r, i => if s.rev then faultFrom r (i + 1) else (i : Int) :: faultFrom r (i + 1)
/-- the inputs of a result -/
def resL (sts : List St) (last : List Int) : List Int := resFrom sts last 0
/-- the players at fault -/
def faultL (sts : List St) : List Int := faultFrom sts 0
theorem resFrom_snoc (sts : List St) (s : St) (last : List Int) (i : Nat) : resFrom (sts ++ [s]) last i = resFrom sts last i ++ [resC s last (i + sts.length)] := by
  induction sts generalizing i with
  | nil => simp [resFrom]
  | cons a r ih => simp only [List.cons_append, resFrom, ih, List.length_cons]; rw [show i + 1 + r.length = i + (r.length + 1) by omega]
theorem faultFrom_snoc (sts : List St) (s : St) (i : Nat) : faultFrom (sts ++ [s]) i = faultFrom sts i ++ (if s.rev then [] else [((i + sts.length : Nat) : Int)]) := by
  induction sts generalizing i with
  | nil => simp [faultFrom]
  | cons a r ih =>
    simp only [List.cons_append, faultFrom, ih, List.length_cons]
    rw [show i + 1 + r.length = i + (r.length + 1) by omega]
    split <;> simp
theorem resL_take (sts : List St) (last : List Int) (k : Nat) (h : k < sts.length) : resL (sts.take (k + 1)) last = resL (sts.take k) last ++ [resC sts[k] last k] := by
  unfold resL
  rw [List.take_succ_eq_append_getElem h, resFrom_snoc, List.length_take, Nat.min_eq_left (by omega), Nat.zero_add]
theorem faultL_take (sts : List St) (k : Nat) (h : k < sts.length) : faultL (sts.take (k + 1)) = faultL (sts.take k) ++ (if sts[k].rev then [] else [(k : Int)]) := by
  unfold faultL
  rw [List.take_succ_eq_append_getElem h, faultFrom_snoc, List.length_take, Nat.min_eq_left (by omega), Nat.zero_add]
theorem resL_len (sts : List St) (last : List Int) : (resL sts last).length = sts.length := by
  have : ∀ (l : List St) i, (resFrom l last i).length = l.length := by
    intro l
    induction l with
    | nil => intro i; rfl
    | cons a r ih => intro i; simp [resFrom, ih]
  exact this sts 0
theorem resL_code (sts : List St) (last : List Int) (h : Sane sts) : ∀ c ∈ resL sts last, 0 ≤ c ∧ c < 36 := by
  have : ∀ (l : List St) i, (∀ s ∈ l, 0 ≤ s.inn ∧ s.inn < 36) → ∀ c ∈ resFrom l last i, 0 ≤ c ∧ c < 36 := by
    intro l
    induction l with
    | nil => intro i _ c hc; simp [resFrom] at hc
    | cons a r ih =>
      intro i hs c hc
      simp only [resFrom, List.mem_cons] at hc
      rcases hc with rfl | hc
      · unfold resC
        split
        · exact hs a List.mem_cons_self
        · have := Int.emod_nonneg (last.getD i 4) (show (9 : Int) ≠ 0 by decide)
          have := Int.emod_lt_of_pos (last.getD i 4) (show (0 : Int) < 9 by decide)
          omega
      · exact ih (i + 1) (fun s hs' => hs s (List.mem_cons_of_mem _ hs')) c hc
  exact this sts 0 h.code

/-- the cells of every block of another element type are kept -/
def Keeps (E : TypeId) (w w' : World) : Prop := ∀ (j : Nat) (E' : TypeId) (c : Array Value) (fr : Nat × Nat), E ≠ E' → w.heap[j]? = some (Obj.cells c E' fr) → w'.heap[j]? = some (Obj.cells c E' fr)
theorem Keeps.of_row {w w' : World} {b : Nat} {E : TypeId} {s : Nat} {v : Value} {n : Nat} {cs : List Value} (h : w.ownsRow b E s v n cs) (g : w.grownBy w' v.ownBlock) : Keeps E w w' := by
  intro j E' c fr hne hg
  refine (g.block j (Array.getElem?_eq_some_iff.1 hg).1 (fun e => ?_)).trans hg
  rcases h.2 with ⟨rfl, _⟩ | ⟨k2, c2, cur2, rfl, _, hg2, _⟩
  · simp [Value.ownBlock] at e
  · obtain rfl : j = k2 := by simpa [Value.ownBlock] using e
    rw [hg2] at hg
    cases hg
    exact hne rfl
theorem Keeps.own {w w' : World} {E E' : TypeId} {b s n : Nat} {v : Value} {cs : List Value} (k : Keeps E w w') (hne : E ≠ E') (h : w.ownsRow b E' s v n cs) : w'.ownsRow b E' s v n cs := by
  obtain ⟨h1, h2⟩ := h
  refine ⟨h1, ?_⟩
  rcases h2 with h2 | ⟨g, c, cur, he, hb, hg, r⟩
  · exact .inl h2
  · exact .inr ⟨g, c, cur, he, hb, k _ _ _ _ hne hg, r⟩
theorem Keeps.alloc {E : TypeId} {a w w' : World} (o : Obj) (h : a = w.alloc o) (k : Keeps E a w') : Keeps E w w' := by
  intro j E' c fr hne hg
  refine k j E' c fr hne ?_
  rw [h]
  exact (Below.heap_alloc _ _ _ (Array.getElem?_eq_some_iff.1 hg).1).trans hg
/-- 'append_one' that also says what becomes of rows of other element types -/
theorem append_two {P : Program} {w1 : World} {ops : Array Oper} {rest : List Oper} {op : Oper} {a : Act} {R : Exit → Act → World → Prop} (hgd : op.guard = none) (s x : Operand) (t : TypeId)
    (ho : op.op = .call { callee := .builtin .append, args := #[s, x], argTypes := #[t, t] })
    (base : Nat) (E : TypeId) (i : TypeInfo) (z : Value) (size bytes : Nat) (ht : P.underlying t = some (.slice E)) (hi : P.info? E = some i) (hz : i.zero = some z)
    (hsize : i.size = size) (hby : i.bytes = bytes) (hzs : z.cells.size = size) (hsz : 0 < size)
    (v : Value) (n : Nat) (xs : List Value) (hs : a.eval s = v) (hown : w1.ownsRow base E size v n xs)
    (c : Nat) (B : Nat) (hB : w1.heap.size = B) (news : List Value) (hx : a.eval x = .slice (some ⟨B, 0, none⟩) 1 c) (hl : news.length = size) (h1 : ∀ u ∈ news, u.oneCell' = true)
    (hn : n ≤ 100000) (hby2 : bytes ≤ 100000) (hb : base ≤ w1.heap.size)
    (h : ∀ g cap w', w'.ownsRow base E size (.slice (some ⟨g, 0, none⟩) (n + 1) cap) (n + 1) (xs ++ news) → (∀ w0, Q w0 w1 → w0.heap.size ≤ base → Q w0 w') → Keeps E w1 w' → wpList P ops R rest (a.put op.dst (.slice (some ⟨g, 0, none⟩) (n + 1) cap)) w') :
    wpList P ops R (op :: rest) a (w1.alloc (.cells news.toArray E)) := by
  subst hB
  have hbb : (n + 1) * bytes ≤ 140737488355328 := Nat.le_trans (Nat.mul_le_mul (show n + 1 ≤ 100001 by omega) hby2) (by decide)
  refine wpList_append_lies _ hgd s x t ho base E i z size bytes ht hi hz hsize hby hzs hsz v n xs hs (hown.alloc _) ⟨w1.heap.size, 0, none⟩ 1 c news hx (by omega) (World.news_of_block (heap_alloc_new w1 _)) h1 (by decide) (by unfold maxLen; omega) hbb (by simp; omega) _ rfl ?_
  intro g cap w2 hown2 hgrow2 _ _
  exact h g cap w2 hown2 (fun w0 q hb0 => (q.alloc _).grown_own (hown.alloc _) hb0 hgrow2) (Keeps.alloc _ rfl (Keeps.of_row (hown.alloc _) hgrow2))

/-- block B holds cells of type E -/
def TyAt (w : World) (B : Nat) (E : TypeId) : Prop := ∃ (c : Array Value) (fr : Nat × Nat), w.heap[B]? = some (Obj.cells c E fr)
theorem TyAt.set {w : World} {B : Nat} {E : TypeId} (h : TyAt w B E) (p : Addr) (u : Value) : TyAt (w.setCell p u) B E := by
  obtain ⟨c, fr, h⟩ := h
  obtain ⟨hlt, hk⟩ := Array.getElem?_eq_some_iff.1 h
  by_cases e : p.block = B
  · refine ⟨if p.spot.isSome then c else c.setIfInBounds p.off u, fr, ?_⟩
    show (w.heap.modify p.block _)[B]? = _
    rw [e, Array.getElem?_eq_getElem (by rw [Array.size_modify]; exact hlt), Array.getElem_modify_self, hk]
  · exact ⟨c, fr, (Below.heap_setCell _ _ _ _ (fun h' => e h'.symm)).trans h⟩
theorem TyAt.q {w w' : World} {B : Nat} {E : TypeId} (h : TyAt w B E) (q : Q w w') : TyAt w' B E := by
  obtain ⟨c, fr, h⟩ := h
  exact ⟨c, fr, (Below.block q B (Array.getElem?_eq_some_iff.1 h).1).trans h⟩
theorem TyAt.own {w : World} {B b : Nat} {E E' : TypeId} {s n : Nat} {v : Value} {cs : List Value} (h : TyAt w B E') (hne : E ≠ E') (o : w.ownsRow b E s v n cs) (i : Nat) (u : Value) : (w.setCell ⟨B, i, none⟩ u).ownsRow b E s v n cs := by
  obtain ⟨h1, h2⟩ := o
  refine ⟨h1, ?_⟩
  rcases h2 with h2 | ⟨g, c, cur, he, hb, hg, r⟩
  · exact .inl h2
  · refine .inr ⟨g, c, cur, he, hb, (Below.heap_setCell _ _ _ _ (fun e => ?_)).trans hg, r⟩
    obtain ⟨c', fr, h⟩ := h
    simp only at e
    subst e
    rw [h] at hg
    cases hg
    exact hne rfl
theorem Box.of_cells {w : World} {B : Nat} {E : TypeId} {vs : List Value} (h : w.heap[B]? = some (Obj.cells vs.toArray E (0, 0))) : Box w B vs := by
  refine ⟨(Array.getElem?_eq_some_iff.1 h).1, fun k v hv => ⟨?_, by simp [World.frozen?, h]⟩⟩
  rw [cell_of_row w B k _ E (0, 0) h]
  simpa using hv
theorem inC_predict (x : Int) : inC (x % 9) = [.int .i64 (x % 3 - 1), .int .i64 (x / 3 % 3 - 1), .int .i64 0] := by
  unfold inC
  rw [show x % 9 % 3 = x % 3 by omega, show x % 9 / 3 % 3 = x / 3 % 3 by omega, show x % 9 / 9 = 0 by omega]
/-- two results: the inputs, and the players at fault -/
def RetRes (w : World) (sts : List St) (last : List Int) (e : Ending) (w' : World) : Prop :=
  ∃ a1 c1 a2 c2, e = .returned (.tuple #[.slice a1 (resL sts last).length c1, .slice a2 (faultL sts).length c2]) ∧ w'.ownsRow w.heap.size 25 3 (.slice a1 (resL sts last).length c1) (resL sts last).length (inCells (resL sts last)) ∧
    w'.ownsRow w.heap.size 3 1 (.slice a2 (faultL sts).length c2) (faultL sts).length ((faultL sts).map (Value.int .i64)) ∧ Q w w'

theorem crResult_any (B : Nat) (t : Int) (k : Nat) (o : Bool) (sts : List St) (la : Option Addr) (ln lc : Nat) (last : List Int) (w : World) (hR : Rd w B t k o sts) (h8 : sts.length = 8) (hk : k ≤ 8) (hs : Sl w 3 la ln lc (inCells last)) (hc : ∀ c ∈ last, 0 ≤ c ∧ c < 36) :
    Calls Try.prog 19 #[.pointer (some ⟨B, 0, none⟩), .slice la ln lc] w (RetRes w (sts.take k) last) := by
  obtain ⟨i0, hi, hz0, hz1, hz2⟩ := info_parts infoInt
  obtain ⟨i1, hj, hy0, hy1, hy2⟩ := info_parts infoIn
  have hll : last.length = ln := by have := hs.1; rw [inCells_len] at this; omega
  have hcl := hs.2.1
  have hcm := hs.2.2.1
  unfold maxLen at hcm
  have HR := Lib.hid hR
  have HS := Lib.hid hs
  have HC := Lib.hid hc
  have HL := Lib.hid hll
  have HI := Lib.hid hi
  have HJ := Lib.hid hj
  clear hs hc hll hi hj
  obtain ⟨c1, _⟩ := hR.2 1 (.int .i64 k) rfl
  have hlt := hR.1
  clear hR
  have hA : Try.prog.arrayLen 71 = 8 := by kernel_rfl
  have hk' : (k : Int) ≤ 8 := by omega
  go_enter Try.func19, Try.ntmps19
  go_wp2_with (fail)
  go_quiet (fail)
  go_wp2_with (fail)
  clear c1 hA
  go_loopw [6, 7, 19] (fun v u i wr => ∃ (n m cv cu : Nat) (av au : Option Addr), n ≤ k ∧ i = .int .i64 n ∧ v = .slice av n cv ∧ u = .slice au m cu ∧ m ≤ n ∧ wr.ownsRow w.heap.size 25 3 (.slice av n cv) n (inCells (resL (sts.take n) last)) ∧ wr.ownsRow w.heap.size 3 1 (.slice au m cu) m ((faultL (sts.take n)).map (Value.int .i64)) ∧ Q w wr) (fun _ _ i _ => k - (intOf i).toNat)
  case atStart => exact ⟨0, 0, 0, 0, none, none, by omega, rfl, rfl, rfl, by omega, World.ownsRow_nil _ _ _ _, World.ownsRow_nil _ _ _ _, (Q.refl w).drewN _⟩
  case round =>
    obtain ⟨n, m, cv, cu, av, au, hn, rfl, rfl, rfl, hmn, ho1, ho2, hq⟩ := hrel
    have HO1 := Lib.hid ho1
    have HO2 := Lib.hid ho2
    have HQ := Lib.hid hq
    have HSn := Lib.hid (HS.out.q hq)
    clear ho1 ho2
    by_cases hlt2 : n < k
    · have hi8 : n < sts.length := by omega
      have hRw := Box.q HR.out hq
      have s0 := (Rd.st hRw n hi8 0 (by omega) _ rfl).1
      rw [Nat.add_zero] at s0
      have s1 := (Rd.st hRw n hi8 1 (by omega) _ rfl).1
      have s2 := (Rd.st hRw n hi8 2 (by omega) _ rfl).1
      have s3 := (Rd.st hRw n hi8 3 (by omega) _ rfl).1
      have s4 := (Rd.st hRw n hi8 4 (by omega) _ rfl).1
      have s5 := (Rd.st hRw n hi8 5 (by omega) _ rfl).1
      have HT1 := Lib.hid (resL_take sts last n hi8)
      have HT2 := Lib.hid (faultL_take sts n hi8)
      have HBlt := Lib.hid hRw.1
      generalize sts[n] = s at *
      generalize resL (sts.take n) last = R0 at *
      generalize faultL (sts.take n) = F0 at *
      obtain ⟨com, rev, sc, inn⟩ := s
      simp only at s0 s1 s2 s3 s4 s5
      clear hRw hq
      cases rev with
      | true =>
        have ht1 : resL (sts.take (n + 1)) last = R0 ++ [inn] := HT1.out
        have ht2 : faultL (sts.take (n + 1)) = F0 := HT2.out.trans (List.append_nil _)
        have HU1 := Lib.hid ht1
        have HU2 := Lib.hid ht2
        clear ht1 ht2 HT1 HT2
        go_wp2_with (at_builtin; refine stopAt ?_)
        have HQ1 := Lib.hid (HQ.out.alloc (.cells #[.bool com, .bool true, .int .u64 sc, .int .i64 (inn % 3 - 1), .int .i64 (inn / 3 % 3 - 1), .int .i64 (inn / 9)] 70))
        have HO1' := Lib.hid (HO1.out.alloc (.cells #[.bool com, .bool true, .int .u64 sc, .int .i64 (inn % 3 - 1), .int .i64 (inn / 3 % 3 - 1), .int .i64 (inn / 9)] 70))
        have HO2' := Lib.hid (HO2.out.alloc (.cells #[.bool com, .bool true, .int .u64 sc, .int .i64 (inn % 3 - 1), .int .i64 (inn / 3 % 3 - 1), .int .i64 (inn / 9)] 70))
        refine goOn ?_
        refine append_two rfl _ _ 32 rfl w.heap.size 25 i1 _ 3 24 Try.underlying32 HJ.out hy0 hy1 hy2 rfl (by decide) _ n _ rfl HO1'.out 1 _ (World.size_alloc _ _) (inC (inn)) rfl rfl (by simp [inC, Value.oneCell']) (by omega) (by decide) HQ1.out.size ?_; intro g2 cap2 w2 hown2 hq2 hk2
        go_wp2_with (fail)
        go_roundw
        case rel => exact ⟨n + 1, m, cap2, cu, _, _, by omega, by go_num, rfl, rfl, by omega, by rw [HU1.out, inCells_snoc]; exact hown2, by rw [HU2.out]; exact hk2.own (by decide) HO2'.out, hq2 _ HQ1.out (Nat.le_refl _)⟩
        case measure => simp [intOf]; omega
      | false =>
        have ht2 : faultL (sts.take (n + 1)) = F0 ++ [(n : Int)] := HT2.out
        have HU2 := Lib.hid ht2
        clear ht2 HT2
        go_wp2_with (at_builtin; refine stopAt ?_)
        have HQ1 := Lib.hid (HQ.out.alloc (.cells #[.bool com, .bool false, .int .u64 sc, .int .i64 (inn % 3 - 1), .int .i64 (inn / 3 % 3 - 1), .int .i64 (inn / 9)] 70))
        have HO1' := Lib.hid (HO1.out.alloc (.cells #[.bool com, .bool false, .int .u64 sc, .int .i64 (inn % 3 - 1), .int .i64 (inn / 3 % 3 - 1), .int .i64 (inn / 9)] 70))
        have HO2' := Lib.hid (HO2.out.alloc (.cells #[.bool com, .bool false, .int .u64 sc, .int .i64 (inn % 3 - 1), .int .i64 (inn / 3 % 3 - 1), .int .i64 (inn / 9)] 70))
        have hb0 : (wr.alloc (.cells #[.bool com, .bool false, .int .u64 sc, .int .i64 (inn % 3 - 1), .int .i64 (inn / 3 % 3 - 1), .int .i64 (inn / 9)] 70)).heap[wr.heap.size]? = some (.cells #[.bool com, .bool false, .int .u64 sc, .int .i64 (inn % 3 - 1), .int .i64 (inn / 3 % 3 - 1), .int .i64 (inn / 9)] 70) := heap_alloc_new wr _
        have HB0 := Lib.hid hb0
        have HW := Lib.hid HQ.out.size
        clear hb0
        by_cases hl2 : n < ln
        · have hzl : n < last.length := by rw [HL.out]; exact hl2
          have hl2' : (n : Int) < ln := by omega
          refine goOn ?_
          refine append_two rfl _ _ 30 rfl w.heap.size 3 i0 _ 1 8 Try.underlying30 HI.out hz0 hz1 hz2 rfl (by decide) _ m _ rfl HO2'.out 1 _ (World.size_alloc _ _) [.int .i64 n] rfl rfl (by simp [Value.oneCell']) (by omega) (by decide) HQ1.out.size ?_
          intro g2 cap2 w2 hown2 hq2 hk2
          have hb2 := hk2 _ _ _ _ (by decide) HB0.out
          have HBX := Lib.hid (Box.of_cells (vs := [.bool com, .bool false, .int .u64 sc, .int .i64 (inn % 3 - 1), .int .i64 (inn / 3 % 3 - 1), .int .i64 (inn / 9)]) hb2)
          have HTY := Lib.hid (show TyAt w2 wr.heap.size 70 from ⟨_, _, hb2⟩)
          have HQ2 := Lib.hid (hq2 _ HQ1.out (Nat.le_refl _))
          have HO1b := Lib.hid (hk2.own (by decide) HO1'.out)
          have HO2b := Lib.hid hown2
          have e3 : w2.cell? ⟨wr.heap.size, 3, none⟩ = some (.int .i64 (inn % 3 - 1)) := by rw [cell_of_row w2 _ 3 _ _ (0, 0) hb2]; rfl
          have e4 : w2.cell? ⟨wr.heap.size, 4, none⟩ = some (.int .i64 (inn / 3 % 3 - 1)) := by rw [cell_of_row w2 _ 4 _ _ (0, 0) hb2]; rfl
          have e5 : w2.cell? ⟨wr.heap.size, 5, none⟩ = some (.int .i64 (inn / 9)) := by rw [cell_of_row w2 _ 5 _ _ (0, 0) hb2]; rfl
          have f3 : w2.frozen? ⟨wr.heap.size, 3, none⟩ = false := by simp [World.frozen?, hb2]
          have f4 : w2.frozen? ⟨wr.heap.size, 4, none⟩ = false := by simp [World.frozen?, hb2]
          have f5 : w2.frozen? ⟨wr.heap.size, 5, none⟩ = false := by simp [World.frozen?, hb2]
          obtain ⟨g, go, rfl, hg, hcs⟩ := (HS.out).pos (by omega)
          obtain ⟨x0, x1, x2⟩ := inCells_get last n hzl
          have qc : ∀ j u, (inCells last)[j]? = some u → w2.cell? ⟨g, go + j, none⟩ = some u := fun j u hu => (HQ2.out.cells.1 _ _ hg).trans (hcs j u hu)
          have l0 : w2.cell? ⟨g, go + n * 3, none⟩ = some _ := qc _ _ x0
          have l1 : w2.cell? ⟨g, go + n * 3 + 1, none⟩ = some _ := qc _ _ x1
          have l2 : w2.cell? ⟨g, go + n * 3 + 2, none⟩ = some _ := qc _ _ x2
          have hne : g ≠ wr.heap.size := by have := HW.out; omega
          have HU1 := Lib.hid (show resL (sts.take (n + 1)) last = R0 ++ [last[n] % 9] by
            rw [HT1.out]; unfold resC; simp [List.getD, hzl])
          have hlc := HC.out _ (List.getElem_mem hzl)
          generalize last[n] = x at *
          clear HT1
          clear x0 x1 x2 qc hcs hown2 hq2 hk2 hb2 hzl
          go_wp2_with (fail)
          refine (iPredict_any _ _ _ _).mono ?_
          rintro e w4 ⟨rfl, hq4⟩
          have hq24 : Q w w4 := ((((HQ2.out.setCell (p := ⟨wr.heap.size, 3, none⟩) HW.out _).setCell (p := ⟨wr.heap.size, 4, none⟩) HW.out _).setCell (p := ⟨wr.heap.size, 5, none⟩) HW.out _)).trans hq4
          have HQ4 := Lib.hid hq24
          have b4 := Box.q (Box.set (Box.set (Box.set HBX.out 3 (.int .i64 0) (by simp)) 4 (.int .i64 0) (by simp)) 5 (.int .i64 0) (by simp)) hq4
          obtain ⟨e3, f3⟩ := b4.2 3 _ rfl
          obtain ⟨e4, f4⟩ := b4.2 4 _ rfl
          obtain ⟨e5, f5⟩ := b4.2 5 _ rfl
          have ty4 := (((HTY.out.set ⟨wr.heap.size, 3, none⟩ (.int .i64 0)).set ⟨wr.heap.size, 4, none⟩ (.int .i64 0)).set ⟨wr.heap.size, 5, none⟩ (.int .i64 0)).q hq4
          have o1 := own_q (((HTY.out.set ⟨wr.heap.size, 3, none⟩ (.int .i64 0)).set ⟨wr.heap.size, 4, none⟩ (.int .i64 0)).own (by decide) ((HTY.out.set ⟨wr.heap.size, 3, none⟩ (.int .i64 0)).own (by decide) (HTY.out.own (by decide) HO1b.out 3 (.int .i64 0)) 4 (.int .i64 0)) 5 (.int .i64 0)) hq4
          have o2 := own_q (((HTY.out.set ⟨wr.heap.size, 3, none⟩ (.int .i64 0)).set ⟨wr.heap.size, 4, none⟩ (.int .i64 0)).own (by decide) ((HTY.out.set ⟨wr.heap.size, 3, none⟩ (.int .i64 0)).own (by decide) (HTY.out.own (by decide) HO2b.out 3 (.int .i64 0)) 4 (.int .i64 0)) 5 (.int .i64 0)) hq4
          have HT4 := Lib.hid ty4
          have P1 := Lib.hid o1
          have P2 := Lib.hid o2
          have hlt4 := b4.1
          clear o1 o2 ty4 b4 hq4 hq24
          go_wp2_with (at_builtin; refine stopAt ?_)
          have HQ6 := Lib.hid (((HQ4.out.setCell (p := ⟨wr.heap.size, 3, none⟩) HW.out (.int .i64 (x % 3 - 1))).setCell (p := ⟨wr.heap.size, 4, none⟩) HW.out (.int .i64 (x / 3 % 3 - 1))).setCell (p := ⟨wr.heap.size, 5, none⟩) HW.out (.int .i64 0))
          have R1 := Lib.hid (((HT4.out.set ⟨wr.heap.size, 3, none⟩ (.int .i64 (x % 3 - 1))).set ⟨wr.heap.size, 4, none⟩ (.int .i64 (x / 3 % 3 - 1))).own (by decide) ((HT4.out.set ⟨wr.heap.size, 3, none⟩ (.int .i64 (x % 3 - 1))).own (by decide) (HT4.out.own (by decide) P1.out 3 (.int .i64 (x % 3 - 1))) 4 (.int .i64 (x / 3 % 3 - 1))) 5 (.int .i64 0))
          have R2 := Lib.hid (((HT4.out.set ⟨wr.heap.size, 3, none⟩ (.int .i64 (x % 3 - 1))).set ⟨wr.heap.size, 4, none⟩ (.int .i64 (x / 3 % 3 - 1))).own (by decide) ((HT4.out.set ⟨wr.heap.size, 3, none⟩ (.int .i64 (x % 3 - 1))).own (by decide) (HT4.out.own (by decide) P2.out 3 (.int .i64 (x % 3 - 1))) 4 (.int .i64 (x / 3 % 3 - 1))) 5 (.int .i64 0))
          refine goOn ?_
          refine append_two rfl _ _ 32 rfl w.heap.size 25 i1 _ 3 24 Try.underlying32 HJ.out hy0 hy1 hy2 rfl (by decide) _ n _ rfl R1.out 1 _ (by simp) [.int .i64 (x % 3 - 1), .int .i64 (x / 3 % 3 - 1), .int .i64 0] rfl rfl (by simp [Value.oneCell']) (by omega) (by decide) HQ6.out.size ?_
          intro g5 cap5 w5 hown5 hq5 hk5
          go_wp2_with (fail)
          go_roundw
          case rel => exact ⟨n + 1, m + 1, cap5, cap2, _, _, by omega, by go_num, rfl, rfl, by omega, by rw [HU1.out, inCells_snoc]; rw [inC_predict]; exact hown5, by rw [HU2.out, List.map_append]; exact hk5.own (by decide) R2.out, hq5 _ HQ6.out (Nat.le_refl _)⟩
          case measure => simp [intOf]; omega
        · have hl2' : ¬ (n : Int) < ln := by omega
          refine goOn ?_
          refine append_two rfl _ _ 30 rfl w.heap.size 3 i0 _ 1 8 Try.underlying30 HI.out hz0 hz1 hz2 rfl (by decide) _ m _ rfl HO2'.out 1 _ (World.size_alloc _ _) [.int .i64 n] rfl rfl (by simp [Value.oneCell']) (by omega) (by decide) HQ1.out.size ?_
          intro g2 cap2 w2 hown2 hq2 hk2
          have hb2 := hk2 _ _ _ _ (by decide) HB0.out
          have HTY := Lib.hid (show TyAt w2 wr.heap.size 70 from ⟨_, _, hb2⟩)
          have HQ2 := Lib.hid (hq2 _ HQ1.out (Nat.le_refl _))
          have HO1b := Lib.hid (hk2.own (by decide) HO1'.out)
          have HO2b := Lib.hid hown2
          have b2 := Box.of_cells (vs := [.bool com, .bool false, .int .u64 sc, .int .i64 (inn % 3 - 1), .int .i64 (inn / 3 % 3 - 1), .int .i64 (inn / 9)]) hb2
          obtain ⟨e3, f3⟩ := b2.2 3 _ rfl
          obtain ⟨e4, f4⟩ := b2.2 4 _ rfl
          obtain ⟨e5, f5⟩ := b2.2 5 _ rfl
          have hlt2' := b2.1
          have HU1 := Lib.hid (show resL (sts.take (n + 1)) last = R0 ++ [4] by
            rw [HT1.out]; unfold resC; rw [if_neg (by simp), List.getD, List.getElem?_eq_none (by rw [HL.out]; omega)]; rfl)
          clear HT1 hown2 hq2 hk2 hb2 b2
          go_wp2_with (at_builtin; refine stopAt ?_)
          have HQ6 := Lib.hid (((HQ2.out.setCell (p := ⟨wr.heap.size, 3, none⟩) HW.out (.int .i64 0)).setCell (p := ⟨wr.heap.size, 4, none⟩) HW.out (.int .i64 0)).setCell (p := ⟨wr.heap.size, 5, none⟩) HW.out (.int .i64 0))
          have R1 := Lib.hid (((HTY.out.set ⟨wr.heap.size, 3, none⟩ (.int .i64 0)).set ⟨wr.heap.size, 4, none⟩ (.int .i64 0)).own (by decide) ((HTY.out.set ⟨wr.heap.size, 3, none⟩ (.int .i64 0)).own (by decide) (HTY.out.own (by decide) HO1b.out 3 (.int .i64 0)) 4 (.int .i64 0)) 5 (.int .i64 0))
          have R2 := Lib.hid (((HTY.out.set ⟨wr.heap.size, 3, none⟩ (.int .i64 0)).set ⟨wr.heap.size, 4, none⟩ (.int .i64 0)).own (by decide) ((HTY.out.set ⟨wr.heap.size, 3, none⟩ (.int .i64 0)).own (by decide) (HTY.out.own (by decide) HO2b.out 3 (.int .i64 0)) 4 (.int .i64 0)) 5 (.int .i64 0))
          refine goOn ?_
          refine append_two rfl _ _ 32 rfl w.heap.size 25 i1 _ 3 24 Try.underlying32 HJ.out hy0 hy1 hy2 rfl (by decide) _ n _ rfl R1.out 1 _ (by simp) [.int .i64 0, .int .i64 0, .int .i64 0] rfl rfl (by simp [Value.oneCell']) (by omega) (by decide) HQ6.out.size ?_
          intro g5 cap5 w5 hown5 hq5 hk5
          go_wp2_with (fail)
          go_roundw
          case rel => exact ⟨n + 1, m + 1, cap5, cap2, _, _, by omega, by go_num, rfl, rfl, by omega, by rw [HU1.out, inCells_snoc]; exact hown5, by rw [HU2.out, List.map_append]; exact hk5.own (by decide) R2.out, hq5 _ HQ6.out (Nat.le_refl _)⟩
          case measure => simp [intOf]; omega
    · have hkn : n = k := by omega
      subst hkn
      go_wp2
      go_ret2
      have hr : (resL (sts.take n) last).length = n := by rw [resL_len, List.length_take]; omega
      have hf : (faultL (sts.take n)).length = m := by have := HO2.out.1; simpa using this
      refine ⟨av, cv, au, cu, ?_, ?_, ?_, hq⟩
      · rw [hr, hf]; rfl
      · rw [hr]; exact HO1.out
      · rw [hf]; exact HO2.out
end Go.Proofs.Ytcpicifnadoeoaa
