/- Contracts: rows encoded, decoded, compared. -/
import Derived.Test.YtmcibkmaigolmaaDoorRowsB
namespace Go.Proofs.YtmcibkmaigolmaaDoor
open Go Go.RowKit Go.BigFrame

theorem iEncode_code (c : Int) (w : World) (h0 : 0 ≤ c) (h1 : c < 36) :
    Calls Tryd.prog 13 #[.agg #[.int .i64 (c % 3 - 1), .int .i64 (c / 3 % 3 - 1), .int .i64 (c / 9)]] w fun e w' => e = .returned (.int .u8 c) ∧ Q w w' := by
  have := iEncode_any (c % 3 - 1) (c / 3 % 3 - 1) (c / 9) w (by omega) (by omega) (by omega)
  rw [show c % 3 - 1 + 1 + 3 * (c / 3 % 3 - 1 + 1) + 9 * (c / 9) = c by omega] at this
  exact this
/-- the code of an input -/
def codeOf (a b k : Int) : Int := a + 1 + 3 * (b + 1) + 9 * k
theorem codeOf_code (c : Int) : codeOf (c % 3 - 1) (c / 3 % 3 - 1) (c / 9) = c := by unfold codeOf; omega
theorem iEncode_c (a b k : Int) (w : World) (ha : -1 ≤ a ∧ a ≤ 1) (hb : -1 ≤ b ∧ b ≤ 1) (hk : 0 ≤ k ∧ k ≤ 3) :
    Calls Tryd.prog 13 #[.agg #[.int .i64 a, .int .i64 b, .int .i64 k]] w fun e w' => e = .returned (.int .u8 (codeOf a b k)) ∧ Q w w' := iEncode_any a b k w ha hb hk
theorem rEncode_code (c : Int) (w : World) (h0 : 0 ≤ c) (h1 : c < 36) :
    Calls Tryd.prog 14 #[.agg #[.int .i64 (c % 3 - 1), .int .i64 (c / 3 % 3 - 1), .int .i64 (c / 9)]] w fun e w' => e = .returned (.int .u8 c) ∧ Q w w' := by
  have := rEncode_any (c % 3 - 1) (c / 3 % 3 - 1) (c / 9) w (by omega) (by omega) (by omega)
  rw [show c % 3 - 1 + 1 + 3 * (c / 3 % 3 - 1 + 1) + 9 * (c / 9) = c by omega] at this
  exact this

theorem inCells_get (cs : List Int) (k : Nat) (hk : k < cs.length) : (inCells cs)[k * 3]? = some (.int .i64 (cs[k] % 3 - 1)) ∧ (inCells cs)[k * 3 + 1]? = some (.int .i64 (cs[k] / 3 % 3 - 1)) ∧ (inCells cs)[k * 3 + 2]? = some (.int .i64 (cs[k] / 9)) := by
  induction cs generalizing k with
  | nil => simp at hk
  | cons c cs ih =>
    cases k with
    | zero => simp [inCells, inC]
    | succ k =>
      have := ih k (by simpa using hk)
      simp only [inCells, List.flatMap_cons] at this ⊢
      rw [show (k + 1) * 3 = k * 3 + 1 + 1 + 1 by omega]
      simpa [inC] using this

/-- 'out = append(out, x)', out being the call's own: the element lies in a new block; behind it the slice is not nil, and all that lay below is as it was. -/
theorem append_one {P : Program} {w1 : World} {ops : Array Oper} {rest : List Oper} {op : Oper} {a : Act} {R : Exit → Act → World → Prop} (hgd : op.guard = none) (s x : Operand) (t : TypeId)
    (ho : op.op = .call { callee := .builtin .append, args := #[s, x], argTypes := #[t, t] })
    (base : Nat) (E : TypeId) (i : TypeInfo) (z : Value) (size bytes : Nat) (ht : P.underlying t = some (.slice E)) (hi : P.info? E = some i) (hz : i.zero = some z)
    (hsize : i.size = size) (hby : i.bytes = bytes) (hzs : z.cells.size = size) (hsz : 0 < size)
    (v : Value) (n : Nat) (xs : List Value) (hs : a.eval s = v) (hown : w1.ownsRow base E size v n xs)
    (c : Nat) (B : Nat) (hB : w1.heap.size = B) (news : List Value) (hx : a.eval x = .slice (some ⟨B, 0, none⟩) 1 c) (hl : news.length = size) (h1 : ∀ u ∈ news, u.oneCell' = true)
    (hn : n ≤ 100000) (hby2 : bytes ≤ 100000) (hb : base ≤ w1.heap.size)
    (h : ∀ g cap w', w'.ownsRow base E size (.slice (some ⟨g, 0, none⟩) (n + 1) cap) (n + 1) (xs ++ news) → (∀ w0, Q w0 w1 → w0.heap.size ≤ base → Q w0 w') → wpList P ops R rest (a.put op.dst (.slice (some ⟨g, 0, none⟩) (n + 1) cap)) w') :
    wpList P ops R (op :: rest) a (w1.alloc (.cells news.toArray E)) := by
  subst hB
  have hbb : (n + 1) * bytes ≤ 140737488355328 := Nat.le_trans (Nat.mul_le_mul (show n + 1 ≤ 100001 by omega) hby2) (by decide)
  refine wpList_append_lies _ hgd s x t ho base E i z size bytes ht hi hz hsize hby hzs hsz v n xs hs (hown.alloc _) ⟨w1.heap.size, 0, none⟩ 1 c news hx (by omega) (World.news_of_block (heap_alloc_new w1 _)) h1 (by decide) (by unfold maxLen; omega) hbb (by simp; omega) _ rfl ?_
  intro g cap w2 hown2 hgrow2 _ _
  exact h g cap w2 hown2 (fun w0 q hb0 => (q.alloc _).grown_own (hown.alloc _) hb0 hgrow2)

theorem iRow_any (a : Option Addr) (n cap : Nat) (cs : List Int) (w : World) (hs : Sl w 3 a n cap (inCells cs)) (hc : ∀ c ∈ cs, 0 ≤ c ∧ c < 36) (hn : n ≤ 100) :
    Calls Tryd.prog 25 #[.slice a n cap] w (RetOwn w 5 1 n (cs.map (Value.int .u8))) := by
  obtain ⟨i0, hi, hz0, hz1, hz2⟩ := info_parts infoU8
  have hlen : cs.length = n := by have := hs.1; rw [inCells_len] at this; omega
  have hcapn := hs.2.1
  have HS := Lib.hid hs
  have HL := Lib.hid hlen
  have HZ := Lib.hid hc
  have HI := Lib.hid hi
  clear hs hlen hc hi
  go_enter Tryd.func25, Tryd.ntmps25
  go_wp2_with (fail)
  go_loopw [3, 8] (fun v i wr => ∃ (k cp : Nat) (b : Option Addr), k ≤ n ∧ i = .int .i64 k ∧ v = .slice b k cp ∧ wr.ownsRow w.heap.size 5 1 (.slice b k cp) k ((cs.take k).map (Value.int .u8)) ∧ Q w wr) (fun _ i _ => n - (intOf i).toNat)
  case atStart => exact ⟨0, 0, none, by omega, rfl, rfl, World.ownsRow_nil _ _ _ _, Q.refl _⟩
  case round =>
    obtain ⟨k, cp, b, hkn, rfl, rfl, hown, hq⟩ := hrel
    by_cases h1 : k < n
    · have hzl : k < cs.length := by rw [HL.out]; exact h1
      obtain ⟨g, o, rfl, hg, hc⟩ := (HS.out.q hq).pos (by omega)
      obtain ⟨e0, e1, e2⟩ := inCells_get cs k hzl
      have c0 : wr.cell? ⟨g, o + k * 3, none⟩ = some _ := hc _ _ e0
      have c1 : wr.cell? ⟨g, o + k * 3 + 1, none⟩ = some _ := hc _ _ e1
      have c2 : wr.cell? ⟨g, o + k * 3 + 2, none⟩ = some _ := hc _ _ e2
      obtain ⟨x0, x1⟩ := HZ.out _ (List.getElem_mem hzl)
      have HN := Lib.hid (show (cs.take (k + 1)).map (Value.int .u8) = (cs.take k).map (Value.int .u8) ++ [.int .u8 cs[k]] by rw [take_snoc_get _ _ hzl, List.map_append]; rfl)
      generalize hx : cs[k] = x at *
      clear hc hx hzl e0 e1 e2
      have HO := Lib.hid hown
      have HQ := Lib.hid hq
      clear hown hq
      go_wp2_with (fail)
      refine (iEncode_code _ _ x0 x1).mono ?_
      rintro e w1 ⟨rfl, hq1⟩
      have HO1 := Lib.hid (own_q (HO.out.alloc _) hq1)
      have HQ1 := Lib.hid ((HQ.out.alloc _).trans hq1)
      have HB := Lib.hid HQ1.out.size
      clear hq1 HO HQ
      go_wp2_with (at_builtin; refine append_one rfl _ _ 37 rfl w.heap.size 5 i0 _ 1 1 Tryd.underlying37 HI.out hz0 hz1 hz2 rfl (by decide) _ k _ rfl HO1.out 1 _ rfl [.int .u8 x] rfl rfl (by simp [Value.oneCell']) (by omega) (by decide) HB.out ?_; intro g2 cap2 w2 hown2 hq2)
      go_roundw
      case rel => exact ⟨k + 1, cap2, _, by omega, by go_num, rfl, by rw [HN.out]; exact hown2, hq2 _ HQ1.out (Nat.le_refl _)⟩
      case measure => simp [intOf]; omega
    · have e1 : n = k := by omega
      have HE := Lib.hid e1
      have HE2 := hid_eq (show cs.take k = cs from List.take_of_length_le (by rw [HL.out]; omega))
      have HO := Lib.hid hown
      clear e1 hown
      go_wp2
      go_ret
      rw [HE.out]
      refine ⟨_, _, rfl, ?_, hq⟩
      rw [← HE2.out]
      exact HO.out
theorem rRow_any (a : Option Addr) (n cap : Nat) (cs : List Int) (w : World) (hs : Sl w 3 a n cap (inCells cs)) (hc : ∀ c ∈ cs, 0 ≤ c ∧ c < 36) (hn : n ≤ 100) :
    Calls Tryd.prog 26 #[.slice a n cap] w (RetOwn w 5 1 n (cs.map (Value.int .u8))) := by
  obtain ⟨i0, hi, hz0, hz1, hz2⟩ := info_parts infoU8
  have hlen : cs.length = n := by have := hs.1; rw [inCells_len] at this; omega
  have hcapn := hs.2.1
  have HS := Lib.hid hs
  have HL := Lib.hid hlen
  have HZ := Lib.hid hc
  have HI := Lib.hid hi
  clear hs hlen hc hi
  go_enter Tryd.func26, Tryd.ntmps26
  go_wp2_with (fail)
  go_loopw [3, 4] (fun v i wr => ∃ (k cp : Nat) (b : Option Addr), k ≤ n ∧ i = .int .i64 k ∧ v = .slice b k cp ∧ wr.ownsRow w.heap.size 5 1 (.slice b k cp) k ((cs.take k).map (Value.int .u8)) ∧ Q w wr) (fun _ i _ => n - (intOf i).toNat)
  case atStart => exact ⟨0, 0, none, by omega, rfl, rfl, World.ownsRow_nil _ _ _ _, Q.refl _⟩
  case round =>
    obtain ⟨k, cp, b, hkn, rfl, rfl, hown, hq⟩ := hrel
    by_cases h1 : k < n
    · have hzl : k < cs.length := by rw [HL.out]; exact h1
      obtain ⟨g, o, rfl, hg, hc⟩ := (HS.out.q hq).pos (by omega)
      obtain ⟨e0, e1, e2⟩ := inCells_get cs k hzl
      have c0 : wr.cell? ⟨g, o + k * 3, none⟩ = some _ := hc _ _ e0
      have c1 : wr.cell? ⟨g, o + k * 3 + 1, none⟩ = some _ := hc _ _ e1
      have c2 : wr.cell? ⟨g, o + k * 3 + 2, none⟩ = some _ := hc _ _ e2
      obtain ⟨x0, x1⟩ := HZ.out _ (List.getElem_mem hzl)
      have HN := Lib.hid (show (cs.take (k + 1)).map (Value.int .u8) = (cs.take k).map (Value.int .u8) ++ [.int .u8 cs[k]] by rw [take_snoc_get _ _ hzl, List.map_append]; rfl)
      generalize hx : cs[k] = x at *
      clear hc hx hzl e0 e1 e2
      have HO := Lib.hid hown
      have HQ := Lib.hid hq
      clear hown hq
      go_wp2_with (fail)
      refine (rEncode_code _ _ x0 x1).mono ?_
      rintro e w1 ⟨rfl, hq1⟩
      have HO1 := Lib.hid (own_q HO.out hq1)
      have HQ1 := Lib.hid (HQ.out.trans hq1)
      have HB := Lib.hid HQ1.out.size
      clear hq1 HO HQ
      go_wp2_with (at_builtin; refine append_one rfl _ _ 37 rfl w.heap.size 5 i0 _ 1 1 Tryd.underlying37 HI.out hz0 hz1 hz2 rfl (by decide) _ k _ rfl HO1.out 1 _ rfl [.int .u8 x] rfl rfl (by simp [Value.oneCell']) (by omega) (by decide) HB.out ?_; intro g2 cap2 w2 hown2 hq2)
      go_roundw
      case rel => exact ⟨k + 1, cap2, _, by omega, by go_num, rfl, by rw [HN.out]; exact hown2, hq2 _ HQ1.out (Nat.le_refl _)⟩
      case measure => simp [intOf]; omega
    · have e1 : n = k := by omega
      have HE := Lib.hid e1
      have HE2 := hid_eq (show cs.take k = cs from List.take_of_length_le (by rw [HL.out]; omega))
      have HO := Lib.hid hown
      clear e1 hown
      go_wp2
      go_ret
      rw [HE.out]
      refine ⟨_, _, rfl, ?_, hq⟩
      rw [← HE2.out]
      exact HO.out
end Go.Proofs.YtmcibkmaigolmaaDoor
