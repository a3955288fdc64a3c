/- A log in memory; lists of records; contract: Append. -/
import Derived.Test.YtfkbdiheccnohaaJD
import Derived.Test.YtfkbdiheccnohaaMixS
import Derived.Deep.DeepCutAuto
namespace Go.Proofs.Ytfkbdiheccnohaa
open Go Go.RowKit Go.BigFrame

theorem Box.set {w : World} {B : Nat} {vs : List Value} (h : Box w B vs) (i : Nat) (u : Value) (hi : i < vs.length) : Box (w.setCell ⟨B, i, none⟩ u) B (vs.set i u) := by
  refine ⟨by simpa using h.1, fun k v hv => ?_⟩
  rw [World.frozen?_setCell]
  by_cases hk : k = i
  · subst hk
    simp [hi] at hv
    subst hv
    obtain ⟨c, f⟩ := h.2 k vs[k] (by simp [hi])
    exact ⟨World.cell?_setCell_same _ _ _ c, f⟩
  · rw [List.getElem?_set_ne (Ne.symm hk)] at hv
    obtain ⟨c, f⟩ := h.2 k v hv
    exact ⟨(World.cell?_setCell_other _ _ _ _ (by simp)).trans c, f⟩
def bV (x : List Int) : List Value := x.map (Value.int .u8)
theorem bV_one (x : List Int) : ∀ u ∈ bV x, u.oneCell' = true := fun u hu => by obtain ⟨b, _, rfl⟩ := List.mem_map.1 hu; rfl
/-- slices that read as rs, their blocks in C -/
def Recs (w : World) (C : Nat → Prop) (vs : List Value) (rs : List (List Int)) : Prop :=
  vs.length = rs.length ∧ ∀ (i : Nat) x, rs[i]? = some x → ∃ a cap, vs[i]? = some (.slice a x.length cap) ∧ Sl w 1 a x.length cap (bV x) ∧ ∀ y, a = some y → C y.block
theorem Recs.nil (w : World) (C : Nat → Prop) : Recs w C [] [] := ⟨rfl, fun i x h => by simp at h⟩
theorem Recs.qf {w w' : World} {C F : Nat → Prop} {vs : List Value} {rs : List (List Int)} (h : Recs w C vs rs) (q : QF F w w') (hF : ∀ b, C b → ¬ F b) : Recs w' C vs rs :=
  ⟨h.1, fun i x hx => by
    obtain ⟨a, cap, h1, h2, h3⟩ := h.2 i x hx
    exact ⟨a, cap, h1, h2.qf q (fun y hy => hF _ (h3 y hy)), h3⟩⟩
theorem Recs.q {w w' : World} {C : Nat → Prop} {vs : List Value} {rs : List (List Int)} (h : Recs w C vs rs) (q : Q w w') : Recs w' C vs rs :=
  ⟨h.1, fun i x hx => by
    obtain ⟨a, cap, h1, h2, h3⟩ := h.2 i x hx
    exact ⟨a, cap, h1, h2.q q, h3⟩⟩
theorem Recs.mono {w : World} {C D : Nat → Prop} {vs : List Value} {rs : List (List Int)} (h : Recs w C vs rs) (hD : ∀ b, C b → D b) : Recs w D vs rs :=
  ⟨h.1, fun i x hx => by
    obtain ⟨a, cap, h1, h2, h3⟩ := h.2 i x hx
    exact ⟨a, cap, h1, h2, fun y hy => hD _ (h3 y hy)⟩⟩
theorem Recs.snoc {w : World} {C : Nat → Prop} {vs : List Value} {rs : List (List Int)} (h : Recs w C vs rs) (x : List Int) (a : Option Addr) (n cap : Nat) (hn : n = x.length) (hs : Sl w 1 a n cap (bV x)) (hc : ∀ y, a = some y → C y.block) : Recs w C (vs ++ [.slice a n cap]) (rs ++ [x]) := by
  subst hn
  refine ⟨by rw [List.length_append, List.length_append, h.1]; rfl, fun i y hy => ?_⟩
  rcases Nat.lt_or_ge i rs.length with hi | hi
  · rw [List.getElem?_append_left hi] at hy
    obtain ⟨a', cap', h1, h2, h3⟩ := h.2 i y hy
    exact ⟨a', cap', by rw [List.getElem?_append_left (by rw [h.1]; exact hi)]; exact h1, h2, h3⟩
  · rw [List.getElem?_append_right hi] at hy
    have h0 : i - rs.length = 0 := by
      rcases Nat.eq_zero_or_pos (i - rs.length) with h | h
      · exact h
      · rw [List.getElem?_eq_none (by simp; omega)] at hy; cases hy
    rw [h0] at hy
    simp only [List.getElem?_cons_zero, Option.some.injEq] at hy
    subst hy
    refine ⟨a, cap, ?_, hs, hc⟩
    rw [List.getElem?_append_right (by rw [h.1]; exact hi), h.1, h0]
    rfl
theorem Recs.take {w : World} {C : Nat → Prop} {vs : List Value} {rs : List (List Int)} (h : Recs w C vs rs) (k : Nat) : Recs w C (vs.take k) (rs.take k) := by
  refine ⟨by rw [List.length_take, List.length_take, h.1], fun i x hx => ?_⟩
  rw [List.getElem?_take] at hx
  split at hx
  · rename_i hk
    obtain ⟨a, cap, h1, h2, h3⟩ := h.2 i x hx
    exact ⟨a, cap, by rw [List.getElem?_take, if_pos hk]; exact h1, h2, h3⟩
  · cases hx
/-- records of a bearable size -/
def OkRs (rs : List (List Int)) : Prop := ∀ x ∈ rs, x.length ≤ 4003 ∧ Bys x
theorem OkRs.snoc {rs : List (List Int)} (h : OkRs rs) (x : List Int) (hx : x.length ≤ 4003) (hb : Bys x) : OkRs (rs ++ [x]) := fun y hy => by
  rcases List.mem_append.1 hy with hy | hy
  · exact h y hy
  · simp at hy; subst hy; exact ⟨hx, hb⟩
/-- a readable slice of records -/
def SlR (w : World) (C : Nat → Prop) (a : Option Addr) (n cap : Nat) (rs : List (List Int)) : Prop := n = rs.length ∧ ∃ vs, Sl w 1 a n cap vs ∧ (∀ y, a = some y → C y.block) ∧ Recs w C vs rs
theorem SlR.qf {w w' : World} {C F : Nat → Prop} {a : Option Addr} {n cap : Nat} {rs : List (List Int)} (h : SlR w C a n cap rs) (q : QF F w w') (hF : ∀ b, C b → ¬ F b) : SlR w' C a n cap rs := by
  obtain ⟨h1, vs, h2, h3, h4⟩ := h
  exact ⟨h1, vs, h2.qf q (fun y hy => hF _ (h3 y hy)), h3, h4.qf q hF⟩
theorem SlR.q {w w' : World} {C : Nat → Prop} {a : Option Addr} {n cap : Nat} {rs : List (List Int)} (h : SlR w C a n cap rs) (q : Q w w') : SlR w' C a n cap rs := by
  obtain ⟨h1, vs, h2, h3, h4⟩ := h
  exact ⟨h1, vs, h2.q q, h3, h4.q q⟩
theorem SlR.mono {w : World} {C D : Nat → Prop} {a : Option Addr} {n cap : Nat} {rs : List (List Int)} (h : SlR w C a n cap rs) (hD : ∀ b, C b → D b) : SlR w D a n cap rs := by
  obtain ⟨h1, vs, h2, h3, h4⟩ := h
  exact ⟨h1, vs, h2, fun y hy => hD _ (h3 y hy), h4.mono hD⟩
/-- record k of a slice of records -/
theorem SlR.at {w : World} {C : Nat → Prop} {a : Option Addr} {n cap : Nat} {rs : List (List Int)} (h : SlR w C a n cap rs) (k : Nat) (hk : k < rs.length) :
    ∃ g o b c, a = some ⟨g, o, none⟩ ∧ w.cell? ⟨g, o + k, none⟩ = some (.slice b rs[k].length c) ∧ Sl w 1 b rs[k].length c (bV rs[k]) ∧ ∀ y, b = some y → C y.block := by
  obtain ⟨h1, vs, h2, h3, h4⟩ := h
  obtain ⟨g, o, he, hg, hc⟩ := h2.pos (by omega)
  obtain ⟨b, c, h5, h6, h7⟩ := h4.2 k rs[k] (by simp [hk])
  exact ⟨g, o, b, c, he, hc k _ h5, h6, h7⟩
/-- new names keep the old ones -/
def ExtL (w : World) (col col' : Nat → Nat) : Prop := ∀ b, b < w.heap.size → col' b = col b
def colL (col : Nat → Nat) (b : Nat) : Prop := col b ≠ 0
theorem ExtL.refl (w : World) (col : Nat → Nat) : ExtL w col col := fun _ _ => rfl
/-- a log: its struct in block LB; colour 1: the struct, 2: rows of its records, 3: the records, 0: not its own -/
structure LogAt (w : World) (LB : Nat) (col : Nat → Nat) (rs : List (List Int)) : Prop where
  ex : ∃ a cap vs, Box w LB [.slice a rs.length cap] ∧ w.ownsRow 0 27 1 (.slice a rs.length cap) rs.length vs ∧ (∀ y, a = some y → col y.block = 2) ∧ Recs w (fun b => col b = 3) vs rs
  c1 : col LB = 1
  new0 : ∀ b, w.heap.size ≤ b → col b = 0
  small : rs.length ≤ 5000
  ok : OkRs rs
theorem LogAt.q {w w' : World} {LB : Nat} {col : Nat → Nat} {rs : List (List Int)} (h : LogAt w LB col rs) (q : Q w w') : LogAt w' LB col rs := by
  obtain ⟨⟨a, cap, vs, h1, h2, h3, h4⟩, c1, n0, sm, ok⟩ := h
  exact ⟨⟨a, cap, vs, h1.q q, own_q h2 q, h3, h4.q q⟩, c1, fun b hb => n0 b (Nat.le_trans q.size hb), sm, ok⟩
theorem LogAt.qf {w w' : World} {F : Nat → Prop} {LB : Nat} {col : Nat → Nat} {rs : List (List Int)} (h : LogAt w LB col rs) (q : QF F w w') (hF : ∀ b, F b → col b = 0) : LogAt w' LB col rs := by
  obtain ⟨⟨a, cap, vs, h1, h2, h3, h4⟩, c1, n0, sm, ok⟩ := h
  refine ⟨⟨a, cap, vs, h1.qf q (fun hf => by rw [hF _ hf] at c1; cases c1), own_qf h2 q (fun k hk hf => ?_), h3, h4.qf q (fun b hb hf => by rw [hF _ hf] at hb; cases hb)⟩, c1, fun b hb => n0 b (Nat.le_trans q.size hb), sm, ok⟩
  rcases h2.2 with ⟨he, _⟩ | ⟨g, c, cur, he, _⟩
  · rw [he] at hk; cases hk
  · rw [he] at hk
    cases hk
    cases he
    have := h3 _ rfl
    rw [hF _ hf] at this
    cases this
theorem LogAt.lt {w : World} {LB : Nat} {col : Nat → Nat} {rs : List (List Int)} (h : LogAt w LB col rs) : ∀ b, col b ≠ 0 → b < w.heap.size := fun b hb => by
  rcases Nat.lt_or_ge b w.heap.size with h' | h'
  · exact h'
  · exact absurd (h.new0 b h') hb
theorem LogAt.slr {w : World} {LB : Nat} {col : Nat → Nat} {rs : List (List Int)} (h : LogAt w LB col rs) : ∃ a cap, Box w LB [.slice a rs.length cap] ∧ SlR w (colL col) a rs.length cap rs := by
  obtain ⟨⟨a, cap, vs, h1, h2, h3, h4⟩, _⟩ := h
  exact ⟨a, cap, h1, rfl, vs, Sl.of_own h2, (fun y hy => by show col y.block ≠ 0; rw [h3 y hy]; decide), h4.mono (fun b hb => by show col b ≠ 0; rw [hb]; decide)⟩
/-- what a call on the log leaves -/
def LDone (LB : Nat) (col : Nat → Nat) (w : World) (rs : List (List Int)) (w' : World) : Prop := ∃ col', LogAt w' LB col' rs ∧ ExtL w col col' ∧ QF (colL col) w w'
/-- a new record behind the others -/
theorem LogAt.push {w w' : World} {LB : Nat} {col : Nat → Nat} {rs : List (List Int)} {vs : List Value} {x : List Int} {a' b : Option Addr} {cap' n cb : Nat} (c1 : col LB = 1) (n0 : ∀ b, w.heap.size ≤ b → col b = 0) (sm : rs.length ≤ 4999) (ok : OkRs rs)
    (hx : x.length ≤ 4003) (hb : Bys x) (hn : n = x.length)
    (hq : QF (colL col) w w') (hbox : Box w' LB [.slice a' (rs.length + 1) cap']) (hown : w'.ownsRow 0 27 1 (.slice a' (rs.length + 1) cap') (rs.length + 1) (vs ++ [.slice b n cb])) (hT : ∀ y, a' = some y → col y.block = 2 ∨ w.heap.size ≤ y.block ∧ y.block < w'.heap.size)
    (hrec : Recs w' (fun b => col b = 3) vs rs) (hs : Sl w' 1 b n cb (bV x)) (hB : ∀ y, b = some y → w.heap.size ≤ y.block ∧ y.block < w'.heap.size) (hne : ∀ y z, a' = some y → b = some z → y.block ≠ z.block) : LDone LB col w (rs ++ [x]) w' := by
  refine ⟨fun i => if i < w.heap.size then col i else if a'.map (·.block) = some i then 2 else if b.map (·.block) = some i then 3 else 0, ⟨⟨a', cap', vs ++ [.slice b n cb], by rw [List.length_append]; exact hbox, by rw [List.length_append]; exact hown, fun y hy => ?_, ?_⟩, ?_, fun i hi => ?_, by rw [List.length_append]; show rs.length + 1 ≤ 5000; omega, ok.snoc x hx hb⟩, fun i hi => if_pos hi, hq⟩
  · rcases hT y hy with h | h
    · rcases Nat.lt_or_ge y.block w.heap.size with h' | h'
      · show (if _ then _ else _) = 2
        rw [if_pos h']; exact h
      · rw [n0 _ h'] at h; cases h
    · show (if _ then _ else _) = 2
      rw [if_neg (by omega), if_pos (by rw [hy]; rfl)]
  · refine (hrec.mono fun i hi => ?_).snoc x b n cb hn hs fun y hy => ?_
    · have hl : i < w.heap.size := by
        rcases Nat.lt_or_ge i w.heap.size with h' | h'
        · exact h'
        · rw [n0 i h'] at hi; cases hi
      show (if _ then _ else _) = 3
      rw [if_pos hl]; exact hi
    · have h1 := hB y hy
      show (if _ then _ else _) = 3
      rw [if_neg (by omega), if_neg, if_pos (by rw [hy]; rfl)]
      intro e
      cases a' with
      | none => cases e
      | some z => exact hne z y rfl hy (by simpa using e)
  · have hl : LB < w.heap.size := by
      rcases Nat.lt_or_ge LB w.heap.size with h' | h'
      · exact h'
      · rw [n0 LB h'] at c1; cases c1
    show (if _ then _ else _) = 1
    rw [if_pos hl]; exact c1
  · have hs := hq.size
    show (if _ then _ else _) = 0
    rw [if_neg (by omega), if_neg, if_neg]
    · intro e
      cases b with
      | none => cases e
      | some z =>
        have h1 := (hB z rfl).2
        have h2 : z.block = i := by simpa using e
        omega
    · intro e
      cases a' with
      | none => cases e
      | some z =>
        have h2 : z.block = i := by simpa using e
        rcases hT z rfl with h | h
        · rw [n0 _ (by omega)] at h; cases h
        · omega
end Go.Proofs.Ytfkbdiheccnohaa
