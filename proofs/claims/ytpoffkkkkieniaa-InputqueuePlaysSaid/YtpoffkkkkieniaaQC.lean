/- Contract: Fixed. -/
import Derived.Test.YtpoffkkkkieniaaQB
import Derived.Test.YtpoffkkkkieniaaClone
import Derived.Test.YtpoffkkkkieniaaMix
namespace Go.Proofs.Ytpoffkkkkieniaa
open Go Go.RowKit Go.BigFrame

theorem qFixed_no (B : Nat) (col : Nat → Nat) (s : QS) (t : Int) (w : World) (hQ : Que w B col s) (h : t < 0 ∨ (s.tks.length : Int) ≤ t) :
    Calls Try.prog 21 #[.pointer (some ⟨B, 0, none⟩), .int .i64 t] w fun e w' => e = .returned (.tuple #[.slice none 0 0, .slice none 0 0, .bool false]) ∧ w = w' := by
  obtain ⟨MB, ta, tc, cs, mp, hx⟩ := hQ
  have h3 := (hx.box.2 3 _ rfl).1
  have hlt := hx.box.1
  clear hx
  by_cases hp : t < 0
  · go_enter Try.func21, Try.ntmps21
    go_wp2
    go_ret3
    exact ⟨rfl, rfl⟩
  · have hk : (s.tks.length : Int) ≤ t := by omega
    go_enter Try.func21, Try.ntmps21
    go_wp2
    go_ret3
    exact ⟨rfl, rfl⟩
/-- the answer of Fixed -/
def FixedIs (x : List Int × List Bool) (w : World) (e : Ending) (w' : World) : Prop :=
  ∃ a ca b cb, e = .returned (.tuple #[.slice a x.1.length ca, .slice b x.2.length cb, .bool true]) ∧ w'.ownsRow w.heap.size 34 3 (.slice a x.1.length ca) x.1.length (inCells x.1) ∧ w'.ownsRow w.heap.size 4 1 (.slice b x.2.length cb) x.2.length (x.2.map Value.bool) ∧ Q w w'
theorem Sl.pairAt {w : World} {a : Option Addr} {n cap : Nat} {cs : List (Value × Value)} (h : Sl w 2 a n cap (cs.flatMap pairC)) (i : Nat) (c : Value × Value) (hi : cs[i]? = some c) :
    ∃ g o, a = some ⟨g, o, none⟩ ∧ g < w.heap.size ∧ w.cell? ⟨g, o + i * 2, none⟩ = some c.1 ∧ w.cell? ⟨g, o + i * 2 + 1, none⟩ = some c.2 := by
  obtain ⟨hil, hic⟩ := List.getElem?_eq_some_iff.1 hi
  have hn : cs.length = n := by have := h.1; rw [flatL pairC 2 (fun _ => rfl)] at this; omega
  obtain ⟨g, o, ha, hg, hc⟩ := h.pos (by omega)
  refine ⟨g, o, ha, hg, ?_, ?_⟩
  · have := hc (i * 2 + 0) c.1 (by rw [flatG pairC 2 (fun _ => rfl) cs i 0 hil (by omega), hic]; rfl)
    exact this
  · have := hc (i * 2 + 1) c.2 (by rw [flatG pairC 2 (fun _ => rfl) cs i 1 hil (by omega), hic]; rfl)
    exact this
theorem qFixed_yes (B : Nat) (col : Nat → Nat) (s : QS) (t : Nat) (x : List Int × List Bool) (w : World) (hQ : Que w B col s) (ok : OkS s) (hx : s.tks[t]? = some x) :
    Calls Try.prog 21 #[.pointer (some ⟨B, 0, none⟩), .int .i64 t] w (FixedIs x w) := by
  have hk := ok.tk1 x (List.mem_of_getElem? hx)
  have hk8 := ok.k8
  have ht : t < s.tks.length := (List.getElem?_eq_some_iff.1 hx).1
  have h6 := ok.n6000
  obtain ⟨MB, ta, tc, cs, mp, hX⟩ := hQ
  have h3 := (hX.box.2 3 _ rfl).1
  have hlt := hX.box.1
  obtain ⟨c, hc, a, ca, b, cb, rfl, hsa, hsb, _, _⟩ := hX.tk t x hx
  obtain ⟨g, o, rfl, hg, d0, d1⟩ := (Sl.of_own hX.own).pairAt t _ hc
  replace d0 : w.cell? ⟨g, o + t * 2, none⟩ = some (.slice a x.1.length ca) := d0
  replace d1 : w.cell? ⟨g, o + t * 2 + 1, none⟩ = some (.slice b x.2.length cb) := d1
  have HA := Lib.hid hsa
  have HB := Lib.hid hsb
  have HK := Lib.hid hk
  have H1 := Lib.hid (show x.1.length ≤ 8 by omega)
  have H2 := Lib.hid (show x.2.length ≤ 8 by omega)
  clear hsa hsb hk hX hc hx
  go_enter Try.func21, Try.ntmps21
  go_wp2_with (fail)
  have HBX := Lib.hid (Box.new w [.slice a x.1.length ca, .slice b x.2.length cb] 74)
  have HQ0 := Lib.hid (((Q.refl w).alloc (.cells #[.slice a x.1.length ca, .slice b x.2.length cb] 74)).drew)
  refine wp_region_mix [(0, true), (1, true), (3, true), (4, true), (2, false), (5, false), (6, true), (7, true), (8, true)] (by kernel_rfl) (by kernel_rfl) (fun _ _ _ _ _ h => h) ?_
  have HBX : Hid (Box (w.alloc (.cells #[.slice a x.1.length ca, .slice b x.2.length cb] 74)).drew w.heap.size [.slice a x.1.length ca, .slice b x.2.length cb]) := Lib.hid (Box.q HBX.out (Q.refl _).drew)
  generalize (w.alloc (.cells #[.slice a x.1.length ca, .slice b x.2.length cb] 74)).drew = W at *
  have c0 := Box.sf HBX.out 0 _ rfl
  have c1 := Box.sf HBX.out 1 _ rfl
  repeat (refine mix_val rfl rfl ?_; go_big_quiet_step (fail); refine wpQuiet_nil ?_)
  clear c0 c1
  refine mix_run rfl rfl ?_
  intro K hK
  go_wp2_with (fail)
  refine (cloneIn_any a _ ca x.1 _ (HA.out.q HQ0.out) (by have := H1.out; omega)).mono ?_
  rintro e w2 ⟨a2, ca2, rfl, ho2, hq2⟩
  refine hK _ _ hq2 ?_
  clear hK K
  refine mix_run rfl rfl ?_
  intro K hK
  go_wp2_with (fail)
  refine (cloneBool_any b _ cb x.2 _ (HB.out.q (HQ0.out.trans hq2)) (by have := H2.out; omega)).mono ?_
  rintro e w3 ⟨b3, cb3, rfl, ho3, hq3⟩
  refine hK _ _ hq3 ?_
  clear hK K
  have HO2 := Lib.hid (own_mono (own_q ho2 hq3) HQ0.out.size)
  have HO3 := Lib.hid (own_mono ho3 (HQ0.out.trans hq2).size)
  have HQ3 := Lib.hid ((HQ0.out.trans hq2).trans hq3)
  clear ho2 ho3 hq2 hq3
  repeat (refine mix_val rfl rfl ?_; go_big_quiet_step (fail); refine wpQuiet_nil ?_)
  refine mix_end ?_
  go_wp2
  go_ret3
  exact ⟨a2, ca2, b3, cb3, rfl, HO2.out, HO3.out, HQ3.out⟩
end Go.Proofs.Ytpoffkkkkieniaa
