/- The hash, in plain numbers: how a word is absorbed; the words of some bytes; that absorbing is one to one in each argument. -/
import Derived.Test.YtcgnihgebifcjaaChecked
import Derived.Laws.Bits64
import Derived.Laws.BitsAllLaws
namespace Go.Proofs.Ytcgnihgebifcjaa

/-- 2^64 -/
def MM : Nat := 18446744073709551616
def KK : Nat := 11400714819323198485
def KI : Nat := 17428512612931826493
theorem KK_KI : KK * KI % MM = 1 := by decide +kernel
/-- a word is absorbed -/
def mixN (s w : Nat) : Nat := ((s ^^^ w) * KK % MM) ^^^ ((s ^^^ w) * KK % MM) / 4294967296

theorem xor_cr {a b c : Nat} (h : a ^^^ c = b ^^^ c) : a = b := by
  have : (a ^^^ c) ^^^ c = (b ^^^ c) ^^^ c := by rw [h]
  rwa [Nat.xor_assoc, Nat.xor_assoc, Nat.xor_self, Nat.xor_zero, Nat.xor_zero] at this
theorem xor_cl {a b c : Nat} (h : c ^^^ a = c ^^^ b) : a = b := xor_cr (c := c) (by rw [Nat.xor_comm a, Nat.xor_comm b, h])
theorem xor_lt {a b : Nat} (ha : a < MM) (hb : b < MM) : a ^^^ b < MM := Nat.xor_lt_two_pow (n := 64) ha hb
theorem mixYtcgnihgebifcjaalt (s w : Nat) : mixN s w < MM := by
  have h : (s ^^^ w) * KK % MM < MM := Nat.mod_lt _ (by decide)
  exact xor_lt h (Nat.lt_of_le_of_lt (Nat.div_le_self _ _) h)
theorem shift_inj {x y : Nat} (hx : x < MM) (hy : y < MM) (h : x ^^^ x / 4294967296 = y ^^^ y / 4294967296) : x = y := by
  have e : ∀ z : Nat, z < MM → (z ^^^ z / 4294967296) / 4294967296 = z / 4294967296 := by
    intro z hz
    have h1 : (z ^^^ z / 4294967296) >>> 32 = (z >>> 32) ^^^ ((z / 4294967296) >>> 32) := Nat.shiftRight_xor_distrib
    rw [Nat.shiftRight_eq_div_pow, Nat.shiftRight_eq_div_pow, Nat.shiftRight_eq_div_pow] at h1
    have h2 : z / 4294967296 / 2 ^ 32 = 0 := by
      unfold MM at hz
      have : z / 4294967296 < 4294967296 := by omega
      omega
    rw [h2, Nat.xor_zero] at h1
    exact h1
  have h1 : x / 4294967296 = y / 4294967296 := by rw [← e x hx, ← e y hy, h]
  rw [h1] at h
  exact xor_cr h
theorem mul_inj {x y : Nat} (hx : x < MM) (hy : y < MM) (h : x * KK % MM = y * KK % MM) : x = y := by
  have e : ∀ z, z < MM → (z * KK % MM) * KI % MM = z := by
    intro z hz
    rw [Nat.mod_mul_mod, Nat.mul_assoc, Nat.mul_mod, KK_KI, Nat.mul_one, Nat.mod_mod, Nat.mod_eq_of_lt hz]
  rw [← e x hx, ← e y hy, h]
theorem mixYtcgnihgebifcjaacore {x y : Nat} (hx : x < MM) (hy : y < MM) (h : (x * KK % MM) ^^^ (x * KK % MM) / 4294967296 = (y * KK % MM) ^^^ (y * KK % MM) / 4294967296) : x = y :=
  mul_inj hx hy (shift_inj (Nat.mod_lt _ (by decide)) (Nat.mod_lt _ (by decide)) h)
theorem mixYtcgnihgebifcjaaright {s w w' : Nat} (hs : s < MM) (hw : w < MM) (hw' : w' < MM) (h : mixN s w = mixN s w') : w = w' :=
  xor_cl (mixYtcgnihgebifcjaacore (xor_lt hs hw) (xor_lt hs hw') h)
theorem mixYtcgnihgebifcjaaleft {s s' w : Nat} (hs : s < MM) (hs' : s' < MM) (hw : w < MM) (h : mixN s w = mixN s' w) : s = s' :=
  xor_cr (mixYtcgnihgebifcjaacore (xor_lt hs hw) (xor_lt hs' hw) h)

/-- in the range of uint64 -/
def U64 (x : Int) : Prop := 0 ≤ x ∧ x < (MM : Int)
theorem U64.nat {x : Int} (h : U64 x) : x.toNat < MM := by have := h.1; have := h.2; omega
def mixZ (s w : Int) : Int := (mixN s.toNat w.toNat : Nat)
theorem mixZ_u64 (s w : Int) : U64 (mixZ s w) := ⟨by unfold mixZ; omega, by have := mixYtcgnihgebifcjaalt s.toNat w.toNat; unfold mixZ; omega⟩
theorem mixZ_right {s w w' : Int} (hs : U64 s) (hw : U64 w) (hw' : U64 w') (h : mixZ s w = mixZ s w') : w = w' := by
  have := mixYtcgnihgebifcjaaright hs.nat hw.nat hw'.nat (by unfold mixZ at h; omega)
  have := hw.1; have := hw'.1; omega
theorem mixZ_left {s s' w : Int} (hs : U64 s) (hs' : U64 s') (hw : U64 w) (h : mixZ s w = mixZ s' w) : s = s' := by
  have := mixYtcgnihgebifcjaaleft hs.nat hs'.nat hw.nat (by unfold mixZ at h; omega)
  have := hs.1; have := hs'.1; omega

/-- the words are absorbed one by one -/
def foldZ (s : Int) (ws : List Int) : Int := ws.foldl mixZ s
theorem foldZ_snoc (s : Int) (ws : List Int) (w : Int) : foldZ s (ws ++ [w]) = mixZ (foldZ s ws) w := by simp [foldZ]
theorem foldZ_u64 {s : Int} (hs : U64 s) (ws : List Int) : U64 (foldZ s ws) := by
  induction ws generalizing s with
  | nil => exact hs
  | cons w ws ih => exact ih (mixZ_u64 s w)
theorem foldZ_left {s s' : Int} (ws : List Int) (hs : U64 s) (hs' : U64 s') (hw : ∀ w ∈ ws, U64 w) (h : foldZ s ws = foldZ s' ws) : s = s' := by
  induction ws generalizing s s' with
  | nil => exact h
  | cons w ws ih =>
    have := ih (mixZ_u64 s w) (mixZ_u64 s' w) (fun x hx => hw x (List.mem_cons_of_mem _ hx)) h
    exact mixZ_left hs hs' (hw w List.mem_cons_self) this
/-- one word that differs: the results differ -/
theorem foldZ_one {s : Int} (a b : List Int) (hs : U64 s) (k : Nat) (ha : k < a.length) (hb : k < b.length) (hwa : ∀ w ∈ a, U64 w) (hwb : ∀ w ∈ b, U64 w)
    (hp : a.take k = b.take k) (hq : a.drop (k + 1) = b.drop (k + 1)) (h : foldZ s a = foldZ s b) : a[k] = b[k] := by
  have ea : a = a.take k ++ a[k] :: a.drop (k + 1) := by rw [← List.drop_eq_getElem_cons, List.take_append_drop]
  have eb : b = b.take k ++ b[k] :: b.drop (k + 1) := by rw [← List.drop_eq_getElem_cons, List.take_append_drop]
  have fa : foldZ s a = foldZ (mixZ (foldZ s (a.take k)) a[k]) (a.drop (k + 1)) := by conv => { lhs; rw [ea] }; simp only [foldZ, List.foldl_append, List.foldl_cons]
  have fb : foldZ s b = foldZ (mixZ (foldZ s (a.take k)) b[k]) (a.drop (k + 1)) := by conv => { lhs; rw [eb, ← hp, ← hq] }; simp only [foldZ, List.foldl_append, List.foldl_cons]
  rw [fa, fb] at h
  have := foldZ_left _ (mixZ_u64 _ _) (mixZ_u64 _ _) (fun w hw => hwa w (List.mem_of_mem_drop hw)) h
  exact mixZ_right (foldZ_u64 hs _) (hwa _ (List.getElem_mem ha)) (hwb _ (List.getElem_mem hb)) this

/-- the number that some bytes write, least significant first -/
def leZ (l : List Int) : Int := l.foldr (fun b acc => b + 256 * acc) 0
/-- word number i of some bytes -/
def wordZ (bs : List Int) (i : Nat) : Int := leZ ((bs.drop (8 * i)).take 8)
def wordsZ (bs : List Int) : List Int := (List.range ((bs.length + 7) / 8)).map (wordZ bs)
def u64Z (n : Int) : Int := n % 18446744073709551616
def i64Z (n : Int) : Int := (n + 9223372036854775808) % 18446744073709551616 - 9223372036854775808
theorem u64Z_u64 (n : Int) : U64 (u64Z n) := by unfold u64Z U64 MM; omega
theorem u64Z_i64Z {n : Int} (h : U64 n) : u64Z (i64Z n) = n := by unfold U64 MM at h; unfold u64Z i64Z; omega
theorem u64Z_inj {a b : Int} (ha : -9223372036854775808 ≤ a ∧ a ≤ 9223372036854775807) (hb : -9223372036854775808 ≤ b ∧ b ≤ 9223372036854775807) (h : u64Z a = u64Z b) : a = b := by unfold u64Z at h; omega
/-- Sum -/
def sumZ (label l : List Int) : Int := mixZ (foldZ (mixZ (mixZ (foldZ 0 (wordsZ label)) label.length) l.length) (l.map u64Z)) 0
/-- Bytes -/
def bytesZ (label bs : List Int) : Int := sumZ label ((wordsZ bs).map i64Z ++ [(bs.length : Int)])
/-- the bytes of a string -/
def strZ (s : ByteArray) : List Int := s.data.toList.map fun b => (b.toNat : Int)
theorem zero_u64 : U64 0 := by unfold U64 MM; omega
theorem sumZ_u64 (label l : List Int) : U64 (sumZ label l) := mixZ_u64 _ _

/-- bytes -/
def Bys (l : List Int) : Prop := ∀ b ∈ l, 0 ≤ b ∧ b ≤ 255
theorem Bys.take {l : List Int} (h : Bys l) (k : Nat) : Bys (l.take k) := fun b hb => h b (List.mem_of_mem_take hb)
theorem Bys.drop {l : List Int} (h : Bys l) (k : Nat) : Bys (l.drop k) := fun b hb => h b (List.mem_of_mem_drop hb)
theorem leZ_nil : leZ [] = 0 := rfl
theorem leZ_cons (b : Int) (l : List Int) : leZ (b :: l) = b + 256 * leZ l := rfl
theorem leZ_bound {l : List Int} (h : Bys l) : 0 ≤ leZ l ∧ leZ l < 256 ^ l.length := by
  induction l with
  | nil => exact ⟨by decide, by decide⟩
  | cons b l ih =>
    have h1 := ih (fun x hx => h x (List.mem_cons_of_mem _ hx))
    have h2 := h b List.mem_cons_self
    rw [leZ_cons, List.length_cons, Int.pow_succ]
    generalize (256 : Int) ^ l.length = p at *
    omega
theorem leZ_snoc (l : List Int) (b : Int) : leZ (l ++ [b]) = leZ l + b * 256 ^ l.length := by
  induction l with
  | nil => simp [leZ]
  | cons c l ih =>
    rw [List.cons_append, leZ_cons, leZ_cons, ih, List.length_cons, Int.pow_succ, Int.mul_add, ← Int.add_assoc, ← Int.mul_assoc, ← Int.mul_assoc]
    congr 1
    rw [Int.mul_comm 256 b, Int.mul_assoc, Int.mul_assoc, Int.mul_comm 256]
theorem pow_le (n : Nat) (h : n ≤ 8) : (256 : Int) ^ n ≤ 18446744073709551616 := by
  match n, h with
  | 0, _ => decide
  | 1, _ => decide
  | 2, _ => decide
  | 3, _ => decide
  | 4, _ => decide
  | 5, _ => decide
  | 6, _ => decide
  | 7, _ => decide
  | 8, _ => decide
theorem leZ_u64 {l : List Int} (h : Bys l) (hl : l.length ≤ 8) : U64 (leZ l) := by
  have h1 := leZ_bound h
  have h2 := pow_le l.length hl
  exact ⟨h1.1, by unfold MM; omega⟩
theorem leZ_inj : ∀ {a b : List Int}, Bys a → Bys b → a.length = b.length → leZ a = leZ b → a = b
  | [], [], _, _, _, _ => rfl
  | [], _ :: _, _, _, h, _ => by simp at h
  | _ :: _, [], _, _, h, _ => by simp at h
  | x :: a, y :: b, ha, hb, hl, h => by
    rw [leZ_cons, leZ_cons] at h
    have h1 := ha x List.mem_cons_self
    have h2 := hb y List.mem_cons_self
    have e1 : x = y := by omega
    have e2 : leZ a = leZ b := by omega
    rw [e1, leZ_inj (fun z hz => ha z (List.mem_cons_of_mem _ hz)) (fun z hz => hb z (List.mem_cons_of_mem _ hz)) (by simpa using hl) e2]
theorem wordZ_u64 {bs : List Int} (h : Bys bs) (i : Nat) : U64 (wordZ bs i) := leZ_u64 ((h.drop _).take _) (List.length_take_le _ _)
theorem wordsZ_u64 {bs : List Int} (h : Bys bs) : ∀ w ∈ wordsZ bs, U64 w := by
  intro w hw
  obtain ⟨i, _, rfl⟩ := List.mem_map.1 hw
  exact wordZ_u64 h i
theorem wordsZ_len (bs : List Int) : (wordsZ bs).length = (bs.length + 7) / 8 := by simp [wordsZ]
theorem strZ_bys (s : ByteArray) : Bys (strZ s) := by
  intro b hb
  obtain ⟨x, _, rfl⟩ := List.mem_map.1 hb
  have := x.toNat_lt
  omega
theorem strZ_len (s : ByteArray) : (strZ s).length = s.size := by simp [strZ]
/-- what has come when k words are over -/
def uptoW (bs : List Int) (k : Nat) : List Int := (List.range k).map (wordZ bs)
theorem uptoW_succ (bs : List Int) (k : Nat) : uptoW bs (k + 1) = uptoW bs k ++ [wordZ bs k] := by simp [uptoW, List.range_succ]
theorem uptoW_len (bs : List Int) (k : Nat) : (uptoW bs k).length = k := by simp [uptoW]
theorem uptoW_all (bs : List Int) : uptoW bs ((bs.length + 7) / 8) = wordsZ bs := rfl
theorem uptoW_zero (bs : List Int) : uptoW bs 0 = [] := rfl
end Go.Proofs.Ytcgnihgebifcjaa
