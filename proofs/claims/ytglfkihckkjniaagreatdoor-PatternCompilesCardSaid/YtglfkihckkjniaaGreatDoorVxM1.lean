/-
Code points and their bytes, in plain Lean: no program is in sight. No statement of the seat is proved here.
-/
import Derived.Lib.DecodeN
import Derived.Lib.RuneBytes
set_option linter.unusedVariables false
set_option linter.unusedSimpArgs false
namespace Go.Proofs.YtglfkihckkjniaaGreatDoor.Vx
open Go

def scalar (r : Int) : Bool := decide (0 ≤ r ∧ r ≤ 1114111 ∧ (r < 55296 ∨ r > 57343))
theorem scalar_iff {r : Int} : scalar r = true ↔ 0 ≤ r ∧ r ≤ 1114111 ∧ (r < 55296 ∨ r > 57343) := by simp [scalar]
def bt (s : List UInt8) (i : Nat) : Nat := (s.getD i 0).toNat
theorem bt_lt (s : List UInt8) (i : Nat) : bt s i < 256 := (s.getD i 0).toNat_lt
def decL (s : List UInt8) : Nat × Nat := Lib.decodeN s.length (bt s 0) (bt s 1) (bt s 2) (bt s 3)
theorem get_bytes (s : List UInt8) (i : Nat) : ((⟨s.toArray⟩ : ByteArray).get! i) = s.getD i 0 := by
  show (s.toArray[i]!) = _
  simp [List.getElem!_eq_getElem?_getD, List.getD_eq_getElem?_getD]
  rfl
theorem getD_drop (s : List UInt8) (p i : Nat) : (s.drop p).getD i 0 = s.getD (p + i) 0 := by
  simp [List.getD_eq_getElem?_getD, List.getElem?_drop]
theorem decode_drop (s : List UInt8) (p : Nat) : Utf8.decode ⟨s.toArray⟩ p = decL (s.drop p) := by
  rw [Lib.decode_at]
  unfold decL bt
  simp only [get_bytes, getD_drop, List.length_drop, Nat.add_zero]
  rfl
def enc (r : Int) : List UInt8 := (Lib.encodeRuneZ r).map fun n => UInt8.ofNat n.toNat
theorem ofNat_toNat {n : Int} (h0 : 0 ≤ n) (h1 : n < 256) : ((UInt8.ofNat n.toNat).toNat : Int) = n := by
  rw [UInt8.toNat_ofNat']
  omega
theorem u8_eq {n : Int} {c : UInt8} (h0 : 0 ≤ n) (h1 : n < 256) : c = UInt8.ofNat n.toNat ↔ (c.toNat : Int) = n := by
  constructor
  · rintro rfl; exact ofNat_toNat h0 h1
  · intro h
    apply UInt8.toNat_inj.1
    rw [UInt8.toNat_ofNat']
    omega
theorem enc1 {r : Int} (h0 : 0 ≤ r) (h1 : r < 128) : enc r = [UInt8.ofNat r.toNat] := by
  unfold enc; rw [Lib.encodeRuneZ_one h0 (by omega)]; rfl
theorem enc2 {r : Int} (h0 : 128 ≤ r) (h1 : r < 2048) : enc r = [UInt8.ofNat (192 + r / 64).toNat, UInt8.ofNat (128 + r % 64).toNat] := by
  unfold enc; rw [Lib.encodeRuneZ_two h0 (by omega)]; rfl
theorem enc3 {r : Int} (h : (2048 ≤ r ∧ r < 55296) ∨ (57343 < r ∧ r ≤ 65535)) : enc r = [UInt8.ofNat (224 + r / 4096).toNat, UInt8.ofNat (128 + r / 64 % 64).toNat, UInt8.ofNat (128 + r % 64).toNat] := by
  unfold enc; rw [Lib.encodeRuneZ_three h]; rfl
theorem enc4 {r : Int} (h0 : 65536 ≤ r) (h1 : r ≤ 1114111) : enc r = [UInt8.ofNat (240 + r / 262144).toNat, UInt8.ofNat (128 + r / 4096 % 64).toNat, UInt8.ofNat (128 + r / 64 % 64).toNat, UInt8.ofNat (128 + r % 64).toNat] := by
  unfold enc; rw [Lib.encodeRuneZ_four h0 h1]; rfl
/-- A text begins with a code point. -/
def Starts (s : List UInt8) (r : Int) : Prop := scalar r = true ∧ enc r <+: s
theorem pre_cons {s l : List UInt8} {a : Int} (ha : 0 ≤ a ∧ a < 256) : (UInt8.ofNat a.toNat :: l) <+: s ↔ 1 ≤ s.length ∧ (bt s 0 : Int) = a ∧ l <+: s.drop 1 := by
  cases s with
  | nil => simp
  | cons x s =>
    rw [List.cons_prefix_cons, eq_comm, u8_eq ha.1 ha.2]
    simp [bt]
theorem pre1 {s : List UInt8} {a : Int} (ha : 0 ≤ a ∧ a < 256) : [UInt8.ofNat a.toNat] <+: s ↔ 1 ≤ s.length ∧ (bt s 0 : Int) = a := by
  rw [pre_cons ha]; simp
theorem bt_drop (s : List UInt8) (p i : Nat) : bt (s.drop p) i = bt s (p + i) := by unfold bt; rw [getD_drop]
theorem pre2 {s : List UInt8} {a b : Int} (ha : 0 ≤ a ∧ a < 256) (hb : 0 ≤ b ∧ b < 256) : [UInt8.ofNat a.toNat, UInt8.ofNat b.toNat] <+: s ↔ 2 ≤ s.length ∧ (bt s 0 : Int) = a ∧ (bt s 1 : Int) = b := by
  rw [pre_cons ha, pre1 hb, bt_drop, List.length_drop]
  constructor
  · rintro ⟨h1, h2, h3, h4⟩; exact ⟨by omega, h2, h4⟩
  · rintro ⟨h1, h2, h3⟩; exact ⟨by omega, h2, by omega, h3⟩
theorem pre3 {s : List UInt8} {a b c : Int} (ha : 0 ≤ a ∧ a < 256) (hb : 0 ≤ b ∧ b < 256) (hc : 0 ≤ c ∧ c < 256) : [UInt8.ofNat a.toNat, UInt8.ofNat b.toNat, UInt8.ofNat c.toNat] <+: s ↔ 3 ≤ s.length ∧ (bt s 0 : Int) = a ∧ (bt s 1 : Int) = b ∧ (bt s 2 : Int) = c := by
  rw [pre_cons ha, pre2 hb hc, bt_drop, bt_drop, List.length_drop]
  constructor
  · rintro ⟨h1, h2, h3, h4, h5⟩; exact ⟨by omega, h2, h4, h5⟩
  · rintro ⟨h1, h2, h3, h4⟩; exact ⟨by omega, h2, by omega, h3, h4⟩
theorem pre4 {s : List UInt8} {a b c d : Int} (ha : 0 ≤ a ∧ a < 256) (hb : 0 ≤ b ∧ b < 256) (hc : 0 ≤ c ∧ c < 256) (hd : 0 ≤ d ∧ d < 256) : [UInt8.ofNat a.toNat, UInt8.ofNat b.toNat, UInt8.ofNat c.toNat, UInt8.ofNat d.toNat] <+: s ↔ 4 ≤ s.length ∧ (bt s 0 : Int) = a ∧ (bt s 1 : Int) = b ∧ (bt s 2 : Int) = c ∧ (bt s 3 : Int) = d := by
  rw [pre_cons ha, pre3 hb hc hd, bt_drop, bt_drop, bt_drop, List.length_drop]
  constructor
  · rintro ⟨h1, h2, h3, h4, h5, h6⟩; exact ⟨by omega, h2, h4, h5, h6⟩
  · rintro ⟨h1, h2, h3, h4, h5⟩; exact ⟨by omega, h2, by omega, h3, h4, h5⟩
/-- The four classes. -/
def Cls (s : List UInt8) (r : Int) (k : Nat) : Prop :=
  (k = 1 ∧ 0 ≤ r ∧ r < 128 ∧ 1 ≤ s.length ∧ (bt s 0 : Int) = r) ∨
  (k = 2 ∧ 128 ≤ r ∧ r < 2048 ∧ 2 ≤ s.length ∧ (bt s 0 : Int) = 192 + r / 64 ∧ (bt s 1 : Int) = 128 + r % 64) ∨
  (k = 3 ∧ ((2048 ≤ r ∧ r < 55296) ∨ (57343 < r ∧ r ≤ 65535)) ∧ 3 ≤ s.length ∧ (bt s 0 : Int) = 224 + r / 4096 ∧ (bt s 1 : Int) = 128 + r / 64 % 64 ∧ (bt s 2 : Int) = 128 + r % 64) ∨
  (k = 4 ∧ 65536 ≤ r ∧ r ≤ 1114111 ∧ 4 ≤ s.length ∧ (bt s 0 : Int) = 240 + r / 262144 ∧ (bt s 1 : Int) = 128 + r / 4096 % 64 ∧ (bt s 2 : Int) = 128 + r / 64 % 64 ∧ (bt s 3 : Int) = 128 + r % 64)
theorem cls_iff {s : List UInt8} {r : Int} {k : Nat} : Cls s r k ↔ Starts s r ∧ k = (enc r).length := by
  unfold Cls Starts
  rw [scalar_iff]
  constructor
  · rintro (⟨rfl, h1, h2, h3, h4⟩ | ⟨rfl, h1, h2, h3, h4, h5⟩ | ⟨rfl, h1, h3, h4, h5, h6⟩ | ⟨rfl, h1, h2, h3, h4, h5, h6, h7⟩)
    · rw [enc1 h1 h2, pre1 (by omega)]; exact ⟨⟨by omega, h3, h4⟩, rfl⟩
    · rw [enc2 h1 h2, pre2 (by omega) (by omega)]; exact ⟨⟨by omega, h3, h4, h5⟩, rfl⟩
    · rw [enc3 h1, pre3 (by omega) (by omega) (by omega)]; exact ⟨⟨by omega, h3, h4, h5, h6⟩, rfl⟩
    · rw [enc4 h1 h2, pre4 (by omega) (by omega) (by omega) (by omega)]; exact ⟨⟨by omega, h3, h4, h5, h6, h7⟩, rfl⟩
  · rintro ⟨⟨h0, h1⟩, h2⟩
    by_cases c1 : r < 128
    · rw [enc1 h0.1 c1, pre1 (by omega)] at h1; rw [enc1 h0.1 c1] at h2; exact .inl ⟨h2, h0.1, c1, h1⟩
    · by_cases c2 : r < 2048
      · rw [enc2 (by omega) c2, pre2 (by omega) (by omega)] at h1; rw [enc2 (by omega) c2] at h2; exact .inr (.inl ⟨h2, by omega, c2, h1⟩)
      · by_cases c3 : r ≤ 65535
        · have c : (2048 ≤ r ∧ r < 55296) ∨ (57343 < r ∧ r ≤ 65535) := by omega
          rw [enc3 c, pre3 (by omega) (by omega) (by omega)] at h1; rw [enc3 c] at h2; exact .inr (.inr (.inl ⟨h2, c, h1⟩))
        · rw [enc4 (by omega) (by omega), pre4 (by omega) (by omega) (by omega) (by omega)] at h1; rw [enc4 (by omega) (by omega)] at h2; exact .inr (.inr (.inr ⟨h2, by omega, by omega, h1⟩))
theorem enc_len (r : Int) : 1 ≤ (enc r).length ∧ (enc r).length ≤ 4 := by
  have := Lib.encodeRuneZ_length r
  simpa [enc] using this
theorem cls_fun {s : List UInt8} {r r' : Int} {k k' : Nat} (h : Cls s r k) (h' : Cls s r' k') : r = r' ∧ k = k' := by
  unfold Cls at h h'
  omega
theorem two_of {x0 x1 : Nat} (h0 : x0 / 32 = 6) (h1 : x1 / 64 = 2) : ((x0 : Int) = 192 + ((x0 % 32 * 64 + x1 % 64 : Nat) : Int) / 64) ∧ ((x1 : Int) = 128 + ((x0 % 32 * 64 + x1 % 64 : Nat) : Int) % 64) ∧ x0 % 32 * 64 + x1 % 64 < 2048 := by
  obtain ⟨a, rfl, ha⟩ : ∃ a, x0 = 192 + a ∧ a < 32 := ⟨x0 - 192, by omega, by omega⟩
  obtain ⟨b, rfl, hb⟩ : ∃ b, x1 = 128 + b ∧ b < 64 := ⟨x1 - 128, by omega, by omega⟩
  have e0 : (192 + a) % 32 = a := by omega
  have e1 : (128 + b) % 64 = b := by omega
  rw [e0, e1]
  omega
theorem three_of {x0 x1 x2 : Nat} (h0 : x0 / 16 = 14) (h1 : x1 / 64 = 2) (h2 : x2 / 64 = 2) : ((x0 : Int) = 224 + ((x0 % 16 * 4096 + x1 % 64 * 64 + x2 % 64 : Nat) : Int) / 4096) ∧ ((x1 : Int) = 128 + ((x0 % 16 * 4096 + x1 % 64 * 64 + x2 % 64 : Nat) : Int) / 64 % 64) ∧
    ((x2 : Int) = 128 + ((x0 % 16 * 4096 + x1 % 64 * 64 + x2 % 64 : Nat) : Int) % 64) ∧ x0 % 16 * 4096 + x1 % 64 * 64 + x2 % 64 < 65536 := by
  obtain ⟨a, rfl, ha⟩ : ∃ a, x0 = 224 + a ∧ a < 16 := ⟨x0 - 224, by omega, by omega⟩
  obtain ⟨b, rfl, hb⟩ : ∃ b, x1 = 128 + b ∧ b < 64 := ⟨x1 - 128, by omega, by omega⟩
  obtain ⟨c, rfl, hc⟩ : ∃ b, x2 = 128 + b ∧ b < 64 := ⟨x2 - 128, by omega, by omega⟩
  have e0 : (224 + a) % 16 = a := by omega
  have e1 : (128 + b) % 64 = b := by omega
  have e2 : (128 + c) % 64 = c := by omega
  rw [e0, e1, e2]
  omega
theorem four_of {x0 x1 x2 x3 : Nat} (h0 : x0 / 8 = 30) (h1 : x1 / 64 = 2) (h2 : x2 / 64 = 2) (h3 : x3 / 64 = 2) : ((x0 : Int) = 240 + ((x0 % 8 * 262144 + x1 % 64 * 4096 + x2 % 64 * 64 + x3 % 64 : Nat) : Int) / 262144) ∧ ((x1 : Int) = 128 + ((x0 % 8 * 262144 + x1 % 64 * 4096 + x2 % 64 * 64 + x3 % 64 : Nat) : Int) / 4096 % 64) ∧
    ((x2 : Int) = 128 + ((x0 % 8 * 262144 + x1 % 64 * 4096 + x2 % 64 * 64 + x3 % 64 : Nat) : Int) / 64 % 64) ∧ ((x3 : Int) = 128 + ((x0 % 8 * 262144 + x1 % 64 * 4096 + x2 % 64 * 64 + x3 % 64 : Nat) : Int) % 64) := by
  obtain ⟨a, rfl, ha⟩ : ∃ a, x0 = 240 + a ∧ a < 8 := ⟨x0 - 240, by omega, by omega⟩
  obtain ⟨b, rfl, hb⟩ : ∃ b, x1 = 128 + b ∧ b < 64 := ⟨x1 - 128, by omega, by omega⟩
  obtain ⟨c, rfl, hc⟩ : ∃ b, x2 = 128 + b ∧ b < 64 := ⟨x2 - 128, by omega, by omega⟩
  obtain ⟨d, rfl, hd⟩ : ∃ b, x3 = 128 + b ∧ b < 64 := ⟨x3 - 128, by omega, by omega⟩
  have e0 : (240 + a) % 8 = a := by omega
  have e1 : (128 + b) % 64 = b := by omega
  have e2 : (128 + c) % 64 = c := by omega
  have e3 : (128 + d) % 64 = d := by omega
  rw [e0, e1, e2, e3]
  omega
theorem two_to {x0 x1 r : Nat} (h : r < 2048) (h0 : (x0 : Int) = 192 + (r : Int) / 64) (h1 : (x1 : Int) = 128 + (r : Int) % 64) : x0 / 32 = 6 ∧ x1 / 64 = 2 ∧ x0 % 32 * 64 + x1 % 64 = r ∧ 128 ≤ x0 := by
  obtain ⟨a, b, rfl, hb⟩ : ∃ a b, r = a * 64 + b ∧ b < 64 := ⟨r / 64, r % 64, by omega, by omega⟩
  have e0 : x0 = 192 + a := by omega
  have e1 : x1 = 128 + b := by omega
  subst e0; subst e1
  omega
theorem three_to {x0 x1 x2 r : Nat} (h : r < 65536) (h0 : (x0 : Int) = 224 + (r : Int) / 4096) (h1 : (x1 : Int) = 128 + (r : Int) / 64 % 64) (h2 : (x2 : Int) = 128 + (r : Int) % 64) : x0 / 16 = 14 ∧ x1 / 64 = 2 ∧ x2 / 64 = 2 ∧ x0 % 16 * 4096 + x1 % 64 * 64 + x2 % 64 = r := by
  obtain ⟨a, b, c, rfl, ha, hb, hc⟩ : ∃ a b c, r = a * 4096 + b * 64 + c ∧ a < 16 ∧ b < 64 ∧ c < 64 := ⟨r / 4096, r / 64 % 64, r % 64, by omega, by omega, by omega, by omega⟩
  have e0 : x0 = 224 + a := by omega
  have e1 : x1 = 128 + b := by omega
  have e2 : x2 = 128 + c := by omega
  subst e0; subst e1; subst e2
  omega
theorem four_to {x0 x1 x2 x3 r : Nat} (h : r ≤ 1114111) (h0 : (x0 : Int) = 240 + (r : Int) / 262144) (h1 : (x1 : Int) = 128 + (r : Int) / 4096 % 64) (h2 : (x2 : Int) = 128 + (r : Int) / 64 % 64) (h3 : (x3 : Int) = 128 + (r : Int) % 64) : x0 / 8 = 30 ∧ x1 / 64 = 2 ∧ x2 / 64 = 2 ∧ x3 / 64 = 2 ∧ x0 % 8 * 262144 + x1 % 64 * 4096 + x2 % 64 * 64 + x3 % 64 = r := by
  obtain ⟨a, b, c, d, rfl, ha, hb, hc, hd⟩ : ∃ a b c d, r = a * 262144 + b * 4096 + c * 64 + d ∧ a < 5 ∧ b < 64 ∧ c < 64 ∧ d < 64 := ⟨r / 262144, r / 4096 % 64, r / 64 % 64, r % 64, by omega, by omega, by omega, by omega, by omega⟩
  have e0 : x0 = 240 + a := by omega
  have e1 : x1 = 128 + b := by omega
  have e2 : x2 = 128 + c := by omega
  have e3 : x3 = 128 + d := by omega
  subst e0; subst e1; subst e2; subst e3
  omega
theorem decN_iff {n x0 x1 x2 x3 r k : Nat} (hl : 1 ≤ n) : (Lib.decodeN n x0 x1 x2 x3 = (r, k) ∧ ¬ (r = 65533 ∧ k = 1)) ↔
    ((k = 1 ∧ r < 128 ∧ x0 = r) ∨ (k = 2 ∧ 128 ≤ r ∧ r < 2048 ∧ 2 ≤ n ∧ (x0 : Int) = 192 + (r : Int) / 64 ∧ (x1 : Int) = 128 + (r : Int) % 64) ∨
    (k = 3 ∧ ((2048 ≤ r ∧ r < 55296) ∨ (57343 < r ∧ r ≤ 65535)) ∧ 3 ≤ n ∧ (x0 : Int) = 224 + (r : Int) / 4096 ∧ (x1 : Int) = 128 + (r : Int) / 64 % 64 ∧ (x2 : Int) = 128 + (r : Int) % 64) ∨
    (k = 4 ∧ 65536 ≤ r ∧ r ≤ 1114111 ∧ 4 ≤ n ∧ (x0 : Int) = 240 + (r : Int) / 262144 ∧ (x1 : Int) = 128 + (r : Int) / 4096 % 64 ∧ (x2 : Int) = 128 + (r : Int) / 64 % 64 ∧ (x3 : Int) = 128 + (r : Int) % 64)) := by
  constructor
  · rintro ⟨h1, h2⟩
    unfold Lib.decodeN at h1
    split at h1
    · cases h1; exact .inl ⟨rfl, by assumption, rfl⟩
    · split at h1
      · rename_i c1 c2
        obtain ⟨q1, q2, q3⟩ := two_of c2.1 c2.2.2
        split at h1
        · rename_i c3
          cases h1
          exact .inr (.inl ⟨rfl, c3, q3, c2.2.1, q1, q2⟩)
        · cases h1; exact absurd ⟨rfl, rfl⟩ h2
      · split at h1
        · rename_i c1 _ c2
          obtain ⟨q1, q2, q3, q4⟩ := three_of c2.1 c2.2.1.2 c2.2.2.2
          split at h1
          · rename_i c3
            cases h1
            exact .inr (.inr (.inl ⟨rfl, by omega, c2.2.2.1, q1, q2, q3⟩))
          · cases h1; exact absurd ⟨rfl, rfl⟩ h2
        · split at h1
          · rename_i c1 _ _ c2
            obtain ⟨q1, q2, q3, q4⟩ := four_of c2.1 c2.2.1.2 c2.2.2.1.2 c2.2.2.2.2
            split at h1
            · rename_i c3
              cases h1
              exact .inr (.inr (.inr ⟨rfl, c3.1, by omega, c2.2.2.2.1, q1, q2, q3, q4⟩))
            · cases h1; exact absurd ⟨rfl, rfl⟩ h2
          · cases h1; exact absurd ⟨rfl, rfl⟩ h2
  · rintro (⟨rfl, h1, rfl⟩ | ⟨rfl, h1, h2, h3, h4, h5⟩ | ⟨rfl, h1, h3, h4, h5, h6⟩ | ⟨rfl, h1, h2, h3, h4, h5, h6, h7⟩)
    · unfold Lib.decodeN
      rw [if_pos h1]
      exact ⟨rfl, by omega⟩
    · obtain ⟨q1, q2, q3, q4⟩ := two_to h2 h4 h5
      unfold Lib.decodeN
      rw [if_neg (by omega), if_pos ⟨q1, by omega, q2⟩, if_pos (by omega), q3]
      exact ⟨rfl, by omega⟩
    · obtain ⟨q1, q2, q3, q4⟩ := three_to (by omega) h4 h5 h6
      unfold Lib.decodeN
      rw [if_neg (by omega), if_neg (by omega), if_pos ⟨q1, ⟨by omega, q2⟩, by omega, q3⟩, q4, if_pos (by omega)]
      exact ⟨rfl, by omega⟩
    · obtain ⟨q1, q2, q3, q4, q5⟩ := four_to h2 h4 h5 h6 h7
      unfold Lib.decodeN
      rw [if_neg (by omega), if_neg (by omega), if_neg (by omega), if_pos ⟨q1, ⟨by omega, q2⟩, ⟨by omega, q3⟩, by omega, q4⟩, q5, if_pos (by omega)]
      exact ⟨rfl, by omega⟩
theorem decL_iff {s : List UInt8} (hs : s ≠ []) {r k : Nat} : decL s = (r, k) ∧ (r, k) ≠ (65533, 1) ↔ Cls s r k := by
  have hl : 1 ≤ s.length := by cases s with | nil => exact absurd rfl hs | cons => simp
  unfold decL
  rw [show ((r, k) ≠ (65533, 1)) = ¬ (r = 65533 ∧ k = 1) by simp, decN_iff hl]
  unfold Cls
  constructor
  · rintro (⟨h0, h1, h2⟩ | ⟨h0, h1, h2, h3⟩ | ⟨h0, h1, h2⟩ | ⟨h0, h1, h2, h3⟩)
    · exact .inl ⟨h0, by omega, by omega, hl, by omega⟩
    · exact .inr (.inl ⟨h0, by omega, by omega, h3⟩)
    · exact .inr (.inr (.inl ⟨h0, by omega, h2⟩))
    · exact .inr (.inr (.inr ⟨h0, by omega, by omega, h3⟩))
  · rintro (⟨h0, h1, h2, h3, h4⟩ | ⟨h0, h1, h2, h3⟩ | ⟨h0, h1, h2⟩ | ⟨h0, h1, h2, h3⟩)
    · exact .inl ⟨h0, by omega, by omega⟩
    · exact .inr (.inl ⟨h0, by omega, by omega, h3⟩)
    · exact .inr (.inr (.inl ⟨h0, by omega, h2⟩))
    · exact .inr (.inr (.inr ⟨h0, by omega, by omega, h3⟩))
/-- The first code point of a text, and how many bytes it takes. -/
def step (s : List UInt8) : Option (Int × Nat) := if s = [] then none else if decL s = (65533, 1) then none else some (((decL s).1 : Int), (decL s).2)
theorem step_iff {s : List UInt8} {r : Int} {k : Nat} : step s = some (r, k) ↔ Cls s r k := by
  unfold step
  by_cases hs : s = []
  · subst hs
    simp [Cls]
  · rw [if_neg hs]
    by_cases hd : decL s = (65533, 1)
    · rw [if_pos hd]
      simp only [reduceCtorEq, false_iff]
      intro hc
      have hr : ((r.toNat : Nat) : Int) = r := by have := hc; unfold Cls at this; omega
      rw [← hr] at hc
      have := (decL_iff hs).2 hc
      rw [hd] at this
      exact this.2 this.1.symm
    · rw [if_neg hd]
      simp only [Option.some.injEq, Prod.mk.injEq]
      constructor
      · rintro ⟨rfl, rfl⟩
        exact (decL_iff hs).1 ⟨rfl, hd⟩
      · intro hc
        have hr : ((r.toNat : Nat) : Int) = r := by have := hc; unfold Cls at this; omega
        rw [← hr] at hc
        have := ((decL_iff hs).2 hc).1
        rw [this]
        exact ⟨hr, rfl⟩
theorem step_starts {s : List UInt8} {r : Int} {k : Nat} (h : step s = some (r, k)) : scalar r = true ∧ k = (enc r).length ∧ s = enc r ++ s.drop k := by
  obtain ⟨⟨h1, h2⟩, h3⟩ := cls_iff.1 (step_iff.1 h)
  refine ⟨h1, h3, ?_⟩
  obtain ⟨t, rfl⟩ := h2
  rw [h3, List.drop_left]
theorem step_enc {r : Int} (h : scalar r = true) (t : List UInt8) : step (enc r ++ t) = some (r, (enc r).length) := step_iff.2 (cls_iff.2 ⟨⟨h, List.prefix_append _ _⟩, rfl⟩)
theorem step_nil : step [] = none := rfl
/-- A text as code points, as far as it goes, and what is left. -/
def decompF : Nat → List UInt8 → List Int × List UInt8
  | 0, s => ([], s)
  | n + 1, s =>
    match step s with
    | some (r, k) => (r :: (decompF n (s.drop k)).1, (decompF n (s.drop k)).2)
    | none => ([], s)
def decomp (s : List UInt8) : List Int × List UInt8 := decompF s.length s
def encs (l : List Int) : List UInt8 := l.flatMap enc
theorem encs_nil : encs [] = [] := rfl
theorem encs_cons (r : Int) (l : List Int) : encs (r :: l) = enc r ++ encs l := by simp [encs]
theorem encs_append (l m : List Int) : encs (l ++ m) = encs l ++ encs m := by simp [encs]
theorem encs_snoc (l : List Int) (r : Int) : encs (l ++ [r]) = encs l ++ enc r := by simp [encs]
theorem encs_len (l : List Int) : l.length ≤ (encs l).length ∧ (encs l).length ≤ 4 * l.length := by
  induction l with
  | nil => simp [encs]
  | cons r l ih =>
    have := enc_len r
    rw [encs_cons, List.length_append, List.length_cons]
    omega
def Scalars (l : List Int) : Prop := ∀ r ∈ l, scalar r = true
def Stuck (t : List UInt8) : Prop := step t = none
theorem decompF_ok : ∀ (n : Nat) (s : List UInt8), s.length ≤ n → s = encs (decompF n s).1 ++ (decompF n s).2 ∧ Scalars (decompF n s).1 ∧ Stuck (decompF n s).2 := by
  intro n
  induction n with
  | zero =>
    intro s h
    have : s = [] := List.eq_nil_of_length_eq_zero (by omega)
    subst this
    exact ⟨rfl, fun r hr => (by cases hr), rfl⟩
  | succ n ih =>
    intro s h
    unfold decompF
    split
    · rename_i r k hs
      obtain ⟨h1, h2, h3⟩ := step_starts hs
      have hk := enc_len r
      obtain ⟨g1, g2, g3⟩ := ih (s.drop k) (by rw [List.length_drop]; omega)
      refine ⟨?_, ?_, g3⟩
      · simp only [encs_cons, List.append_assoc]
        rw [← g1]; exact h3
      · intro x hx
        rcases List.mem_cons.1 hx with rfl | hx
        · exact h1
        · exact g2 x hx
    · rename_i hs
      exact ⟨rfl, fun r hr => (by cases hr), hs⟩
theorem decompF_of : ∀ (l : List Int) (t : List UInt8) (n : Nat), (encs l ++ t).length ≤ n → Scalars l → Stuck t → decompF n (encs l ++ t) = (l, t) := by
  intro l
  induction l with
  | nil =>
    intro t n _ _ ht
    cases n with
    | zero => rfl
    | succ n =>
      rw [encs_nil, List.nil_append]
      unfold decompF
      rw [show step t = none from ht]
  | cons r l ih =>
    intro t n hn hl ht
    have hk := enc_len r
    rw [encs_cons, List.append_assoc] at hn ⊢
    rw [List.length_append] at hn
    cases n with
    | zero => omega
    | succ n =>
      unfold decompF
      rw [step_enc (hl r (by simp))]
      simp only [List.drop_left]
      rw [ih t n (by omega) (fun x hx => hl x (by simp [hx])) ht]
theorem decomp_ok (s : List UInt8) : s = encs (decomp s).1 ++ (decomp s).2 ∧ Scalars (decomp s).1 ∧ Stuck (decomp s).2 := decompF_ok s.length s (Nat.le_refl _)
theorem decomp_of {l : List Int} {t : List UInt8} (hl : Scalars l) (ht : Stuck t) : decomp (encs l ++ t) = (l, t) := decompF_of l t _ (Nat.le_refl _) hl ht
theorem decomp_eq {s : List UInt8} {l : List Int} {t : List UInt8} (hs : s = encs l ++ t) (hl : Scalars l) (ht : Stuck t) : decomp s = (l, t) := by rw [hs]; exact decomp_of hl ht
theorem stuck_nil : Stuck [] := rfl
theorem decomp_encs {l : List Int} (hl : Scalars l) : decomp (encs l) = (l, []) := by
  have := decomp_of hl stuck_nil
  rwa [List.append_nil] at this
/-- Where none begins; below 0: nowhere. -/
def badAt (s : List UInt8) : Int := if (decomp s).2 = [] then -1 else ((encs (decomp s).1).length : Int)
theorem Scalars.snoc {l : List Int} {r : Int} (h : Scalars l) (hr : scalar r = true) : Scalars (l ++ [r]) := by
  intro x hx
  rcases List.mem_append.1 hx with hx | hx
  · exact h x hx
  · simp at hx; subst hx; exact hr
end Go.Proofs.YtglfkihckkjniaaGreatDoor.Vx
