/-
  Numbers as bytes; super's blocks as bytes: plain.
-/
import Derived.Test.YtpdljgjofebgpaaSum
namespace Go.Proofs.Ytpdljgjofebgpaa

/-- A number's lowest n bytes, the lowest first. -/
def le : Nat → Nat → List UInt8
  | 0, _ => []
  | n + 1, v => UInt8.ofNat (v % 256) :: le n (v / 256)
/-- The number of bytes. -/
def upL : List UInt8 → Nat
  | [] => 0
  | b :: l => b.toNat + 256 * upL l
theorem le_len : ∀ n v, (le n v).length = n
  | 0, _ => rfl
  | n + 1, v => by rw [le, List.length_cons, le_len n]
theorem le_zero : ∀ n, le n 0 = List.replicate n 0
  | 0 => rfl
  | n + 1 => by rw [le, Nat.zero_div, le_zero n]; rfl
theorem le_snoc : ∀ (n v : Nat), le (n + 1) v = le n v ++ [UInt8.ofNat (v / 256 ^ n % 256)]
  | 0, v => by simp [le]
  | n + 1, v => by
    rw [le, le_snoc n (v / 256), le, List.cons_append, Nat.div_div_eq_div_mul, Nat.pow_succ, Nat.mul_comm (256 ^ n) 256]
theorem upL_lt : ∀ l : List UInt8, upL l < 256 ^ l.length
  | [] => by simp [upL]
  | b :: l => by
    have := upL_lt l
    have hb := b.toNat_lt
    rw [upL, List.length_cons, Nat.pow_succ]
    have : b.toNat < 256 := hb
    omega
theorem upL_le : ∀ (n v : Nat), v < 256 ^ n → upL (le n v) = v
  | 0, v, h => by simp at h; simp [le, upL, h]
  | n + 1, v, h => by
    rw [le, upL, upL_le n (v / 256) (by rw [Nat.pow_succ] at h; omega)]
    have : (UInt8.ofNat (v % 256)).toNat = v % 256 := by simp
    rw [this]
    omega
theorem le_upL : ∀ l : List UInt8, le l.length (upL l) = l
  | [] => rfl
  | b :: l => by
    have hb : b.toNat < 256 := b.toNat_lt
    have h1 : (b.toNat + 256 * upL l) % 256 = b.toNat := by omega
    have h2 : (b.toNat + 256 * upL l) / 256 = upL l := by omega
    rw [List.length_cons, upL, le, h1, h2, le_upL l]
    simp
theorem upL_drop {l : List UInt8} {j : Nat} (h : j < l.length) : upL (l.drop j) = (l.getD j 0).toNat + 256 * upL (l.drop (j + 1)) := by
  rw [List.drop_eq_getElem_cons h, upL, List.getD_eq_getElem?_getD, List.getElem?_eq_getElem h]
  rfl

structure Blk where
  seq : Nat
  epoch : Nat
  res : Nat
  hor : Nat
  gen : Nat
  clean : Bool
  image : Int

def Blk.zero : Blk := ⟨0, 0, 0, 0, 0, false, 0⟩
def Blk.img (b : Blk) : Nat := if 0 ≤ b.image ∧ b.image ≤ 2147483647 then b.image.toNat else 0
def Blk.norm (b : Blk) : Blk := { b with image := b.img }
def Blk.ok (b : Blk) : Prop := b.seq < 18446744073709551616 ∧ b.epoch < 18446744073709551616 ∧ b.res < 18446744073709551616 ∧ b.hor < 18446744073709551616 ∧ b.gen < 18446744073709551616

def Blk.nums (b : Blk) : List Nat := [b.seq, b.epoch, b.res, b.hor, b.gen]
/-- The bytes of the first numbers. -/
def numsB (l : List Nat) : List UInt8 := l.flatMap (le 8)
def magicB : List UInt8 := [83, 85, 80, 69]
def cleanB (b : Bool) : UInt8 := if b = true then 1 else 0
def encHead (b : Blk) : List UInt8 := magicB ++ numsB b.nums ++ [cleanB b.clean] ++ [0, 0, 0] ++ le 4 b.img ++ List.replicate 8 0
def enc (b : Blk) : List UInt8 := encHead b ++ le 4 (crcL (encHead b))

theorem img_lt (b : Blk) : b.img < 4294967296 := by unfold Blk.img; split <;> omega
theorem numsB_snoc (l : List Nat) (x : Nat) : numsB (l ++ [x]) = numsB l ++ le 8 x := by unfold numsB; simp
theorem numsB_len : ∀ l : List Nat, (numsB l).length = 8 * l.length
  | [] => rfl
  | x :: l => by
    have := numsB_len l
    unfold numsB at this ⊢
    rw [List.flatMap_cons, List.length_append, this, le_len, List.length_cons]
    omega
theorem encHead_len (b : Blk) : (encHead b).length = 60 := by
  unfold encHead
  simp only [List.length_append, numsB_len, le_len, List.length_replicate]
  rfl
theorem enc_len (b : Blk) : (enc b).length = 64 := by
  unfold enc
  rw [List.length_append, encHead_len, le_len]

def sub (l : List UInt8) (a n : Nat) : List UInt8 := (l.drop a).take n
def parse (p : List UInt8) : Blk := ⟨upL (sub p 4 8), upL (sub p 12 8), upL (sub p 20 8), upL (sub p 28 8), upL (sub p 36 8), decide (p.getD 44 0 = 1), (upL (sub p 48 4) : Nat)⟩
def dec (p : List UInt8) : Option Blk := if 64 ≤ p.length ∧ enc (parse p) = p.take 64 then some (parse p) else none

theorem sub_len {l : List UInt8} {a n : Nat} (h : a + n ≤ l.length) : (sub l a n).length = n := by unfold sub; simp; omega
theorem parse_ok {p : List UInt8} (h : 64 ≤ p.length) : (parse p).ok := by
  have h8 : ∀ a, a + 8 ≤ p.length → upL (sub p a 8) < 18446744073709551616 := fun a ha => by
    have := upL_lt (sub p a 8)
    rw [sub_len ha] at this
    exact this
  exact ⟨h8 4 (by omega), h8 12 (by omega), h8 20 (by omega), h8 28 (by omega), h8 36 (by omega)⟩
theorem parse_image {p : List UInt8} (h : 64 ≤ p.length) : 0 ≤ (parse p).image ∧ (parse p).image < 4294967296 := by
  have := upL_lt (sub p 48 4)
  rw [sub_len (by omega)] at this
  have : upL (sub p 48 4) < 4294967296 := this
  unfold parse
  constructor
  · exact Int.natCast_nonneg _
  · show ((upL (sub p 48 4) : Nat) : Int) < _
    omega

theorem sub_mid (A B C : List UInt8) {a n : Nat} (ha : A.length = a) (hb : B.length = n) : sub (A ++ (B ++ C)) a n = B := by
  subst ha
  subst hb
  unfold sub
  rw [List.drop_left, List.take_left]

theorem getD_mid (A T : List UInt8) (c : UInt8) {a : Nat} (h : A.length = a) : (A ++ ([c] ++ T)).getD a 0 = c := by
  subst h
  rw [List.getD_eq_getElem?_getD, List.getElem?_append_right (Nat.le_refl _)]
  simp

theorem norm_img (b : Blk) : b.norm.img = b.img := by
  have h : b.norm.image = (b.img : Int) := rfl
  unfold Blk.img
  rw [h]
  unfold Blk.img
  split
  · rw [if_pos (by omega)]
    omega
  · rw [if_pos (by omega)]
    rfl
theorem enc_norm (b : Blk) : enc b.norm = enc b := by
  have h : encHead b.norm = encHead b := by
    unfold encHead
    rw [norm_img]
    rfl
  unfold enc
  rw [h]
theorem norm_norm (b : Blk) : b.norm.norm = b.norm := by
  show ({ b.norm with image := b.norm.img } : Blk) = { b with image := b.img }
  rw [norm_img]
  rfl

theorem parse_enc {b : Blk} (h : b.ok) (rest : List UInt8) : parse (enc b ++ rest) = b.norm := by
  obtain ⟨h1, h2, h3, h4, h5⟩ := h
  have e : enc b ++ rest = magicB ++ (le 8 b.seq ++ (le 8 b.epoch ++ (le 8 b.res ++ (le 8 b.hor ++ (le 8 b.gen ++ ([cleanB b.clean] ++ ([0, 0, 0] ++ (le 4 b.img ++ (List.replicate 8 0 ++ (le 4 (crcL (encHead b)) ++ rest)))))))))) := by
    unfold enc
    rw [encHead]
    unfold numsB Blk.nums
    simp only [List.flatMap_cons, List.flatMap_nil, List.append_nil, List.append_assoc]
  have u8 : ∀ v, v < 18446744073709551616 → upL (le 8 v) = v := fun v hv => upL_le 8 v hv
  have hc : cleanB b.clean = 1 ↔ b.clean = true := by
    unfold cleanB
    cases b.clean <;> simp
  generalize le 4 (crcL (encHead b)) ++ rest = T at e
  have l4 : magicB.length = 4 := rfl
  have s1 : sub (enc b ++ rest) 4 8 = le 8 b.seq := by
    rw [e]
    exact sub_mid _ _ _ rfl (le_len _ _)
  have s2 : sub (enc b ++ rest) 12 8 = le 8 b.epoch := by
    rw [e, ← List.append_assoc]
    exact sub_mid _ _ _ (by simp only [List.length_append, le_len, l4]) (le_len _ _)
  have s3 : sub (enc b ++ rest) 20 8 = le 8 b.res := by
    rw [e, ← List.append_assoc, ← List.append_assoc]
    exact sub_mid _ _ _ (by simp only [List.length_append, le_len, l4]) (le_len _ _)
  have s4 : sub (enc b ++ rest) 28 8 = le 8 b.hor := by
    rw [e, ← List.append_assoc, ← List.append_assoc, ← List.append_assoc]
    exact sub_mid _ _ _ (by simp only [List.length_append, le_len, l4]) (le_len _ _)
  have s5 : sub (enc b ++ rest) 36 8 = le 8 b.gen := by
    rw [e, ← List.append_assoc, ← List.append_assoc, ← List.append_assoc, ← List.append_assoc]
    exact sub_mid _ _ _ (by simp only [List.length_append, le_len, l4]) (le_len _ _)
  have s6 : (enc b ++ rest).getD 44 0 = cleanB b.clean := by
    rw [e, ← List.append_assoc, ← List.append_assoc, ← List.append_assoc, ← List.append_assoc, ← List.append_assoc]
    exact getD_mid _ _ _ (by simp only [List.length_append, le_len, l4])
  have s7 : sub (enc b ++ rest) 48 4 = le 4 b.img := by
    rw [e, ← List.append_assoc, ← List.append_assoc, ← List.append_assoc, ← List.append_assoc, ← List.append_assoc, ← List.append_assoc, ← List.append_assoc]
    exact sub_mid _ _ _ (by simp only [List.length_append, le_len, l4]; rfl) (le_len _ _)
  unfold parse
  rw [s1, s2, s3, s4, s5, s6, s7, u8 _ h1, u8 _ h2, u8 _ h3, u8 _ h4, u8 _ h5, upL_le 4 b.img (by have := img_lt b; omega)]
  show _ = ({ b with image := (b.img : Int) } : Blk)
  congr 1
  rw [Bool.eq_iff_iff, decide_eq_true_iff]
  exact hc

theorem dec_enc {b : Blk} (h : b.ok) (rest : List UInt8) : dec (enc b ++ rest) = some b.norm := by
  unfold dec
  rw [parse_enc h, enc_norm, if_pos]
  refine ⟨by rw [List.length_append, enc_len]; omega, ?_⟩
  rw [List.take_append_of_le_length (by rw [enc_len]; omega), List.take_of_length_le (by rw [enc_len]; omega)]

end Go.Proofs.Ytpdljgjofebgpaa
