/-
  super: blocks in a row, the two last of which stand on the device (plain).
-/
import Derived.Test.YtpdljgjofebgpaaSupI
import Derived.Test.YtpdljgjofebgpaaSupH
import Derived.Test.YtpdljgjofebgpaaAppZ
import Derived.Test.YtpdljgjofebgpaaReadS
namespace Go.Proofs.Ytpdljgjofebgpaa
open Go.RowKit Go.ChangeShapes Go.WideShapes Go.Deep

theorem sub_take {l : List UInt8} {a n : Nat} (h : a + n ≤ 64) : sub (l.take 64) a n = sub l a n := by
  unfold sub
  rw [List.drop_take, List.take_take, Nat.min_eq_left (by omega)]
theorem parse_take (p : List UInt8) : parse (p.take 64) = parse p := by
  unfold parse
  rw [sub_take (by omega), sub_take (by omega), sub_take (by omega), sub_take (by omega), sub_take (by omega), sub_take (by omega)]
  have : (p.take 64).getD 44 0 = p.getD 44 0 := by
    rw [List.getD_eq_getElem?_getD, List.getD_eq_getElem?_getD, List.getElem?_take, if_pos (by omega)]
  rw [this]
theorem dec_take {p q : List UInt8} (hp : 64 ≤ p.length) (hq : 64 ≤ q.length) (h : p.take 64 = q.take 64) : dec p = dec q := by
  unfold dec
  rw [← parse_take p, ← parse_take q, h]
  simp only [hp, hq, true_and]
theorem pgDec_bad {pl : List UInt8} (hl : pl.length ≤ 384) (h : dec (pl ++ List.replicate 384 0) = none) : pgDec (.whole (pad pl)) = none := by
  show dec (pad pl) = none
  rw [← h]
  refine dec_take (by rw [pad_length hl]; omega) (by rw [List.length_append, List.length_replicate]; omega) ?_
  unfold pad
  rw [List.take_append, List.take_append, List.take_replicate, List.take_replicate]
  congr 2
  omega

/-- What SuperTorn knows behind so many Stores. -/
structure TornS (D : Dv) (L : List Blk) : Prop where
  calm : Calm D
  seq : seqOf D = L.length
  each : ∀ i, i < L.length → L.length ≤ i + 2 → (L.getD i Blk.zero).ok ∧ (L.getD i Blk.zero).seq = i + 1 ∧ (L.getD i Blk.zero).norm = L.getD i Blk.zero ∧ D.now ((i + 1) % 2) = .whole (pad (enc (L.getD i Blk.zero)))

theorem TornS.new : TornS (Dv.new 2) [] := ⟨⟨rfl, rfl, by decide⟩, by unfold seqOf; rw [new_load]; rfl, fun i hi => by simp at hi⟩
theorem norm_ok {b : Blk} (h : b.ok) : b.norm.ok := h
theorem TornS.step {D : Dv} {L : List Blk} (h : TornS D L) {b : Blk} (hb : b.ok) (hs : L.length < 1000) : TornS (stF D b) (L ++ [(bumped D b).norm]) := by
  have hs1 : seqOf D + 1 < 18446744073709551616 := by rw [h.seq]; omega
  have hbo : (bumped D b).ok := ⟨hs1, hb.2⟩
  refine ⟨h.calm.stF b, by rw [h.calm.seq_stF hb hs1, h.seq]; simp, fun i hi h2 => ?_⟩
  simp only [List.length_append, List.length_singleton] at hi h2
  by_cases e : i = L.length
  · subst e
    have hg : (L ++ [(bumped D b).norm]).getD L.length Blk.zero = (bumped D b).norm := by simp [List.getD_eq_getElem?_getD]
    rw [hg]
    refine ⟨norm_ok hbo, by show seqOf D + 1 = _; rw [h.seq], norm_norm _, ?_⟩
    rw [h.calm.now_stF, h.seq, if_pos rfl, enc_norm]
  · have hg : (L ++ [(bumped D b).norm]).getD i Blk.zero = L.getD i Blk.zero := by
      rw [List.getD_eq_getElem?_getD, List.getD_eq_getElem?_getD, List.getElem?_append_left (by omega)]
    rw [hg]
    obtain ⟨k1, k2, k3, k4⟩ := h.each i (by omega) (by omega)
    refine ⟨k1, k2, k3, ?_⟩
    rw [h.calm.now_stF, h.seq, if_neg (by omega)]
    exact k4

/-- Which block is loaded where a page is spoilt. -/
def wantI (n page : Nat) : Nat := if n % 2 = page then n - 2 else n - 1
theorem TornS.fin {D : Dv} {L : List Blk} (h : TornS D L) (h2 : 2 ≤ L.length) {page : Nat} (hp : page < 2) {pl : List UInt8} (hl : pl.length ≤ 384) (hbad : dec (pl ++ List.replicate 384 0) = none) :
    loadD (D.change page (.whole (pad pl))) = some (L.getD (wantI L.length page) Blk.zero) := by
  have hb := pgDec_bad hl hbad
  obtain ⟨a1, a2, a3, a4⟩ := h.each (L.length - 1) (by omega) (by omega)
  obtain ⟨b1, b2, b3, b4⟩ := h.each (L.length - 2) (by omega) (by omega)
  have ea := pgDec_enc a1
  have eb := pgDec_enc b1
  rw [a3, ← a4] at ea
  rw [b3, ← b4] at eb
  rw [show L.length - 1 + 1 = L.length by omega] at ea
  rw [show L.length - 2 + 1 = L.length - 1 by omega] at eb
  rw [load_two, h.calm.now_change _ hp, h.calm.now_change _ hp]
  unfold wantI
  rcases (by omega : page = 0 ∨ page = 1) with rfl | rfl
  · rw [if_pos rfl, if_neg (by omega), hb, newer_none]
    rcases (by omega : L.length % 2 = 0 ∨ L.length % 2 = 1) with e | e
    · rw [if_pos e]
      rw [show (L.length - 1) % 2 = 1 by omega] at eb
      exact eb
    · rw [if_neg (by omega)]
      rw [e] at ea
      exact ea
  · rw [if_neg (by omega), if_pos rfl, hb, newer_nil]
    rcases (by omega : L.length % 2 = 1 ∨ L.length % 2 = 0) with e | e
    · rw [if_pos e]
      rw [show (L.length - 1) % 2 = 0 by omega] at eb
      exact eb
    · rw [if_neg (by omega)]
      rw [e] at ea
      exact ea

/-- Blocks in a row. -/
def blksV (L : List Blk) : List Value := L.flatMap fun b => (blkV b).toList
theorem blksV_snoc (L : List Blk) (b : Blk) : blksV (L ++ [b]) = blksV L ++ (blkV b).toList := by unfold blksV; simp
theorem blksV_len : ∀ L : List Blk, (blksV L).length = L.length * 7
  | [] => rfl
  | b :: L => by
    have := blksV_len L
    unfold blksV at this ⊢
    rw [List.flatMap_cons, List.length_append, this]
    show 7 + L.length * 7 = (L.length + 1) * 7
    omega
theorem blksV_at : ∀ (L : List Blk) (i j : Nat), i < L.length → j < 7 → (blksV L)[i * 7 + j]? = (blkV (L.getD i Blk.zero)).toList[j]?
  | b :: L, 0, j, _, hj => by
    unfold blksV
    rw [List.flatMap_cons, Nat.zero_mul, Nat.zero_add, List.getElem?_append_left (show j < 7 from hj)]
    rfl
  | b :: L, i + 1, j, hi, hj => by
    have := blksV_at L i j (by simpa using hi) hj
    unfold blksV at this ⊢
    rw [List.flatMap_cons, List.getElem?_append_right (by show 7 ≤ _; omega), show (i + 1) * 7 + j - (blkV b).toList.length = i * 7 + j by show (i + 1) * 7 + j - 7 = _; omega, this]
    rfl
theorem blk_info : (Try.prog.info? 29).map (fun i => (i.zero.map Value.cells, i.size, i.bytes)) = some (some #[.int .u64 0, .int .u64 0, .int .u64 0, .int .u64 0, .int .u64 0, .bool false, .int .i64 0], 7, 56) := by kernel_rfl

end Go.Proofs.Ytpdljgjofebgpaa
