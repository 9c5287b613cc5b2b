/-
  Contracts of the slab's Left, Pages, Used.
-/
import Derived.Test.YtpbbokpmlemboaaSlabB
namespace Go.Proofs.Ytpbbokpmlemboaa.Sl
open Go.RowKit

def pageZ : Array Value := #[.int .i64 0] ++ Array.replicate 64 (.bool false) ++ #[.int .i64 0]
theorem page_info : (Try.prog.info? 90).map (fun i => (i.zero.map Value.cells, i.size)) = some (some pageZ, 66) := by kernel_rfl
theorem page_size : (Try.prog.info? 90).map (·.size) = some 66 := by kernel_rfl
theorem pageZ_size : pageZ.size = 66 := by kernel_rfl

theorem SlabRaw.cells {w : World} {p b : Nat} {S : List Pg} (h : SlabRaw w p b S) {i : Nat} (hi : i < S.length) :
    ∃ cs cur : Array Value, w.heap[b]? = some (.cells cur 90 (0, 0)) ∧ cs.size = 66 ∧ (∀ j, j < 66 → cur[i * 66 + j]? = cs[j]?) ∧ cs[0]? = some (.int .i64 S[i].cls) ∧ cs[65]? = some (.int .i64 S[i].us) ∧ ∀ v, v ∈ cs → v.oneCell' = true := by
  obtain ⟨cur, h1, h2, h3⟩ := h.row
  have h4 := h3 i hi
  have hle : i * 66 + 66 ≤ cur.size := by rw [h2]; have := Nat.mul_le_mul_right 66 (Nat.succ_le_of_lt hi); omega
  have hj : ∀ j, j < 66 → cur[i * 66 + j]? = (cur.extract (i * 66) (i * 66 + 66))[j]? := fun j hj => by
    rw [Array.getElem?_extract, if_pos (by omega)]
  refine ⟨cur.extract (i * 66) (i * 66 + 66), cur, h1, by simp; omega, hj, ?_, ?_, ?_⟩
  · rw [← hj 0 (by omega)]; exact h4.cls
  · rw [← hj 65 (by omega)]; exact h4.us
  · intro v hv
    obtain ⟨j, hjl, rfl⟩ := Array.mem_iff_getElem.1 hv
    have hj66 : j < 66 := by simp at hjl; omega
    have e := hj j hj66
    rw [Array.getElem?_eq_getElem hjl] at e
    by_cases h0 : j = 0
    · subst h0; rw [show i * 66 + 0 = i * 66 from rfl, h4.cls] at e; injection e with e; rw [← e]; rfl
    · by_cases h65 : j = 65
      · subst h65; rw [h4.us] at e; injection e with e; rw [← e]; rfl
      · have := h4.tk (j - 1) (by omega)
        rw [show i * 66 + 1 + (j - 1) = i * 66 + j by omega, e] at this
        injection this with this
        rw [this]; rfl

theorem count_succ {f : Pg → Bool} {S : List Pg} {k : Nat} (hk : k < S.length) : (S.take (k + 1)).countP f = (S.take k).countP f + (if f S[k] then 1 else 0) := by
  rw [List.take_succ_eq_append_getElem hk, List.countP_append]
  simp [List.countP_cons]
theorem count_bd {f : Pg → Bool} {S : List Pg} {k : Nat} (hl : S.length ≤ 1024) : (S.take k).countP f ≤ 1024 :=
  Nat.le_trans List.countP_le_length (Nat.le_trans (List.length_take_le' _ _) hl)

def sumBy (f : Pg → Int) (S : List Pg) : Int := (S.map f).sum
theorem sumBy_succ {f : Pg → Int} {S : List Pg} {k : Nat} (hk : k < S.length) : sumBy f (S.take (k + 1)) = sumBy f (S.take k) + f S[k] := by
  unfold sumBy
  rw [List.take_succ_eq_append_getElem hk, List.map_append, List.sum_append]
  simp
theorem sumBy_bd {f : Pg → Int} (h : ∀ q : Pg, q.ok → 0 ≤ f q ∧ f q ≤ 64) : ∀ (S : List Pg), (∀ q, q ∈ S → q.ok) → 0 ≤ sumBy f S ∧ sumBy f S ≤ 64 * S.length
  | [], _ => by simp [sumBy]
  | q :: S, hq => by
    have := sumBy_bd h S fun r hr => hq r (List.mem_cons_of_mem _ hr)
    have h1 := h q (hq q List.mem_cons_self)
    simp only [sumBy, List.map_cons, List.sum_cons, List.length_cons] at this ⊢
    omega
theorem Pg.ok.us {q : Pg} (h : q.ok) : 0 ≤ q.us ∧ q.us ≤ 64 := by
  rcases h with h | ⟨h0, h6, h3, _⟩
  · omega
  · have := cnt_le q.tk (chunksOf q.cls).toNat
    have := chunksOf_pos q.cls h0 h6
    omega
def usedF (c : Int) (q : Pg) : Int := if (q.cls == c) = true then q.us else 0
theorem usedF_bd (c : Int) (q : Pg) (h : q.ok) : 0 ≤ usedF c q ∧ usedF c q ≤ 64 := by
  unfold usedF
  have := h.us
  split <;> omega
theorem used_bd {c : Int} {S : List Pg} {k : Nat} (h : ∀ q, q ∈ S → q.ok) (hl : S.length ≤ 1024) : 0 ≤ sumBy (usedF c) (S.take k) ∧ sumBy (usedF c) (S.take k) ≤ 65536 := by
  have := sumBy_bd (usedF_bd c) (S.take k) fun q hq => h q (List.mem_of_mem_take hq)
  have := List.length_take_le' k S
  omega
def pagesF (c : Int) (q : Pg) : Bool := q.cls == c && c != -1

end Go.Proofs.Ytpbbokpmlemboaa.Sl
