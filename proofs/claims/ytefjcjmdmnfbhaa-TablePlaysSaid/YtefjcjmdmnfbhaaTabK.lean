/-
  The table: contracts of slices.Clone at entries, slices.Sort at strings, Keys.
-/
import Derived.Test.YtefjcjmdmnfbhaaTabJ
import Derived.Test.YtefjcjmdmnfbhaaShelfS
import Derived.Test.YtefjcjmdmnfbhaaAppN0
import Derived.Sort.OwnSorted
import Derived.Lib.OwnBridge
namespace Go.Proofs.Ytefjcjmdmnfbhaa
open Go.RowKit Go.Shelf Go.Sort

def sortB (l : List ByteArray) : List ByteArray := ((l.map fun k => k.data.toList).mergeSort fun x y => decide (x ≤ y)).map fun s => ⟨⟨s⟩⟩
theorem sortB_V (l : List ByteArray) : strsV (sortB l) = ((l.map fun k => k.data.toList).mergeSort fun x y => decide (x ≤ y)).map encStr := by
  unfold strsV sortB
  rw [List.map_map]
  rfl
theorem bytes_id (l : List ByteArray) : (l.map fun k => k.data.toList).map (fun s => (⟨⟨s⟩⟩ : ByteArray)) = l := by
  rw [List.map_map]
  have : ((fun s => (⟨⟨s⟩⟩ : ByteArray)) ∘ fun k : ByteArray => k.data.toList) = id := by
    funext k
    rfl
  rw [this, List.map_id]
theorem sortB_perm (l : List ByteArray) : (sortB l).Perm l := by
  have h := (List.mergeSort_perm (l.map fun k => k.data.toList) fun x y => decide (x ≤ y)).map fun s => (⟨⟨s⟩⟩ : ByteArray)
  rw [bytes_id] at h
  exact h
theorem sortB_len (l : List ByteArray) : (sortB l).length = l.length := (sortB_perm l).length_eq

theorem sort_own {w : World} {base n : Nat} {v : Value} {l : List ByteArray} (h : w.ownsRow base 9 1 v n (strsV l)) (hn : n ≤ 1000000000) :
    Calls Try.prog 31 #[v] w fun e w' => e = .returned (.tuple #[]) ∧ w'.ownsRow base 9 1 v n (strsV (sortB l)) ∧ Fr (fun k => v.ownBlock = some k) w w' := by
  have hl : l.length = n := by simpa [strsV] using h.1
  rcases h.2 with ⟨rfl, h0⟩ | ⟨g, cap, cur, rfl, hb, hg, hn2, hm, hs, ht⟩
  · subst h0
    have : l = [] := List.eq_nil_of_length_eq_zero hl
    subst this
    refine (AnyM.slices_Sort_string_none sortS none 0 w).mono ?_
    rintro e w' ⟨rfl, rfl⟩
    refine ⟨rfl, ?_, Fr.refl _ _⟩
    have : sortB [] = [] := List.eq_nil_of_length_eq_zero (sortB_len [])
    rw [this]
    exact h
  · have hv : strsV l = (l.map fun k => k.data.toList).map encStr := (Lib.map_encStr l).symm
    have hlm : (l.map fun k => k.data.toList).length = n := by rw [List.length_map, hl]
    have hlt : g < w.heap.size := lt_of_block hg
    rw [Nat.mul_one] at ht
    have hH : Holds encStr w g 0 (l.map fun k => k.data.toList).toArray := holds_of_block hg (by rw [hlm, ht, hv])
    have hc := AnyM.slices_Sort_string sortS g 0 cap (l.map fun k => k.data.toList) w hH hlt (by rw [hlm]; omega)
    rw [hlm] at hc
    refine hc.mono ?_
    rintro e w' ⟨rfl, q, os, rfl⟩
    refine ⟨rfl, ?_, ?_⟩
    · rw [sortB_V]
      have := ownsRow_sorted (n := q) (os := os) (ss := l.map fun k => k.data.toList) (ts := (l.map fun k => k.data.toList).mergeSort fun x y => decide (x ≤ y)) (List.length_mergeSort _) hb hg (by rw [hlm]; exact hn2) hm hs
      rw [hlm] at this
      exact this
    · have := grownBy_sorted (w := w) (g := g) (n := q) (os := os) ((l.map fun k => k.data.toList).mergeSort fun x y => decide (x ≤ y)).toArray
      exact ⟨this.os, this.tape, this.output, this.size, fun k hk hn => this.block k hk fun e => hn (by rw [e]; rfl)⟩

theorem clone_ptrs {w : World} {W g cap n : Nat} {vals : List Value} (h : w.ownsRow W 54 1 (.slice (some ⟨g, 0, none⟩) n cap) n vals) (hn : n ≤ 1000000) (h1 : ∀ u ∈ vals, u.oneCell' = true) :
    Calls Try.prog 30 #[.slice (some ⟨g, 0, none⟩) n cap] w fun e w' => ∃ v, e = .returned v ∧ Hid (w'.ownsRow w.heap.size 54 1 v n vals) ∧ Hid (Fr Nob w w') := by
  have hq : ∀ (w : World) (a : Option Addr) (n c n' c' : Nat), (binOp .eql 51 (.slice a n c) (.slice none n' c')).run Try.prog w = .ok (.bool a.isNone) w := fun w a n c n' c' => Lib.run_eql_slice_nil w _ _ a n c n' c' Try.underlying51
  have hl : vals.length = n * 1 := h.1
  have own := Lib.hid (World.ownsRow_made w #[] 0 (Nat.le_refl _) (Nat.zero_le _) rfl : (w.alloc (.cells #[] 54)).ownsRow w.heap.size 54 1 (.slice (some ⟨w.heap.size, 0, none⟩) 0 0) 0 [])
  have hnews : ∀ j u, vals[j]? = some u → (w.alloc (.cells #[] 54)).cell? ((⟨g, 0, none⟩ : Addr).add j) = some u := fun j u hu => ((Fr.refl Nob w).alloc _).cell (h.cells (g := g) rfl j u hu) fun h => h
  have NEWS := Lib.hid hnews
  have HL := Lib.hid hl
  clear h hnews hl
  go_enter Try.func30, Try.ntmps30
  go_wp2_with (with_reducible refine wpList_app rfl (.tmp 5) (.tmp 6) 51 rfl 54 #[.pointer none] 1 8 Try.underlying51 ptr_info rfl (by omega) w.heap.size (.slice (some ⟨w.heap.size, 0, none⟩) 0 0) 0 [] rfl own.out ⟨g, 0, none⟩ n cap vals rfl HL.out NEWS.out h1 (by omega) (by omega) (by simp) ?_)
  intro v w3 o3 f3 h3
  go_wp2_with fail
  go_ret
  refine ⟨v, rfl, ?_, ?_⟩
  · exact o3
  · exact Lib.hid (((Fr.refl Nob w).alloc (.cells #[] 54)).trans f3.out fun k hk e => by
      simp [Value.ownBlock] at e
      omega)
end Go.Proofs.Ytefjcjmdmnfbhaa
