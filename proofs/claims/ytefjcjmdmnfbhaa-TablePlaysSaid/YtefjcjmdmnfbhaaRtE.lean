/-
  The reference's table: contracts of old and drop.
-/
import Derived.Test.YtefjcjmdmnfbhaaRtD
namespace Go.Proofs.Ytefjcjmdmnfbhaa
open Go.RowKit

def oldR (n next : Nat) (k : ByteArray) : Int := if n ≤ next then -1 else if hashK k % n < next then -1 else ((hashK k % n : Nat) : Int)
section
variable {w w' : World} {W t gn go next : Nat} {nw od : List (List ByteArray)} {vo kv vv : Value} {m : List (ByteArray × Int)}
set_option maxHeartbeats 8000000 in
set_option maxRecDepth 100000 in
theorem rold_eq (s : RIn w W t gn nw vo od next kv vv m) (h : next ≤ od.length) (ho : od.length ≤ 65536) (k : ByteArray) (hs : k.size < 9223372036854775808) :
    Calls Try.prog 36 #[.pointer (some ⟨t, 0, none⟩), .string k] w fun e w' => e = .returned (.int .i64 (oldR od.length next k)) ∧ ∃ q, w' = w.drewN q := by
  have LF := Lib.hid (rleft_eq s h ho)
  by_cases h0 : od.length ≤ next
  · have e : od.length - next = 0 := by omega
    rw [e] at LF
    have er : oldR od.length next k = -1 := if_pos h0
    rw [er]
    clear s e er h0 h
    go_enter Try.func36, Try.ntmps36
    go_wp2_with fail
    refine LF.out.mono ?_
    rintro e w1 ⟨rfl, q, rfl⟩
    go_wp2_with fail
    go_ret
    exact ⟨rfl, q, rfl⟩
  · obtain ⟨n, hn⟩ : ∃ n, od.length - next = n := ⟨_, rfl⟩
    rw [hn] at LF
    have hn0 : ¬ (n : Int) = 0 := by omega
    have HH := Lib.hid fun w => rhash_eq (w := w) k hs
    obtain ⟨A, rfl⟩ := s.ods.sl
    have d1 : w.cell? ⟨t, 1, none⟩ = some (.slice A od.length od.length) := cell_of_row w t 1 _ _ (0, 0) s.hd
    have d2 : w.cell? ⟨t, 2, none⟩ = some (.int .i64 next) := cell_of_row w t 2 _ _ (0, 0) s.hd
    obtain ⟨b, hbe⟩ : ∃ b, hashK k % od.length = b := ⟨_, rfl⟩
    have hcast : ((hashK k : Int) % (od.length : Int)) = ((b : Nat) : Int) := by rw [← hbe]; rfl
    have hlt : b < od.length := by rw [← hbe]; exact Nat.mod_lt _ (by omega)
    have hh := hashK_lt k
    have hz : ¬ (od.length : Int) = 0 := by omega
    have HC := Lib.hid hcast
    have hO := Lib.hid (show oldR od.length next k = if b < next then -1 else (b : Int) by unfold oldR; rw [if_neg h0, hbe])
    rw [hO.out]
    generalize hashK k = hq at *
    clear s hcast hbe hO h0 h
    by_cases hb : b < next
    · rw [if_pos hb]
      have hb1 : (b : Int) < (next : Int) := by omega
      go_enter Try.func36, Try.ntmps36
      go_wp2_with fail
      refine LF.out.mono ?_
      rintro e w1 ⟨rfl, q, rfl⟩
      go_wp2_with fail
      go_quiet ((go_at_call 42; first | exact quietL (HH.out _) | exact quietL' (HH.out _)))
      have hw : wrap64 ((hq : Int) % (od.length : Int)) = (b : Int) := by rw [HC.out]; unfold wrap64; omega
      rw [hw]
      go_wp2_with fail
      go_ret
      exact ⟨rfl, _, rfl⟩
    · rw [if_neg hb]
      have hb1 : ¬ (b : Int) < (next : Int) := by omega
      go_enter Try.func36, Try.ntmps36
      go_wp2_with fail
      refine LF.out.mono ?_
      rintro e w1 ⟨rfl, q, rfl⟩
      go_wp2_with fail
      go_quiet ((go_at_call 42; first | exact quietL (HH.out _) | exact quietL' (HH.out _)))
      have hw : wrap64 ((hq : Int) % (od.length : Int)) = (b : Int) := by rw [HC.out]; unfold wrap64; omega
      rw [hw]
      go_wp2_with fail
      go_ret
      exact ⟨rfl, _, rfl⟩

theorem drop_snoc {l : List ByteArray} {j : Nat} {x k : ByteArray} (h : l[j]? = some x) : dropK k (l.take (j + 1)) = dropK k (l.take j) ++ (if x = k then [] else [x]) := by
  rw [List.take_add_one, h]
  unfold dropK
  rw [List.filter_append]
  congr 1
  by_cases e : x = k <;> simp [e]
theorem strsV_app (a b : List ByteArray) : strsV (a ++ b) = strsV a ++ strsV b := by unfold strsV; rw [List.map_append]
theorem dropK_le (k : ByteArray) (l : List ByteArray) : (dropK k l).length ≤ l.length := List.length_filter_le _ _

set_option maxHeartbeats 8000000 in
set_option maxRecDepth 100000 in
theorem rdrop_eq {u : Value} {l : List ByteArray} (h : RdS w u l) (k : ByteArray) (hn : l.length ≤ 1000001) :
    Calls Try.prog 38 #[u, .string k] w fun e w' => ∃ v, e = .returned v ∧ Hid (w'.ownsRow w.heap.size 9 1 v (dropK k l).length (strsV (dropK k l))) ∧ Hid (Fr Nob w w') := by
  obtain ⟨A, cap, rfl, hcell⟩ := h
  have HC := Lib.hid hcell
  clear hcell
  go_enter Try.func38, Try.ntmps38
  go_wp2_with fail
  go_loopw [5, 6] (fun v i wr => ∃ j : Nat, j ≤ l.length ∧ i = .int .i64 j ∧ Hid (wr.ownsRow w.heap.size 9 1 v (dropK k (l.take j)).length (strsV (dropK k (l.take j)))) ∧ Hid (Fr Nob w wr)) (fun _ i _ => l.length - (intOf i).toNat)
  case atStart => exact ⟨0, Nat.zero_le _, rfl, Lib.hid (World.ownsRow_nil _ _ _ _), Lib.hid (Fr.refl _ _)⟩
  case round =>
    obtain ⟨j, hj, rfl, oj, fj⟩ := hrel
    by_cases hlt : j < l.length
    · obtain ⟨x, hx⟩ : ∃ x, l[j]? = some x := ⟨_, List.getElem?_eq_getElem hlt⟩
      obtain ⟨g, o, rfl, hc⟩ := HC.out (by omega)
      have cx := fj.out.cell (hc j x hx) fun h => h
      have hlt1 : (j : Int) < (l.length : Int) := by omega
      have hj0 : (0 : Int) ≤ (j : Int) := by omega
      have hsn := drop_snoc (k := k) hx
      have HLT := Lib.hid hlt
      have hle := dropK_le k (l.take j)
      rw [List.length_take] at hle
      have hj9 : j < 1000001 := by omega
      clear hc hx hlt
      by_cases e : x = k
      · subst e
        rw [if_pos rfl, List.append_nil] at hsn
        rw [← hsn] at oj
        clear hsn hle
        go_wp2_with fail
        go_roundw
        case rel => exact ⟨j + 1, by have := HLT.out; omega, by go_num, oj, fj⟩
        case measure => have := HLT.out; simp [intOf]; omega
      · have e' := str_ne e
        rw [if_neg e] at hsn
        have fb : Fr Nob wr (wr.alloc (.cells #[.string x] 9)) := (Fr.refl Nob wr).alloc _
        have h24 := heap_alloc_new wr (.cells #[.string x] 9)
        have O2 := Lib.hid (fb.ownsRow oj.out fun _ _ h => h)
        have F2 := Lib.hid (fj.out.trans' fb)
        have NEWS : Hid (∀ (i : Nat) (v : Value), [Value.string x][i]? = some v → (wr.alloc (.cells #[.string x] 9)).cell? ((⟨wr.heap.size, 0, none⟩ : Addr).add i) = some v) := Lib.hid fun i v h => by
          rw [Addr.add_lit, Nat.zero_add, cell_of_row _ wr.heap.size i _ _ (0, 0) h24, ← Array.getElem?_toList]
          exact h
        have ONE : Hid (∀ v ∈ [Value.string x], v.oneCell' = true) := Lib.hid fun v hv => by
          simp only [List.mem_singleton] at hv
          subst hv
          rfl
        have hbase : w.heap.size ≤ (wr.alloc (.cells #[.string x] 9)).heap.size := Nat.le_trans fj.out.size fb.size
        have HSN := Lib.hid hsn
        obtain ⟨c, hc⟩ : ∃ c, (dropK k (l.take j)).length = c := ⟨_, rfl⟩
        rw [hc] at O2 hle
        have HCC := Lib.hid hc
        clear fb h24 oj fj e hsn hc
        go_wp2_with (with_reducible refine wpList_app (o := ⟨some 25, _, _, _, _, _⟩) rfl (.tmp 19) (.tmp 24) 29 rfl 9 #[.string ⟨#[]⟩] 1 16 Try.underlying29 str_info rfl (by omega) w.heap.size u5 c (strsV (dropK k (l.take j))) rfl O2.out ⟨wr.heap.size, 0, none⟩ 1 1 [.string x] rfl rfl NEWS.out ONE.out (by omega) (by omega) hbase ?_)
        intro v' w6 o6 f6 hor
        have O6 : Hid (w6.ownsRow w.heap.size 9 1 v' (dropK k (l.take (j + 1))).length (strsV (dropK k (l.take (j + 1))))) := Lib.hid (by
          rw [HSN.out, strsV_app, List.length_append, HCC.out]
          exact o6.out)
        have F6 : Hid (Fr Nob w w6) := Lib.hid (F2.out.trans f6.out fun i hi h => by
          have h1 := (O2.out.lt i h).1
          omega)
        clear o6 f6 hor NEWS ONE O2 F2 hbase HSN HCC hle
        go_wp2_with fail
        go_roundw
        case rel => exact ⟨j + 1, by have := HLT.out; omega, by go_num, O6, F6⟩
        case measure => have := HLT.out; simp [intOf]; omega
    · obtain rfl : j = l.length := by omega
      have o6 := oj.out
      rw [List.take_length] at o6
      have O6 := Lib.hid o6
      clear o6 oj
      go_wp2_with fail
      go_ret
      exact ⟨_, rfl, O6, fj⟩
end
end Go.Proofs.Ytefjcjmdmnfbhaa
