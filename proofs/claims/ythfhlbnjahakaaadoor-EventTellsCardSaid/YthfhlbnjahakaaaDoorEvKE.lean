/-
  event: slices.Index, Contains, IndexFunc, ContainsFunc over texts; the closure of Good; verbs.
-/
import Derived.Test.YthfhlbnjahakaaaDoorEvKB
namespace Go.Proofs.YthfhlbnjahakaaaDoor
open Go.RowKit

def memB (x : ByteArray) (l : List ByteArray) : Bool := l.any fun k => x.toList == k.toList
theorem txt_ne {a b : ByteArray} (h : ¬ a = b) : (a.toList == b.toList) = false := beq_eq_false_iff_ne.2 fun e => h (str_inj e)
set_option maxHeartbeats 4000000 in
set_option maxRecDepth 100000 in
theorem index_eq {w : World} {v : Value} {l : List ByteArray} (x : ByteArray) (h : RdS w v l) (hn : l.length ≤ 1000000000) :
    Calls Tryd.prog 31 #[v, .string x] w fun e w' => ∃ r : Int, e = .returned (.int .i64 r) ∧ Hid (decide (0 ≤ r) = memB x l) ∧ w' = w := by
  obtain ⟨A, cap, rfl, hc0, h⟩ := h
  have H := Lib.hid h
  have HN := Lib.hid hn
  clear h hc0 hn
  go_enter Tryd.func31, Tryd.ntmps31
  go_wp2_with fail
  go_loop [5, 8] (fun _ i => ∃ j : Nat, j ≤ l.length ∧ i = .int .i64 j ∧ Hid (∀ q, q < j → l[q]? ≠ some x)) (fun _ i => l.length - (intOf i).toNat)
  case atStart => exact ⟨0, Nat.zero_le _, rfl, Lib.hid fun q hq => absurd hq (by omega)⟩
  case round =>
    obtain ⟨j, hj, rfl, hno⟩ := hrel
    by_cases hlt : j < l.length
    · obtain ⟨k, hk⟩ : ∃ k, l[j]? = some k := ⟨_, List.getElem?_eq_getElem hlt⟩
      obtain ⟨g, o, hA, hc⟩ := H.out (by omega)
      subst hA
      have c0 := hc j k hk
      have hlt1 : (j : Int) < (l.length : Int) := by omega
      have hn := HN.out
      have HK := Lib.hid hk
      have HLT := Lib.hid hlt
      clear hc hk
      by_cases e : x = k
      · subst e
        have hm : Hid (decide (0 ≤ (j : Int)) = memB x l) := Lib.hid (by
          have : memB x l = true := List.any_eq_true.2 ⟨x, List.mem_of_getElem? HK.out, beq_self_eq_true _⟩
          rw [this, decide_eq_true (by omega)])
        clear hno H
        go_wp2_with fail
        go_ret
        exact ⟨_, rfl, hm, rfl⟩
      · have e' := txt_ne e
        have E := Lib.hid e
        clear e
        go_wp2_with fail
        go_round
        case rel => exact ⟨j + 1, by omega, by go_num, Lib.hid fun q hq => by
          by_cases hqj : q = j
          · subst hqj; rw [HK.out]; intro hh; cases hh; exact E.out rfl
          · exact hno.out q (by omega)⟩
        case measure => simp [intOf]; omega
    · have hj2 : j = l.length := by omega
      subst hj2
      have hm : Hid (decide (0 ≤ (-1 : Int)) = memB x l) := Lib.hid (by
        have : memB x l = false := by
          cases hm : memB x l with
          | false => rfl
          | true =>
            obtain ⟨y, hy, hxy⟩ := List.any_eq_true.1 hm
            obtain ⟨q, hq, e⟩ := List.getElem_of_mem hy
            have hxy : x = y := str_inj (beq_iff_eq.1 hxy)
            exact absurd (by rw [List.getElem?_eq_getElem hq, e, hxy]) (hno.out q hq)
        rw [this]; rfl)
      clear hno H
      go_wp2_with fail
      go_ret
      exact ⟨_, rfl, hm, rfl⟩

set_option maxHeartbeats 4000000 in
theorem contains_eq {w : World} {v : Value} {l : List ByteArray} (x : ByteArray) (h : RdS w v l) (hn : l.length ≤ 1000000000) :
    Calls Tryd.prog 21 #[v, .string x] w fun e w' => e = .returned (.bool (memB x l)) ∧ w' = w := by
  have cI := index_eq x h hn
  obtain ⟨A, cap, rfl, _⟩ := h
  go_enter Tryd.func21, Tryd.ntmps21
  go_wp2_with fail
  refine cI.mono ?_
  rintro e w' ⟨r, rfl, hr, rfl⟩
  clear cI
  go_wp2_with fail
  go_ret
  exact ⟨congrArg (fun b => Ending.returned (.bool b)) hr.out, rfl⟩

set_option maxHeartbeats 4000000 in
theorem wrong_eq {w : World} (s : ByteArray) (hs : s.size ≤ 9223372036854775807) (hU : U8 w) :
    Calls Tryd.prog 23 #[.string s] w fun e w' => e = .returned (.bool (!keyB s)) ∧ Hid (Fr Nob w w') := by
  have c := wkey_eq s hs hU
  go_enter Tryd.func23, Tryd.ntmps23
  go_wp2_with fail
  refine c.mono ?_
  rintro e w' ⟨rfl, f⟩
  go_wp2_with fail
  go_ret
  exact ⟨rfl, f⟩

def badKey (l : List ByteArray) : Bool := l.any fun k => !keyB k
set_option maxHeartbeats 4000000 in
set_option maxRecDepth 100000 in
theorem indexF_eq {w : World} {v : Value} {l : List ByteArray} (h : RdS w v l) (hn : l.length ≤ 1000000000) (hs : ∀ k ∈ l, k.size ≤ 9223372036854775807) (hU : U8 w) :
    Calls Tryd.prog 33 #[v, .func (.func 23) #[] #[]] w fun e w' => ∃ r : Int, e = .returned (.int .i64 r) ∧ Hid (decide (0 ≤ r) = badKey l) ∧ Hid (Fr Nob w w') := by
  have HR := Lib.hid h
  have HU := Lib.hid hU
  have HS := Lib.hid hs
  obtain ⟨A, cap, rfl, hc0, h⟩ := h
  have HN := Lib.hid hn
  clear h hc0 hn hU hs
  go_enter Tryd.func33, Tryd.ntmps33
  go_wp2_with fail
  go_loopw [5, 8] (fun _ i wx => ∃ j : Nat, j ≤ l.length ∧ i = .int .i64 j ∧ Hid (badKey (l.take j) = false) ∧ Hid (Fr Nob w wx)) (fun _ i _ => l.length - (intOf i).toNat)
  case atStart => exact ⟨0, Nat.zero_le _, rfl, Lib.hid rfl, Lib.hid (Fr.refl _ _)⟩
  case round =>
    obtain ⟨j, hj, rfl, hno, hfr⟩ := hrel
    by_cases hlt : j < l.length
    · obtain ⟨k, hk⟩ : ∃ k, l[j]? = some k := ⟨_, List.getElem?_eq_getElem hlt⟩
      obtain ⟨A', cap', hv, hc1, hc2⟩ := HR.out.nob hfr.out
      cases hv
      obtain ⟨g, o, hA, hc⟩ := hc2 (by omega)
      subst hA
      have c0 := hc j k hk
      have hlt1 : (j : Int) < (l.length : Int) := by omega
      have hn := HN.out
      have HK := Lib.hid hk
      have HLT := Lib.hid hlt
      have cW := wrong_eq (w := wr) k (HS.out k (List.mem_of_getElem? hk)) (HU.out.fr hfr.out)
      have htk : badKey (l.take (j + 1)) = !keyB k := by
        have := hno.out
        unfold badKey at this ⊢
        rw [List.take_add_one, hk, List.any_append, this]
        simp
      have HT := Lib.hid htk
      clear hc hk htk hc2
      obtain ⟨y, hy⟩ : ∃ y, keyB k = y := ⟨_, rfl⟩
      rw [hy] at cW
      cases y
      · have hm : Hid (decide (0 ≤ (j : Int)) = badKey l) := Lib.hid (by
          have : badKey l = true := List.any_eq_true.2 ⟨k, List.mem_of_getElem? HK.out, by rw [hy]; rfl⟩
          rw [this, decide_eq_true (by omega)])
        clear hno hy
        go_wp2_with (go_at_call 23; refine cW.mono ?_; rintro e W' ⟨rfl, hbc⟩)
        go_ret
        exact ⟨_, rfl, hm, Lib.hid (hfr.out.trans' hbc.out)⟩
      · have HY := Lib.hid hy
        clear hy
        go_wp2_with (go_at_call 23; refine cW.mono ?_; rintro e W' ⟨rfl, hbc⟩)
        go_round
        case rel => exact ⟨j + 1, by omega, by go_num, Lib.hid (by rw [HT.out, HY.out]; rfl), Lib.hid (hfr.out.trans' hbc.out)⟩
        case measure => simp [intOf]; omega
    · have hj2 : j = l.length := by omega
      subst hj2
      have hm : Hid (decide (0 ≤ (-1 : Int)) = badKey l) := Lib.hid (by
        have := hno.out
        rw [List.take_length] at this
        rw [this]; rfl)
      clear hno
      go_wp2_with fail
      go_ret
      exact ⟨_, rfl, hm, hfr⟩

set_option maxHeartbeats 4000000 in
theorem containsF_eq {w : World} {v : Value} {l : List ByteArray} (h : RdS w v l) (hn : l.length ≤ 1000000000) (hs : ∀ k ∈ l, k.size ≤ 9223372036854775807) (hU : U8 w) :
    Calls Tryd.prog 25 #[v, .func (.func 23) #[] #[]] w fun e w' => e = .returned (.bool (badKey l)) ∧ Hid (Fr Nob w w') := by
  have cI := indexF_eq h hn hs hU
  obtain ⟨A, cap, rfl, _⟩ := h
  clear hU
  go_enter Tryd.func25, Tryd.ntmps25
  go_wp2_with fail
  refine cI.mono ?_
  rintro e w' ⟨r, rfl, hr, hf⟩
  clear cI
  go_wp2_with fail
  go_ret
  exact ⟨congrArg (fun b => Ending.returned (.bool b)) hr.out, hf⟩
end Go.Proofs.YthfhlbnjahakaaaDoor
