/-
  flash: New, Write, Erase, Arm.
-/
import Derived.Test.YtpdljgjofebgpaaFlashB
namespace Go.Proofs.Ytpdljgjofebgpaa
open Go.RowKit

def errOff (b : Bool) : Int := if b = true then 4 else 0
theorem errOff_true : errOff true = 4 := rfl
theorem errOff_false : errOff false = 0 := rfl

/-- Pages of the call's own are put to the pages. -/
theorem DTo.news {w w1 w2 : World} {q : Nat} {K P : Nat → Prop} {D : Dv} (f : Fr Nob w w1) {N : Nat → Prop} (hN : ∀ k, N k → w.heap.size ≤ k) (t : DTo w1 q K (fun k => P k ∨ N k) w2 D) : DTo w q K P w2 D :=
  DTo.trans (P1 := fun k => P k ∨ N k) f.nob (fun _ h => .inl h) (fun k h => h.elim .inl fun h => .inr (hN k h)) t

theorem u8_info : (Try.prog.info? 5).map (fun i => (i.zero.map Value.cells, i.size, i.bytes)) = some (some #[.int .u8 0], 1, 1) := by kernel_rfl
theorem u8_size : (Try.prog.info? 5).map (·.size) = some 1 := by kernel_rfl

theorem write_bad {w : World} {q : Nat} {K P : Nat → Prop} {D : Dv} (s : DevAt w q K P D) {x : Int} {v : Value} {bs : List UInt8} (hr : RdB w v bs) (hn : bs.length ≤ 1000000) (h : (x < 0 ∨ (D.pg.length : Int) ≤ x) ∨ 384 < bs.length) :
    Calls Try.prog 33 #[.pointer (some ⟨q, 0, none⟩), .int .i64 x, v] w fun e w' => e = .returned (.int .i64 1) ∧ w = w' := by
  obtain ⟨a, cap, rfl, _⟩ := hr
  by_cases hx : x < 0 ∨ (D.pg.length : Int) ≤ x
  · have hc := Lib.hid (has_no s hx)
    clear h hx s
    go_enter Try.func33, Try.ntmps33
    go_wp2_with fail
    refine hc.out.mono ?_
    rintro e w' ⟨rfl, rfl⟩
    go_wp2_with fail
    go_ret
    exact ⟨rfl, rfl⟩
  · have hc := Lib.hid (has_yes s (x := x) (by omega) (by omega))
    have h2 : 384 < bs.length := by omega
    have h3 : (384 : Int) < (bs.length : Int) := by omega
    clear h hx s
    go_enter Try.func33, Try.ntmps33
    go_wp2_with fail
    refine hc.out.mono ?_
    rintro e w' ⟨rfl, rfl⟩
    go_wp2_with fail
    go_ret
    exact ⟨rfl, rfl⟩

theorem write_eq {w : World} {q : Nat} {K P : Nat → Prop} {D : Dv} (s : DevAt w q K P D) {i : Nat} (hi : i < D.pg.length) {v : Value} {bs : List UInt8} (hr : RdB w v bs) (hn : bs.length ≤ 384) (b : Bool) (hb : D.spend.off = b) :
    Calls Try.prog 33 #[.pointer (some ⟨q, 0, none⟩), .int .i64 i, v] w fun e w' => e = .returned (.int .i64 (errOff b)) ∧ DTo w q K P w' (D.change i (.whole (pad bs))) := by
  have hc := Lib.hid (has_yes s (x := (i : Int)) (by omega) (by omega))
  have S := Lib.hid s
  have HR := Lib.hid hr
  have HB := Lib.hid hb
  clear hb
  obtain ⟨a, cap, rfl, _⟩ := hr
  have h3 : ¬ (384 : Int) < (bs.length : Int) := by omega
  clear s
  go_enter Try.func33, Try.ntmps33
  go_wp2_with fail
  refine hc.out.mono ?_
  rintro e w' ⟨rfl, rfl⟩
  go_wp2_with (with_reducible refine wpList_make_all rfl _ _ 34 rfl 5 #[.int .u8 0] 1 1 Try.underlying34 u8_info .i64 .i64 384 rfl rfl (by omega) (by omega) ?_)
  intro cs hcs
  have hcs2 := hcs.out.trans (made_bytes 384)
  obtain ⟨r, hr⟩ : ∃ r, r = w.heap.size := ⟨_, rfl⟩
  have hg : (w.alloc (.cells cs 5)).heap[r]? = some (.cells (bytesV (List.replicate 384 0)).toArray 5 (0, 0)) := by rw [hr, heap_alloc_new, hcs2]
  rw [← hr]
  obtain ⟨Z, hZ⟩ : ∃ Z, Z = List.replicate 384 (0 : UInt8) := ⟨_, rfl⟩
  rw [← hZ] at hg
  have HZ := Lib.hid hZ
  have hzl : Z.length = 384 := by rw [hZ, List.length_replicate]
  have HZL := Lib.hid hzl
  have HG := Lib.hid hg
  clear hZ hzl
  have R2 := Lib.hid (HR.out.nob ((Fr.refl Nob w).alloc (.cells cs 5)))
  have F2 := Lib.hid ((Fr.refl Nob w).alloc (.cells cs 5))
  have HRR := Lib.hid hr
  clear hcs hcs2 hg hr
  generalize w.alloc (.cells cs 5) = w2 at *
  go_wp2_with (with_reducible refine wpList_copyB (o := ⟨some 20, _, _, _, _, _⟩) rfl (.tmp 18) (.tmp 19) 34 34 rfl 5 Try.underlying34 u8_size r 0 384 384 rfl bs (.slice a bs.length cap) rfl R2.out (by omega) Z 5 HG.out (by rw [HZL.out]; omega) ?_)
  intro w3 hg3 f3
  have hpad : spliced Z 0 bs = pad bs := by
    rw [HZ.out]
    unfold spliced pad
    rw [List.take_zero, List.nil_append, List.drop_replicate, Nat.zero_add]
  rw [hpad] at hg3
  have F3 : Hid (Fr Nob w w3) := Lib.hid (F2.out.trans f3.out fun k hk h => by
    have : k = r := h
    rw [HRR.out] at this
    omega)
  have F4 := Lib.hid (F3.out.alloc (.cells #[.slice (some ⟨r, 0, none⟩) 384 384, .bool false] 115))
  have hlt := lt_of_block hg3.out
  have hle := F3.out.size
  have hN : ∀ k, (k = r ∨ k = w3.heap.size) → w.heap.size ≤ k := by
    have := HRR.out
    rintro k (rfl | rfl) <;> omega
  have s4 : DevAt (w3.alloc (.cells #[.slice (some ⟨r, 0, none⟩) 384 384, .bool false] 115)) q K (fun k => P k ∨ (k = r ∨ k = w3.heap.size)) D := (S.out.nob F4.out).wide (fun k h => .inl h) (by
    rintro k (h | h)
    · exact ⟨Nat.lt_of_lt_of_le (S.out.plt k h) F4.out.size, S.out.apart k h⟩
    · refine ⟨?_, fun hk => ?_⟩
      · simp
        rcases h with rfl | rfl <;> omega
      · have := S.out.lt k hk
        have := hN k h
        omega)
  have hv : PgAt (w3.alloc (.cells #[.slice (some ⟨r, 0, none⟩) 384 384, .bool false] 115)) (fun k => P k ∨ (k = r ∨ k = w3.heap.size)) (.pointer (some ⟨w3.heap.size, 0, none⟩)) (.whole (pad bs)) :=
    ⟨w3.heap.size, r, rfl, .inr (.inr rfl), .inr (.inl rfl), heap_alloc_new w3 _, ((Fr.refl Nob w3).alloc _).heap hg3.out fun h => h, pad_length hn⟩
  have S4 := Lib.hid s4
  have V4 := Lib.hid hv
  have HN := Lib.hid hN
  clear f3 hpad s4 hv hlt hle hN hg3 HG
  go_wp2_with fail
  cases b with
  | true =>
    refine (change_off S4.out (i : Int) _ HB.out i (.whole (pad bs))).mono ?_
    rintro e w5 ⟨rfl, t5⟩
    have T5 := Lib.hid (t5.news F4.out HN.out)
    clear t5
    go_wp2_with fail
    go_ret
    exact ⟨rfl, T5.out⟩
  | false =>
    refine (change_on S4.out hi V4.out HB.out).mono ?_
    rintro e w5 ⟨rfl, t5⟩
    have T5 := Lib.hid (t5.news F4.out HN.out)
    clear t5
    go_wp2_with fail
    go_ret
    exact ⟨rfl, T5.out⟩

theorem erase_bad {w : World} {q : Nat} {K P : Nat → Prop} {D : Dv} (s : DevAt w q K P D) {x : Int} (hx : x < 0 ∨ (D.pg.length : Int) ≤ x) :
    Calls Try.prog 74 #[.pointer (some ⟨q, 0, none⟩), .int .i64 x] w fun e w' => e = .returned (.int .i64 1) ∧ w = w' := by
  have hc := Lib.hid (has_no s hx)
  clear hx s
  go_enter Try.func74, Try.ntmps74
  go_wp2_with fail
  refine hc.out.mono ?_
  rintro e w' ⟨rfl, rfl⟩
  go_wp2_with fail
  go_ret
  exact ⟨rfl, rfl⟩

theorem erase_eq {w : World} {q : Nat} {K P : Nat → Prop} {D : Dv} (s : DevAt w q K P D) {i : Nat} (hi : i < D.pg.length) (b : Bool) (hb : D.spend.off = b) :
    Calls Try.prog 74 #[.pointer (some ⟨q, 0, none⟩), .int .i64 i] w fun e w' => e = .returned (.int .i64 (errOff b)) ∧ DTo w q K P w' (D.change i .blank) := by
  have hc := Lib.hid (has_yes s (x := (i : Int)) (by omega) (by omega))
  have S := Lib.hid s
  have HB := Lib.hid hb
  clear s hb
  go_enter Try.func74, Try.ntmps74
  go_wp2_with fail
  refine hc.out.mono ?_
  rintro e w' ⟨rfl, rfl⟩
  go_wp2_with fail
  cases b with
  | true =>
    refine (change_off S.out (i : Int) _ HB.out i .blank).mono ?_
    rintro e w5 ⟨rfl, t5⟩
    have T5 := Lib.hid t5
    clear t5
    go_wp2_with fail
    go_ret
    exact ⟨rfl, T5.out⟩
  | false =>
    refine (change_on S.out hi (v := .pointer none) (p := .blank) rfl HB.out).mono ?_
    rintro e w5 ⟨rfl, t5⟩
    have T5 := Lib.hid t5
    clear t5
    go_wp2_with fail
    go_ret
    exact ⟨rfl, T5.out⟩

theorem arm_eq {w : World} {q : Nat} {K P : Nat → Prop} {D : Dv} (s : DevAt w q K P D) {x : Int} (hx : (Lit.int .i64 x).wf = true) :
    Calls Try.prog 37 #[.pointer (some ⟨q, 0, none⟩), .int .i64 x] w fun e w' => e = .returned (.tuple #[]) ∧ DTo w q K P w' (D.armed x) := by
  obtain ⟨g, cap, m, vals, L, s, hK, hl⟩ := s
  have HK := Lib.hid hK
  have HL := Lib.hid hl
  obtain ⟨_, _, _, c3, _, _, _, _, _, fz⟩ := s.cells
  have S := Lib.hid s
  have top := Lib.hid s.top
  have hb := i64_bd hx
  clear s hK hl hx
  by_cases h0 : x < 0
  · have e : D.armed x = { D with arm := 0 } := by unfold Dv.armed; rw [if_pos h0]
    have E := Lib.hid e
    have h0' : ¬ 0 ≤ x := by omega
    clear e
    go_enter Try.func37, Try.ntmps37
    go_wp2_with fail
    go_end0
    rw [E.out]
    refine ⟨rfl, S.out.to HK.out HL.out ((Fr.refl (One q) w).set1 _) ?_ rfl (Int.le_refl 0) (by show (0 : Int) ≤ _; omega)⟩
    rw [heap_setCell_same _ q 3 _ _ _ top.out]
    rfl
  · have e : D.armed x = { D with arm := x } := by unfold Dv.armed; rw [if_neg h0]
    have E := Lib.hid e
    have h0' : 0 ≤ x := by omega
    clear e
    go_enter Try.func37, Try.ntmps37
    go_wp2_with fail
    go_end0
    rw [E.out]
    refine ⟨rfl, S.out.to HK.out HL.out ((Fr.refl (One q) w).set1 _) ?_ rfl h0' hb.2⟩
    rw [heap_setCell_same _ q 3 _ _ _ top.out]
    rfl

theorem ptr_info : (Try.prog.info? 112).map (fun i => (i.zero.map Value.cells, i.size, i.bytes)) = some (some #[.pointer none], 1, 8) := by kernel_rfl
theorem made_ptrs (n : Nat) : madeCells #[.pointer none] n = (List.replicate n (Value.pointer none)).toArray := by
  unfold madeCells
  apply Array.ext
  · simp
  · intro i h1 h2
    simp [Nat.mod_one]

theorem new_bad {w : World} {x : Int} (h : x < 1 ∨ 4096 < x) :
    Calls Try.prog 24 #[.int .i64 x] w fun e w' => e = .returned (.tuple #[.pointer none, .int .i64 1]) ∧ w = w' := by
  by_cases h1 : x < 1
  · go_enter Try.func24, Try.ntmps24
    go_wp2_with fail
    go_ret2
    exact ⟨rfl, rfl⟩
  · have h2 : 4096 < x := by omega
    go_enter Try.func24, Try.ntmps24
    go_wp2_with fail
    go_ret2
    exact ⟨rfl, rfl⟩

/-- A new device at q. -/
def NewDev (w : World) (n : Nat) (e : Ending) (w' : World) : Prop :=
  ∃ q K, e = .returned (.tuple #[.pointer (some ⟨q, 0, none⟩), .int .i64 0]) ∧ DevAt w' q K (fun _ => False) (Dv.new n) ∧ Fr Nob w w' ∧ ∀ k, K k → w.heap.size ≤ k

theorem new_eq {w : World} {n : Nat} (h0 : 1 ≤ n) (h1 : n ≤ 4096) : Calls Try.prog 24 #[.int .i64 n] w (NewDev w n) := by
  have h2 : ¬ (n : Int) < 1 := by omega
  have h3 : ¬ 4096 < (n : Int) := by omega
  go_enter Try.func24, Try.ntmps24
  go_wp2_with (with_reducible refine wpList_make_all rfl _ _ 96 rfl 112 #[.pointer none] 1 8 Try.underlying96 ptr_info .i64 .i64 n rfl rfl (by omega) (by omega) ?_)
  intro cs hcs
  have hcs2 := hcs.out.trans (made_ptrs n)
  have HCS := Lib.hid hcs2
  clear hcs hcs2
  go_wp2_with (with_reducible refine wpList_makeM (t := 97) rfl rfl ?_)
  go_wp2_with fail
  go_ret2
  have hg : (w.alloc (.cells cs 112)).heap[w.heap.size]? = some (.cells (List.replicate n (Value.pointer none)).toArray 112 (0, 0)) := by rw [heap_alloc_new, HCS.out]
  have f1 : Fr Nob w (w.alloc (.cells cs 112)) := (Fr.refl Nob w).alloc _
  have hs1 : (w.alloc (.cells cs 112)).heap.size = w.heap.size + 1 := by simp
  generalize w.alloc (.cells cs 112) = w1 at *
  have hm := MapIs.made (key := Value.int .i64) (val := id) w1
  have f2 : Fr Nob w1 (w1.alloc (.map #[] 0)) := (Fr.refl Nob w1).alloc _
  have hs2 : (w1.alloc (.map #[] 0)).heap.size = w1.heap.size + 1 := by simp
  rw [hs1] at hm hs2
  have hg2 := f2.heap hg fun h => h
  generalize w1.alloc (.map #[] 0) = w2 at *
  have hq := heap_alloc_new w2 (.cells #[.slice (some ⟨w.heap.size, 0, none⟩) n n, .map (some (w.heap.size + 1)), .bool false, .int .i64 0, .int .i64 0, .int .i64 0, .int .i64 0, .int .i64 0, .int .i64 0] 101)
  have f3 : Fr Nob w2 (w2.alloc (.cells #[.slice (some ⟨w.heap.size, 0, none⟩) n n, .map (some (w.heap.size + 1)), .bool false, .int .i64 0, .int .i64 0, .int .i64 0, .int .i64 0, .int .i64 0, .int .i64 0] 101)) := (Fr.refl Nob w2).alloc _
  have hs3 : (w2.alloc (.cells #[.slice (some ⟨w.heap.size, 0, none⟩) n n, .map (some (w.heap.size + 1)), .bool false, .int .i64 0, .int .i64 0, .int .i64 0, .int .i64 0, .int .i64 0, .int .i64 0] 101)).heap.size = w2.heap.size + 1 := by simp
  rw [hs2] at hq hs3
  have hg3 := f3.heap hg2 fun h => h
  have hm3 := hm.keep f3 fun h => h
  rw [show ({ block := w.heap.size + 1 + 1, off := 0 } : Addr) = ⟨w.heap.size + 2, 0, none⟩ from rfl] at *
  generalize w2.alloc (.cells #[.slice (some ⟨w.heap.size, 0, none⟩) n n, .map (some (w.heap.size + 1)), .bool false, .int .i64 0, .int .i64 0, .int .i64 0, .int .i64 0, .int .i64 0, .int .i64 0] 101) = w3 at *
  have hl : (Dv.new n).pg.length = n := by simp [Dv.new]
  have hpg : ∀ (i : Nat) (c : Pc), (Dv.new n).pg[i]? = some c → i < n ∧ c = (.blank, none) := by
    intro i c h
    have h1 : (List.replicate n ((.blank, none) : Pc))[i]? = some c := h
    rw [List.getElem?_replicate] at h1
    split at h1
    · rename_i h2
      exact ⟨h2, (Option.some.inj h1).symm⟩
    · cases h1
  refine ⟨w.heap.size + 2, DOwn (w.heap.size + 2) w.heap.size (w.heap.size + 1), rfl, ⟨w.heap.size, n, w.heap.size + 1, List.replicate n (.pointer none), [], ⟨?_, ?_, hm3, ?_, ?_, ?_, Int.le_refl 0, by show (0 : Int) ≤ _; omega, by rw [hl]; exact h0, by rw [hl]; exact h1⟩, fun _ => Iff.rfl, fun _ h => h.elim⟩, (f1.trans' f2).trans' f3, ?_⟩
  · rw [hl]; exact hq
  · rw [hl]
    exact ⟨by simp, .inr ⟨w.heap.size, n, _, rfl, Nat.zero_le _, hg3, Nat.le_refl _, by unfold maxLen; omega, by simp, by simp⟩⟩
  · intro i c h
    obtain ⟨h2, rfl⟩ := hpg i c h
    exact ⟨.pointer none, by rw [List.getElem?_replicate, if_pos h2], rfl⟩
  · intro i c h
    obtain ⟨h2, rfl⟩ := hpg i c h
    rfl
  · intro k hk; simp [keysM] at hk
  · rintro k (rfl | rfl | rfl) <;> omega

end Go.Proofs.Ytpdljgjofebgpaa
