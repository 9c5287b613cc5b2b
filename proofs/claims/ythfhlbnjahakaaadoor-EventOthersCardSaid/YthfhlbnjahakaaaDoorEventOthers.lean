/-
  The law EventOthers, walked (written by gen/evothers.py).
-/
import Derived.Test.YthfhlbnjahakaaaDoorEvIn
namespace Go.Proofs.YthfhlbnjahakaaaDoor
open Go.RowKit

theorem lit_gt {n : Nat} (h : 100 < n) : (100 : Int) < (n : Int) := by omega

set_option maxHeartbeats 8000000 in
set_option maxRecDepth 100000 in
theorem others_long (what : ByteArray) (A : Option Addr) (n cap : Nat) (qt : Bool) (w : World) (h : 100 < n ∨ (n ≤ 100 ∧ 100 < what.size)) : Calls Tryd.prog 5 #[.string what, .slice A n cap, .bool qt] w fun e w' => e = .returned (.bool true) ∧ Fr Nob w w' := by
  rcases h with h | ⟨h, h2⟩
  · have g := lit_gt h
    clear h
    go_enter Tryd.func5, Tryd.ntmps5
    go_wp2_with fail
    refine (awake_ok w).mono ?_
    rintro e w0 ⟨rfl, f0⟩
    have F0 := Lib.hid f0
    clear f0
    go_wp2_with fail
    go_ret
    exact ⟨rfl, F0.out⟩
  · have g : ¬ (100 : Int) < (n : Int) := by omega
    have g2 := lit_gt h2
    clear h h2
    go_enter Tryd.func5, Tryd.ntmps5
    go_wp2_with fail
    refine (awake_ok w).mono ?_
    rintro e w0 ⟨rfl, f0⟩
    have F0 := Lib.hid f0
    clear f0
    go_wp2_with fail
    go_ret
    exact ⟨rfl, F0.out⟩

set_option maxHeartbeats 8000000 in
set_option maxRecDepth 100000 in
theorem others_get (A : Option Addr) (n cap : Nat) (qt : Bool) (l : List ByteArray) (w : World) (h : InS w A n cap l) (hn : n ≤ 100) : Calls Tryd.prog 5 #[.string ⟨#[103, 101, 116]⟩, .slice A n cap, .bool qt] w fun e w' => e = .returned (.bool true) ∧ Fr Nob w w' := by
  have HI := Lib.hid h
  have g : ¬ (100 : Int) < (n : Int) := by omega
  have hl : l.length ≤ 1000000000 := by rw [h.len]; omega
  clear h hn
  go_enter Tryd.func5, Tryd.ntmps5
  go_wp2_with fail
  refine (awake_ok w).mono ?_
  rintro e w0 ⟨rfl, f0⟩
  have F0 := Lib.hid f0
  clear f0
  go_wp2_with fail
  refine (quietF_get ⟨#[]⟩ ⟨#[]⟩ (.slice A n cap) 0 0 0 0 false false false qt (HI.out.rd.nob F0.out) hl).mono ?_
  rintro e w1 ⟨rfl, f1⟩
  have F1 := F0.out.trans' f1
  go_wp2_with fail
  go_ret
  exact ⟨rfl, F1⟩

set_option maxHeartbeats 8000000 in
set_option maxRecDepth 100000 in
theorem others_bad (A : Option Addr) (n cap : Nat) (qt : Bool) (l : List ByteArray) (w : World) (h : InS w A n cap l) (hn : n ≤ 100) : Calls Tryd.prog 5 #[.string ⟨#[98, 97, 100]⟩, .slice A n cap, .bool qt] w fun e w' => e = .returned (.bool true) ∧ Fr Nob w w' := by
  have HI := Lib.hid h
  have g : ¬ (100 : Int) < (n : Int) := by omega
  have hl : l.length ≤ 1000000000 := by rw [h.len]; omega
  clear h hn
  go_enter Tryd.func5, Tryd.ntmps5
  go_wp2_with fail
  refine (awake_ok w).mono ?_
  rintro e w0 ⟨rfl, f0⟩
  have F0 := Lib.hid f0
  clear f0
  go_wp2_with fail
  refine (quietF_bad ⟨#[]⟩ ⟨#[]⟩ (.slice A n cap) 0 0 0 0 false false false qt).mono ?_
  rintro e w1 ⟨rfl, f1⟩
  have F1 := F0.out.trans' f1
  go_wp2_with fail
  go_ret
  exact ⟨rfl, F1⟩

set_option maxHeartbeats 8000000 in
set_option maxRecDepth 100000 in
theorem others_word (A : Option Addr) (n cap : Nat) (qt : Bool) (l : List ByteArray) (w : World) (h : InS w A n cap l) (hn : n ≤ 100) : Calls Tryd.prog 5 #[.string ⟨#[119, 111, 114, 100]⟩, .slice A n cap, .bool qt] w fun e w' => e = .returned (.bool true) ∧ Fr Nob w w' := by
  have HI := Lib.hid h
  have g : ¬ (100 : Int) < (n : Int) := by omega
  have hl : l.length ≤ 1000000000 := by rw [h.len]; omega
  clear h hn
  go_enter Tryd.func5, Tryd.ntmps5
  go_wp2_with fail
  refine (awake_ok w).mono ?_
  rintro e w0 ⟨rfl, f0⟩
  have F0 := Lib.hid f0
  clear f0
  go_wp2_with fail
  refine (quietF_word ⟨#[]⟩ ⟨#[]⟩ (.slice A n cap) 0 0 0 0 false false false qt).mono ?_
  rintro e w1 ⟨rfl, f1⟩
  have F1 := F0.out.trans' f1
  go_wp2_with fail
  go_ret
  exact ⟨rfl, F1⟩

set_option maxHeartbeats 8000000 in
set_option maxRecDepth 100000 in
theorem others_store (A : Option Addr) (n cap : Nat) (qt : Bool) (l : List ByteArray) (w : World) (h : InS w A n cap l) (hn : n ≤ 100) : Calls Tryd.prog 5 #[.string ⟨#[115, 116, 111, 114, 101]⟩, .slice A n cap, .bool qt] w fun e w' => e = .returned (.bool true) ∧ Fr Nob w w' := by
  have HI := Lib.hid h
  have g : ¬ (100 : Int) < (n : Int) := by omega
  have hl : l.length ≤ 1000000000 := by rw [h.len]; omega
  clear h hn
  go_enter Tryd.func5, Tryd.ntmps5
  go_wp2_with fail
  refine (awake_ok w).mono ?_
  rintro e w0 ⟨rfl, f0⟩
  have F0 := Lib.hid f0
  clear f0
  go_wp2_with fail
  refine (quietF_store ⟨#[]⟩ ⟨#[]⟩ (.slice A n cap) 0 0 0 0 false false false qt (keyOf l) (HI.out.rd.nob F0.out) rfl).mono ?_
  rintro e w1 ⟨rfl, f1⟩
  have F1 := F0.out.trans' f1
  cases qt
  all_goals
    go_wp2_with fail
    go_ret
    exact ⟨rfl, F1⟩

set_option maxHeartbeats 8000000 in
set_option maxRecDepth 100000 in
theorem others_arith (A : Option Addr) (n cap : Nat) (qt : Bool) (l : List ByteArray) (w : World) (h : InS w A n cap l) (hn : n ≤ 100) : Calls Tryd.prog 5 #[.string ⟨#[97, 114, 105, 116, 104]⟩, .slice A n cap, .bool qt] w fun e w' => e = .returned (.bool true) ∧ Fr Nob w w' := by
  have HI := Lib.hid h
  have g : ¬ (100 : Int) < (n : Int) := by omega
  have hl : l.length ≤ 1000000000 := by rw [h.len]; omega
  clear h hn
  go_enter Tryd.func5, Tryd.ntmps5
  go_wp2_with fail
  refine (awake_ok w).mono ?_
  rintro e w0 ⟨rfl, f0⟩
  have F0 := Lib.hid f0
  clear f0
  go_wp2_with fail
  refine (quietF_arith ⟨#[]⟩ ⟨#[]⟩ (.slice A n cap) 0 0 0 0 false false false qt (keyOf l) (HI.out.rd.nob F0.out) rfl).mono ?_
  rintro e w1 ⟨rfl, f1⟩
  have F1 := F0.out.trans' f1
  cases qt
  all_goals
    go_wp2_with fail
    go_ret
    exact ⟨rfl, F1⟩

set_option maxHeartbeats 8000000 in
set_option maxRecDepth 100000 in
theorem others_touch (A : Option Addr) (n cap : Nat) (qt : Bool) (l : List ByteArray) (w : World) (h : InS w A n cap l) (hn : n ≤ 100) : Calls Tryd.prog 5 #[.string ⟨#[116, 111, 117, 99, 104]⟩, .slice A n cap, .bool qt] w fun e w' => e = .returned (.bool true) ∧ Fr Nob w w' := by
  have HI := Lib.hid h
  have g : ¬ (100 : Int) < (n : Int) := by omega
  have hl : l.length ≤ 1000000000 := by rw [h.len]; omega
  clear h hn
  go_enter Tryd.func5, Tryd.ntmps5
  go_wp2_with fail
  refine (awake_ok w).mono ?_
  rintro e w0 ⟨rfl, f0⟩
  have F0 := Lib.hid f0
  clear f0
  go_wp2_with fail
  refine (quietF_touch ⟨#[]⟩ ⟨#[]⟩ (.slice A n cap) 0 0 0 0 false false false qt (keyOf l) (HI.out.rd.nob F0.out) rfl).mono ?_
  rintro e w1 ⟨rfl, f1⟩
  have F1 := F0.out.trans' f1
  cases qt
  all_goals
    go_wp2_with fail
    go_ret
    exact ⟨rfl, F1⟩

set_option maxHeartbeats 8000000 in
set_option maxRecDepth 100000 in
theorem others_delete (A : Option Addr) (n cap : Nat) (qt : Bool) (l : List ByteArray) (w : World) (h : InS w A n cap l) (hn : n ≤ 100) : Calls Tryd.prog 5 #[.string ⟨#[100, 101, 108, 101, 116, 101]⟩, .slice A n cap, .bool qt] w fun e w' => e = .returned (.bool true) ∧ Fr Nob w w' := by
  have HI := Lib.hid h
  have g : ¬ (100 : Int) < (n : Int) := by omega
  have hl : l.length ≤ 1000000000 := by rw [h.len]; omega
  clear h hn
  go_enter Tryd.func5, Tryd.ntmps5
  go_wp2_with fail
  refine (awake_ok w).mono ?_
  rintro e w0 ⟨rfl, f0⟩
  have F0 := Lib.hid f0
  clear f0
  go_wp2_with fail
  refine (quietF_delete ⟨#[]⟩ ⟨#[]⟩ (.slice A n cap) 0 0 0 0 false false false qt (keyOf l) (HI.out.rd.nob F0.out) rfl).mono ?_
  rintro e w1 ⟨rfl, f1⟩
  have F1 := F0.out.trans' f1
  cases qt
  all_goals
    go_wp2_with fail
    go_ret
    exact ⟨rfl, F1⟩

set_option maxHeartbeats 8000000 in
set_option maxRecDepth 100000 in
theorem others_flush (A : Option Addr) (n cap : Nat) (qt : Bool) (l : List ByteArray) (w : World) (h : InS w A n cap l) (hn : n ≤ 100) : Calls Tryd.prog 5 #[.string ⟨#[102, 108, 117, 115, 104]⟩, .slice A n cap, .bool qt] w fun e w' => e = .returned (.bool true) ∧ Fr Nob w w' := by
  have HI := Lib.hid h
  have g : ¬ (100 : Int) < (n : Int) := by omega
  have hl : l.length ≤ 1000000000 := by rw [h.len]; omega
  clear h hn
  go_enter Tryd.func5, Tryd.ntmps5
  go_wp2_with fail
  refine (awake_ok w).mono ?_
  rintro e w0 ⟨rfl, f0⟩
  have F0 := Lib.hid f0
  clear f0
  go_wp2_with fail
  refine (quietF_flush ⟨#[]⟩ ⟨#[]⟩ (.slice A n cap) 0 0 0 0 false false false qt).mono ?_
  rintro e w1 ⟨rfl, f1⟩
  have F1 := F0.out.trans' f1
  cases qt
  all_goals
    go_wp2_with fail
    go_ret
    exact ⟨rfl, F1⟩

set_option maxHeartbeats 8000000 in
set_option maxRecDepth 100000 in
theorem others_none (what : ByteArray) (A : Option Addr) (n cap : Nat) (qt : Bool) (w : World) (h : noWord what) (hn : n ≤ 100) (hs : what.size ≤ 100) : Calls Tryd.prog 5 #[.string what, .slice A n cap, .bool qt] w fun e w' => e = .returned (.bool true) ∧ Fr Nob w w' := by
  have HI := Lib.hid h
  have g : ¬ (100 : Int) < (n : Int) := by omega
  have g2 : ¬ (100 : Int) < (what.size : Int) := by omega
  obtain ⟨h1, h2, h3, h4, h5, h6, h7, h8⟩ := h
  have g10 := lit_ne h1
  have g20 := lit_ne h2
  have g30 := lit_ne h3
  have g40 := lit_ne h4
  have g50 := lit_ne h5
  have g60 := lit_ne h6
  have g70 := lit_ne h7
  have g80 := lit_ne h8
  clear h1 h2 h3 h4 h5 h6 h7 h8 hn hs
  go_enter Tryd.func5, Tryd.ntmps5
  go_wp2_with fail
  refine (awake_ok w).mono ?_
  rintro e w0 ⟨rfl, f0⟩
  have F0 := Lib.hid f0
  clear f0
  go_wp2_with fail
  obtain ⟨B, hB⟩ : ∃ B, B = w0.heap.size := ⟨_, rfl⟩
  have h1 := heap_alloc_new w0 (.cells #[.string what, .string ⟨#[115, 101, 116]⟩, .slice A n cap, .string ⟨#[]⟩, .int .u32 0, .int .i64 0, .int .u64 0, .int .u64 0, .bool false, .bool false, .bool false, .bool qt] 28)
  have fb := frB (w := w0) (.cells #[.string what, .string ⟨#[115, 101, 116]⟩, .slice A n cap, .string ⟨#[]⟩, .int .u32 0, .int .i64 0, .int .u64 0, .int .u64 0, .bool false, .bool false, .bool false, .bool qt] 28)
  rw [← hB] at h1 ⊢
  have FB := Lib.hid (F0.out.trans' fb)
  have H1 := Lib.hid h1
  clear hB h1 fb F0
  generalize w0.alloc (.cells #[.string what, .string ⟨#[115, 101, 116]⟩, .slice A n cap, .string ⟨#[]⟩, .int .u32 0, .int .i64 0, .int .u64 0, .int .u64 0, .bool false, .bool false, .bool false, .bool qt] 28) = w1 at *
  refine (nameF_none what ⟨#[115, 101, 116]⟩ ⟨#[]⟩ (.slice A n cap) 0 0 0 0 false false false qt HI.out).mono ?_
  rintro e w2 ⟨rfl, f2⟩
  have F2 := Lib.hid (FB.out.trans' f2)
  have H2 := Lib.hid (f2.heap H1.out fun h => h)
  clear f2 FB H1
  have q0 : w2.cell? ⟨B, 0, none⟩ = some (.string what) := cell_of_row w2 B 0 _ _ (0, 0) H2.out
  have q1 : w2.cell? ⟨B, 1, none⟩ = some (.string ⟨#[115, 101, 116]⟩) := cell_of_row w2 B 1 _ _ (0, 0) H2.out
  have q2 : w2.cell? ⟨B, 2, none⟩ = some (.slice A n cap) := cell_of_row w2 B 2 _ _ (0, 0) H2.out
  have q3 : w2.cell? ⟨B, 3, none⟩ = some (.string ⟨#[]⟩) := cell_of_row w2 B 3 _ _ (0, 0) H2.out
  have q4 : w2.cell? ⟨B, 4, none⟩ = some (.int .u32 0) := cell_of_row w2 B 4 _ _ (0, 0) H2.out
  have q5 : w2.cell? ⟨B, 5, none⟩ = some (.int .i64 0) := cell_of_row w2 B 5 _ _ (0, 0) H2.out
  have q6 : w2.cell? ⟨B, 6, none⟩ = some (.int .u64 0) := cell_of_row w2 B 6 _ _ (0, 0) H2.out
  have q7 : w2.cell? ⟨B, 7, none⟩ = some (.int .u64 0) := cell_of_row w2 B 7 _ _ (0, 0) H2.out
  have q8 : w2.cell? ⟨B, 8, none⟩ = some (.bool false) := cell_of_row w2 B 8 _ _ (0, 0) H2.out
  have q9 : w2.cell? ⟨B, 9, none⟩ = some (.bool false) := cell_of_row w2 B 9 _ _ (0, 0) H2.out
  have q10 : w2.cell? ⟨B, 10, none⟩ = some (.bool false) := cell_of_row w2 B 10 _ _ (0, 0) H2.out
  have q11 : w2.cell? ⟨B, 11, none⟩ = some (.bool qt) := cell_of_row w2 B 11 _ _ (0, 0) H2.out
  go_wp2_with fail
  refine (keysF_none what ⟨#[115, 101, 116]⟩ ⟨#[]⟩ (.slice A n cap) 0 0 0 0 false false false qt HI.out).mono ?_
  rintro e w3 ⟨rfl, f3⟩
  have F3 := Lib.hid (F2.out.trans' f3)
  have H3 := Lib.hid (f3.heap H2.out fun h => h)
  clear f3 F2 H2 q0 q1 q2 q3 q4 q5 q6 q7 q8 q9 q10 q11
  have q0 : w3.cell? ⟨B, 0, none⟩ = some (.string what) := cell_of_row w3 B 0 _ _ (0, 0) H3.out
  have q1 : w3.cell? ⟨B, 1, none⟩ = some (.string ⟨#[115, 101, 116]⟩) := cell_of_row w3 B 1 _ _ (0, 0) H3.out
  have q2 : w3.cell? ⟨B, 2, none⟩ = some (.slice A n cap) := cell_of_row w3 B 2 _ _ (0, 0) H3.out
  have q3 : w3.cell? ⟨B, 3, none⟩ = some (.string ⟨#[]⟩) := cell_of_row w3 B 3 _ _ (0, 0) H3.out
  have q4 : w3.cell? ⟨B, 4, none⟩ = some (.int .u32 0) := cell_of_row w3 B 4 _ _ (0, 0) H3.out
  have q5 : w3.cell? ⟨B, 5, none⟩ = some (.int .i64 0) := cell_of_row w3 B 5 _ _ (0, 0) H3.out
  have q6 : w3.cell? ⟨B, 6, none⟩ = some (.int .u64 0) := cell_of_row w3 B 6 _ _ (0, 0) H3.out
  have q7 : w3.cell? ⟨B, 7, none⟩ = some (.int .u64 0) := cell_of_row w3 B 7 _ _ (0, 0) H3.out
  have q8 : w3.cell? ⟨B, 8, none⟩ = some (.bool false) := cell_of_row w3 B 8 _ _ (0, 0) H3.out
  have q9 : w3.cell? ⟨B, 9, none⟩ = some (.bool false) := cell_of_row w3 B 9 _ _ (0, 0) H3.out
  have q10 : w3.cell? ⟨B, 10, none⟩ = some (.bool false) := cell_of_row w3 B 10 _ _ (0, 0) H3.out
  have q11 : w3.cell? ⟨B, 11, none⟩ = some (.bool qt) := cell_of_row w3 B 11 _ _ (0, 0) H3.out
  go_wp2_with fail
  refine (quietF_none what ⟨#[115, 101, 116]⟩ ⟨#[]⟩ (.slice A n cap) 0 0 0 0 false false false qt HI.out).mono ?_
  rintro e w4 ⟨rfl, f4⟩
  have F4 := Lib.hid (F3.out.trans' f4)
  have H4 := Lib.hid (f4.heap H3.out fun h => h)
  clear f4 F3 H3 q0 q1 q2 q3 q4 q5 q6 q7 q8 q9 q10 q11
  have q0 : w4.cell? ⟨B, 0, none⟩ = some (.string what) := cell_of_row w4 B 0 _ _ (0, 0) H4.out
  have q1 : w4.cell? ⟨B, 1, none⟩ = some (.string ⟨#[115, 101, 116]⟩) := cell_of_row w4 B 1 _ _ (0, 0) H4.out
  have q2 : w4.cell? ⟨B, 2, none⟩ = some (.slice A n cap) := cell_of_row w4 B 2 _ _ (0, 0) H4.out
  have q3 : w4.cell? ⟨B, 3, none⟩ = some (.string ⟨#[]⟩) := cell_of_row w4 B 3 _ _ (0, 0) H4.out
  have q4 : w4.cell? ⟨B, 4, none⟩ = some (.int .u32 0) := cell_of_row w4 B 4 _ _ (0, 0) H4.out
  have q5 : w4.cell? ⟨B, 5, none⟩ = some (.int .i64 0) := cell_of_row w4 B 5 _ _ (0, 0) H4.out
  have q6 : w4.cell? ⟨B, 6, none⟩ = some (.int .u64 0) := cell_of_row w4 B 6 _ _ (0, 0) H4.out
  have q7 : w4.cell? ⟨B, 7, none⟩ = some (.int .u64 0) := cell_of_row w4 B 7 _ _ (0, 0) H4.out
  have q8 : w4.cell? ⟨B, 8, none⟩ = some (.bool false) := cell_of_row w4 B 8 _ _ (0, 0) H4.out
  have q9 : w4.cell? ⟨B, 9, none⟩ = some (.bool false) := cell_of_row w4 B 9 _ _ (0, 0) H4.out
  have q10 : w4.cell? ⟨B, 10, none⟩ = some (.bool false) := cell_of_row w4 B 10 _ _ (0, 0) H4.out
  have q11 : w4.cell? ⟨B, 11, none⟩ = some (.bool qt) := cell_of_row w4 B 11 _ _ (0, 0) H4.out
  go_wp2_with fail
  refine (good_none what ⟨#[115, 101, 116]⟩ ⟨#[]⟩ (.slice A n cap) 0 0 0 0 false false false qt HI.out).mono ?_
  rintro e w5 ⟨rfl, f5⟩
  have F5 := Lib.hid (F4.out.trans' f5)
  have H5 := Lib.hid (f5.heap H4.out fun h => h)
  clear f5 F4 H4 q0 q1 q2 q3 q4 q5 q6 q7 q8 q9 q10 q11
  go_wp2_with fail
  go_ret
  exact ⟨rfl, F5.out⟩

theorem eventOthers_walk (what : ByteArray) (A : Option Addr) (n cap : Nat) (l : List ByteArray) (qt : Bool) (w : World) (_ : what.size ≤ maxLen) (h : InS w A n cap l) :
    Calls Tryd.prog 5 #[.string what, .slice A n cap, .bool qt] w fun e w' => e = .returned (.bool true) ∧ Fr Nob w w' := by
  by_cases hn : 100 < n
  · exact others_long what A n cap qt w (.inl hn)
  by_cases hs : 100 < what.size
  · exact others_long what A n cap qt w (.inr ⟨by omega, hs⟩)
  have hn' : n ≤ 100 := by omega
  by_cases k1 : what = ⟨#[103, 101, 116]⟩
  · rw [k1]; exact others_get A n cap qt l w h hn'
  by_cases k2 : what = ⟨#[115, 116, 111, 114, 101]⟩
  · rw [k2]; exact others_store A n cap qt l w h hn'
  by_cases k3 : what = ⟨#[97, 114, 105, 116, 104]⟩
  · rw [k3]; exact others_arith A n cap qt l w h hn'
  by_cases k4 : what = ⟨#[116, 111, 117, 99, 104]⟩
  · rw [k4]; exact others_touch A n cap qt l w h hn'
  by_cases k5 : what = ⟨#[100, 101, 108, 101, 116, 101]⟩
  · rw [k5]; exact others_delete A n cap qt l w h hn'
  by_cases k6 : what = ⟨#[102, 108, 117, 115, 104]⟩
  · rw [k6]; exact others_flush A n cap qt l w h hn'
  by_cases k7 : what = ⟨#[98, 97, 100]⟩
  · rw [k7]; exact others_bad A n cap qt l w h hn'
  by_cases k8 : what = ⟨#[119, 111, 114, 100]⟩
  · rw [k8]; exact others_word A n cap qt l w h hn'
  exact others_none what A n cap qt w ⟨k1, k2, k3, k4, k5, k6, k7, k8⟩ hn' (by omega)
end Go.Proofs.YthfhlbnjahakaaaDoor
