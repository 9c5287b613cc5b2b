/-
  event: a command told by the program and by the document: the same (written by gen/evy.py).
-/
import Derived.Test.YthfhlbnjahakaaaDoorEvW
import Derived.Test.YthfhlbnjahakaaaDoorEvX
import Derived.Test.YthfhlbnjahakaaaDoorEvD
namespace Go.Proofs.YthfhlbnjahakaaaDoor
open Go.RowKit

theorem cmd17_eq {w : World} {l : List ByteArray} (a b d : ByteArray) (v : Value) (n1 n2 n3 n4 : Int) (b1 b2 b3 b4 : Bool) (h : RdS w v l) (hn : l.length ≤ 1000000000) :
    Calls Tryd.prog 14 #[.agg #[.string a, .string b, v, .string d, .int .u32 n1, .int .i64 n2, .int .u64 n3, .int .u64 n4, .bool b1, .bool b2, .bool b3, .bool b4]] w fun e w' => ∃ v', e = .returned (.agg #[.string a, .string b, v', .string d, .int .u32 n1, .int .i64 n2, .int .u64 n3, .int .u64 n4, .bool b1, .bool b2, .bool b3, .bool b4]) ∧ Hid (RdS w' v' l) ∧ Hid (Fr Nob w w') := by
  cases l with
  | nil => exact cmd17_0 a b d v n1 n2 n3 n4 b1 b2 b3 b4 h
  | cons k r => exact cmd17_1 a b d v n1 n2 n3 n4 b1 b2 b3 b4 h hn (by simp)

/-- What program and document tell of the command c (its keys: l), in each world that goes on from W: good, its name; silence as it says itself; its keys. -/
structure Same (W : World) (a b d : ByteArray) (v : Value) (n1 n2 n3 n4 : Int) (b1 b2 b3 b4 : Bool) (l : List ByteArray) (G : Bool) (NM : ByteArray) : Prop where
  rd : RdS W v l
  len : l.length ≤ 1000000000
  good : ∀ W', Fr Nob W W' → Calls Tryd.prog 10 #[.agg #[.string a, .string b, v, .string d, .int .u32 n1, .int .i64 n2, .int .u64 n3, .int .u64 n4, .bool b1, .bool b2, .bool b3, .bool b4]] W' fun e w' => e = .returned (.bool G) ∧ Fr Nob W' w'
  good' : ∀ W' v', Fr Nob W W' → RdS W' v' l → Calls Tryd.prog 15 #[.agg #[.string a, .string b, v', .string d, .int .u32 n1, .int .i64 n2, .int .u64 n3, .int .u64 n4, .bool b1, .bool b2, .bool b3, .bool b4]] W' fun e w' => e = .returned (.bool G) ∧ Fr Nob W' w'
  quiet : ∀ W', Fr Nob W W' → Calls Tryd.prog 12 #[.agg #[.string a, .string b, v, .string d, .int .u32 n1, .int .i64 n2, .int .u64 n3, .int .u64 n4, .bool b1, .bool b2, .bool b3, .bool b4]] W' fun e w' => e = .returned (.bool b4) ∧ Fr Nob W' w'
  name : ∀ W', Fr Nob W W' → Calls Tryd.prog 9 #[.agg #[.string a, .string b, v, .string d, .int .u32 n1, .int .i64 n2, .int .u64 n3, .int .u64 n4, .bool b1, .bool b2, .bool b3, .bool b4]] W' fun e w' => e = .returned (.string NM) ∧ Fr Nob W' w'
  name' : ∀ W' v', Fr Nob W W' → RdS W' v' l → Calls Tryd.prog 16 #[.agg #[.string a, .string b, v', .string d, .int .u32 n1, .int .i64 n2, .int .u64 n3, .int .u64 n4, .bool b1, .bool b2, .bool b3, .bool b4]] W' fun e w' => e = .returned (.string NM) ∧ Fr Nob W' w'
  keys : ∀ W', Fr Nob W W' → Calls Tryd.prog 11 #[.agg #[.string a, .string b, v, .string d, .int .u32 n1, .int .i64 n2, .int .u64 n3, .int .u64 n4, .bool b1, .bool b2, .bool b3, .bool b4]] W' fun e w' => ∃ A c, e = .returned (.slice A l.length c) ∧ Hid (RdS w' (.slice A l.length c) l) ∧ Hid (Fr Nob W' w')

theorem RdS.sl {w : World} {v : Value} {l : List ByteArray} (h : RdS w v l) : ∃ A n c, v = .slice A n c := by
  obtain ⟨A, c, e, _⟩ := h
  exact ⟨A, _, c, e⟩
theorem badKey_one (k : ByteArray) : badKey [k] = !keyB k := by simp [badKey]
theorem manyOk_eq (l : List ByteArray) : manyOk l = (!badKey l && (decide (1 ≤ l.length) && decide (l.length ≤ 64))) := by unfold manyOk; exact Bool.and_comm _ _

set_option maxRecDepth 100000 in
theorem same_get {W : World} (n2 : Int) (b1 : Bool) (b2 : Bool) {l : List ByteArray} {v : Value} (h : RdS W v l) (hn : l.length ≤ 1000000000) (hs : ∀ k ∈ l, k.size ≤ 9223372036854775807) (hU : U8 W) : Same W ⟨#[103, 101, 116]⟩ ⟨#[]⟩ ⟨#[]⟩ v 0 n2 0 0 b1 b2 false false l (manyOk l) (nameG b2 b1) where
  rd := h
  len := hn
  good := fun W' f => good_get ⟨#[]⟩ ⟨#[]⟩ v 0 n2 0 0 b1 b2 false false (h.nob f) hn hs (hU.fr f)
  good' := fun W' v' f r => by
    have c := good18_get ⟨#[]⟩ ⟨#[]⟩ v' 0 n2 0 0 b1 b2 false false r hn hs
    have e : (manyOk l) = _ := (manyOk_eq l : (manyOk l) = (!badKey l && (decide (1 ≤ l.length) && decide (l.length ≤ 64))))
    rw [e]
    exact c
  quiet := fun W' f => quietF_get ⟨#[]⟩ ⟨#[]⟩ v 0 n2 0 0 b1 b2 false false (h.nob f) hn
  name := fun W' f => nameF_get ⟨#[]⟩ ⟨#[]⟩ v 0 n2 0 0 b1 b2 false false (h.nob f) hn
  name' := fun W' v' f r => name18_get ⟨#[]⟩ ⟨#[]⟩ v' 0 n2 0 0 b1 b2 false false r.sl
  keys := fun W' f => (keysF_get ⟨#[]⟩ ⟨#[]⟩ v 0 n2 0 0 b1 b2 false false (h.nob f) hn).mono fun e w' ⟨v2, e2, o2, f2⟩ => by
    obtain ⟨A, c, rfl⟩ := own_sl o2.out
    exact ⟨A, c, e2, Lib.hid (own_rd o2.out), f2⟩

set_option maxRecDepth 100000 in
theorem same_store {W : World} (b : ByteArray) (d : ByteArray) (n1 : Int) (n2 : Int) (n3 : Int) (b4 : Bool) (k : ByteArray) {v : Value} (h : RdS W v [k]) (hs : k.size ≤ 9223372036854775807) (hd : d.size ≤ 9223372036854775807) (hU : U8 W) : Same W ⟨#[115, 116, 111, 114, 101]⟩ b d v n1 n2 n3 0 false false false b4 [k] (memB b verbsL && decide (d.size ≤ 1024) && keyB k) (b) where
  rd := h
  len := by simp
  good := fun W' f => good_store b d v n1 n2 n3 0 false false false b4 (l := [k]) k (h.nob f) rfl hs hd (hU.fr f)
  good' := fun W' v' f r => by
    have c := good18_store b d v' n1 n2 n3 0 false false false b4 r (by simp) (by intro x hx; rw [List.mem_singleton.1 hx]; exact hs)
    have e : (memB b verbsL && decide (d.size ≤ 1024) && keyB k) = _ := (by rw [badKey_one]; cases keyB k <;> cases memB b verbsL <;> cases decide (d.size ≤ 1024) <;> rfl : (memB b verbsL && decide (d.size ≤ 1024) && keyB k) = (!badKey [k] && (memB b verbsL && decide (d.size ≤ 1024))))
    rw [e]
    exact c
  quiet := fun W' f => quietF_store b d v n1 n2 n3 0 false false false b4 (l := [k]) k (h.nob f) rfl
  name := fun W' f => nameF_store b d v n1 n2 n3 0 false false false b4 (l := [k]) k (h.nob f) rfl
  name' := fun W' v' f r => name18_store b d v' n1 n2 n3 0 false false false b4 r.sl
  keys := fun W' f => (keysF_store b d v n1 n2 n3 0 false false false b4 (l := [k]) k (h.nob f) rfl).mono fun e w' ⟨g, e2, h2, f2, _⟩ => ⟨_, _, e2, Lib.hid (rds_one h2.out), f2⟩

set_option maxRecDepth 100000 in
theorem same_arith {W : World} (n4 : Int) (b3 : Bool) (b4 : Bool) (k : ByteArray) {v : Value} (h : RdS W v [k]) (hs : k.size ≤ 9223372036854775807) (hU : U8 W) : Same W ⟨#[97, 114, 105, 116, 104]⟩ ⟨#[]⟩ ⟨#[]⟩ v 0 0 0 n4 false false b3 b4 [k] (keyB k) (if b3 then ⟨#[100, 101, 99, 114]⟩ else ⟨#[105, 110, 99, 114]⟩) where
  rd := h
  len := by simp
  good := fun W' f => good_arith ⟨#[]⟩ ⟨#[]⟩ v 0 0 0 n4 false false b3 b4 (l := [k]) k (h.nob f) rfl hs (hU.fr f)
  good' := fun W' v' f r => by
    have c := good18_arith ⟨#[]⟩ ⟨#[]⟩ v' 0 0 0 n4 false false b3 b4 r (by simp) (by intro x hx; rw [List.mem_singleton.1 hx]; exact hs)
    have e : (keyB k) = _ := (by rw [badKey_one]; cases keyB k <;> rfl : (keyB k) = (!badKey [k] && (true)))
    rw [e]
    exact c
  quiet := fun W' f => quietF_arith ⟨#[]⟩ ⟨#[]⟩ v 0 0 0 n4 false false b3 b4 (l := [k]) k (h.nob f) rfl
  name := fun W' f => nameF_arith ⟨#[]⟩ ⟨#[]⟩ v 0 0 0 n4 false false b3 b4 (l := [k]) k (h.nob f) rfl
  name' := fun W' v' f r => name18_arith ⟨#[]⟩ ⟨#[]⟩ v' 0 0 0 n4 false false b3 b4 r.sl
  keys := fun W' f => (keysF_arith ⟨#[]⟩ ⟨#[]⟩ v 0 0 0 n4 false false b3 b4 (l := [k]) k (h.nob f) rfl).mono fun e w' ⟨g, e2, h2, f2, _⟩ => ⟨_, _, e2, Lib.hid (rds_one h2.out), f2⟩

set_option maxRecDepth 100000 in
theorem same_touch {W : World} (n2 : Int) (b4 : Bool) (k : ByteArray) {v : Value} (h : RdS W v [k]) (hs : k.size ≤ 9223372036854775807) (hU : U8 W) : Same W ⟨#[116, 111, 117, 99, 104]⟩ ⟨#[]⟩ ⟨#[]⟩ v 0 n2 0 0 false false false b4 [k] (keyB k) (⟨#[116, 111, 117, 99, 104]⟩) where
  rd := h
  len := by simp
  good := fun W' f => good_touch ⟨#[]⟩ ⟨#[]⟩ v 0 n2 0 0 false false false b4 (l := [k]) k (h.nob f) rfl hs (hU.fr f)
  good' := fun W' v' f r => by
    have c := good18_touch ⟨#[]⟩ ⟨#[]⟩ v' 0 n2 0 0 false false false b4 r (by simp) (by intro x hx; rw [List.mem_singleton.1 hx]; exact hs)
    have e : (keyB k) = _ := (by rw [badKey_one]; cases keyB k <;> rfl : (keyB k) = (!badKey [k] && (true)))
    rw [e]
    exact c
  quiet := fun W' f => quietF_touch ⟨#[]⟩ ⟨#[]⟩ v 0 n2 0 0 false false false b4 (l := [k]) k (h.nob f) rfl
  name := fun W' f => nameF_touch ⟨#[]⟩ ⟨#[]⟩ v 0 n2 0 0 false false false b4 (l := [k]) k (h.nob f) rfl
  name' := fun W' v' f r => name18_touch ⟨#[]⟩ ⟨#[]⟩ v' 0 n2 0 0 false false false b4 r.sl
  keys := fun W' f => (keysF_touch ⟨#[]⟩ ⟨#[]⟩ v 0 n2 0 0 false false false b4 (l := [k]) k (h.nob f) rfl).mono fun e w' ⟨g, e2, h2, f2, _⟩ => ⟨_, _, e2, Lib.hid (rds_one h2.out), f2⟩

set_option maxRecDepth 100000 in
theorem same_delete {W : World} (b4 : Bool) (k : ByteArray) {v : Value} (h : RdS W v [k]) (hs : k.size ≤ 9223372036854775807) (hU : U8 W) : Same W ⟨#[100, 101, 108, 101, 116, 101]⟩ ⟨#[]⟩ ⟨#[]⟩ v 0 0 0 0 false false false b4 [k] (keyB k) (⟨#[100, 101, 108, 101, 116, 101]⟩) where
  rd := h
  len := by simp
  good := fun W' f => good_delete ⟨#[]⟩ ⟨#[]⟩ v 0 0 0 0 false false false b4 (l := [k]) k (h.nob f) rfl hs (hU.fr f)
  good' := fun W' v' f r => by
    have c := good18_delete ⟨#[]⟩ ⟨#[]⟩ v' 0 0 0 0 false false false b4 r (by simp) (by intro x hx; rw [List.mem_singleton.1 hx]; exact hs)
    have e : (keyB k) = _ := (by rw [badKey_one]; cases keyB k <;> rfl : (keyB k) = (!badKey [k] && (true)))
    rw [e]
    exact c
  quiet := fun W' f => quietF_delete ⟨#[]⟩ ⟨#[]⟩ v 0 0 0 0 false false false b4 (l := [k]) k (h.nob f) rfl
  name := fun W' f => nameF_delete ⟨#[]⟩ ⟨#[]⟩ v 0 0 0 0 false false false b4 (l := [k]) k (h.nob f) rfl
  name' := fun W' v' f r => name18_delete ⟨#[]⟩ ⟨#[]⟩ v' 0 0 0 0 false false false b4 r.sl
  keys := fun W' f => (keysF_delete ⟨#[]⟩ ⟨#[]⟩ v 0 0 0 0 false false false b4 (l := [k]) k (h.nob f) rfl).mono fun e w' ⟨g, e2, h2, f2, _⟩ => ⟨_, _, e2, Lib.hid (rds_one h2.out), f2⟩

set_option maxRecDepth 100000 in
theorem same_flush {W : World} (b4 : Bool) {v : Value} (h : RdS W v []) : Same W ⟨#[102, 108, 117, 115, 104]⟩ ⟨#[]⟩ ⟨#[]⟩ v 0 0 0 0 false false false b4 [] (true) (⟨#[102, 108, 117, 115, 104, 95, 97, 108, 108]⟩) where
  rd := h
  len := by simp
  good := fun W' f => good_flush ⟨#[]⟩ ⟨#[]⟩ v 0 0 0 0 false false false b4
  good' := fun W' v' f r => by
    have c := good18_flush ⟨#[]⟩ ⟨#[]⟩ v' 0 0 0 0 false false false b4 r (by simp) (by simp)
    have e : (true) = _ := (rfl : (true) = (!badKey [] && (true)))
    rw [e]
    exact c
  quiet := fun W' f => quietF_flush ⟨#[]⟩ ⟨#[]⟩ v 0 0 0 0 false false false b4
  name := fun W' f => nameF_flush ⟨#[]⟩ ⟨#[]⟩ v 0 0 0 0 false false false b4
  name' := fun W' v' f r => name18_flush ⟨#[]⟩ ⟨#[]⟩ v' 0 0 0 0 false false false b4 r.sl
  keys := fun W' f => (keysF_flush ⟨#[]⟩ ⟨#[]⟩ v 0 0 0 0 false false false b4).mono fun e w' ⟨e2, f2⟩ => ⟨_, _, e2, Lib.hid (RdS.nil _), Lib.hid f2⟩

set_option maxRecDepth 100000 in
theorem same_bad {W : World} (b : ByteArray) {v : Value} (h : RdS W v []) : Same W ⟨#[98, 97, 100]⟩ b ⟨#[]⟩ v 0 0 0 0 false false false false [] (false) (⟨#[98, 97, 100]⟩) where
  rd := h
  len := by simp
  good := fun W' f => good_bad b ⟨#[]⟩ v 0 0 0 0 false false false false
  good' := fun W' v' f r => by
    have c := good18_bad b ⟨#[]⟩ v' 0 0 0 0 false false false false r (by simp) (by simp)
    have e : (false) = _ := (rfl : (false) = (!badKey [] && (false)))
    rw [e]
    exact c
  quiet := fun W' f => quietF_bad b ⟨#[]⟩ v 0 0 0 0 false false false false
  name := fun W' f => nameF_bad b ⟨#[]⟩ v 0 0 0 0 false false false false
  name' := fun W' v' f r => name18_bad b ⟨#[]⟩ v' 0 0 0 0 false false false false r.sl
  keys := fun W' f => (keysF_bad b ⟨#[]⟩ v 0 0 0 0 false false false false).mono fun e w' ⟨e2, f2⟩ => ⟨_, _, e2, Lib.hid (RdS.nil _), Lib.hid f2⟩

set_option maxRecDepth 100000 in
theorem same_word {W : World} (b : ByteArray) {v : Value} (h : RdS W v []) : Same W ⟨#[119, 111, 114, 100]⟩ b ⟨#[]⟩ v 0 0 0 0 false false false false [] (decide (b = ⟨#[118, 101, 114, 115, 105, 111, 110]⟩) || decide (b = ⟨#[113, 117, 105, 116]⟩)) (b) where
  rd := h
  len := by simp
  good := fun W' f => good_word b ⟨#[]⟩ v 0 0 0 0 false false false false
  good' := fun W' v' f r => by
    have c := good18_word b ⟨#[]⟩ v' 0 0 0 0 false false false false r (by simp) (by simp)
    have e : (decide (b = ⟨#[118, 101, 114, 115, 105, 111, 110]⟩) || decide (b = ⟨#[113, 117, 105, 116]⟩)) = _ := (by simp [badKey] : (decide (b = ⟨#[118, 101, 114, 115, 105, 111, 110]⟩) || decide (b = ⟨#[113, 117, 105, 116]⟩)) = (!badKey [] && (decide (b = ⟨#[118, 101, 114, 115, 105, 111, 110]⟩) || decide (b = ⟨#[113, 117, 105, 116]⟩))))
    rw [e]
    exact c
  quiet := fun W' f => quietF_word b ⟨#[]⟩ v 0 0 0 0 false false false false
  name := fun W' f => nameF_word b ⟨#[]⟩ v 0 0 0 0 false false false false
  name' := fun W' v' f r => name18_word b ⟨#[]⟩ v' 0 0 0 0 false false false false r.sl
  keys := fun W' f => (keysF_word b ⟨#[]⟩ v 0 0 0 0 false false false false).mono fun e w' ⟨e2, f2⟩ => ⟨_, _, e2, Lib.hid (RdS.nil _), Lib.hid f2⟩

set_option maxRecDepth 100000 in
theorem same_none {W : World}  {v : Value} (h : RdS W v []) : Same W ⟨#[]⟩ ⟨#[]⟩ ⟨#[]⟩ v 0 0 0 0 false false false false [] (false) (⟨#[]⟩) where
  rd := h
  len := by simp
  good := fun W' f => good_none ⟨#[]⟩ ⟨#[]⟩ ⟨#[]⟩ v 0 0 0 0 false false false false none_empty
  good' := fun W' v' f r => good18_none v' (by obtain ⟨A, c, e, _⟩ := r; exact ⟨A, c, e⟩)
  quiet := fun W' f => quietF_none ⟨#[]⟩ ⟨#[]⟩ ⟨#[]⟩ v 0 0 0 0 false false false false none_empty
  name := fun W' f => nameF_none ⟨#[]⟩ ⟨#[]⟩ ⟨#[]⟩ v 0 0 0 0 false false false false none_empty
  name' := fun W' v' f r => name18_none v' r.sl
  keys := fun W' f => (keysF_none ⟨#[]⟩ ⟨#[]⟩ ⟨#[]⟩ v 0 0 0 0 false false false false none_empty).mono fun e w' ⟨e2, f2⟩ => ⟨_, _, e2, Lib.hid (RdS.nil _), Lib.hid f2⟩
end Go.Proofs.YthfhlbnjahakaaaDoor
