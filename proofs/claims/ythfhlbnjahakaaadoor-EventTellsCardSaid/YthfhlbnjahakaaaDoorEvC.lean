/-
  event: type assertions (written by gen/evta.py).
-/
import Derived.Test.YthfhlbnjahakaaaDoorEvB
namespace Go.Proofs.YthfhlbnjahakaaaDoor
open Go.RowKit

theorem run_ta {P : Program} {T X : TypeId} {fs : Array Field} {z : Value} (hu : P.underlying T = some (.struct fs)) (hz : ∀ w, (zeroValue T).run P w = .ok z w) (t : TypeId) (v : Value) (w : World) :
    (Instr.typeAssert (.iface t v) X T true).run P w = .ok (if t = T then .tuple #[v, .bool true] else .tuple #[z, .bool false]) w := by
  unfold Instr.typeAssert
  simp only [Sem.run_bind, run_underlying hu, Result.andThen_ok]
  by_cases h : t = T
  · simp [h]
  · simp [h, hz w]
theorem run_tn {P : Program} {T X : TypeId} {fs : Array Field} {z : Value} (hu : P.underlying T = some (.struct fs)) (hz : ∀ w, (zeroValue T).run P w = .ok z w) (w : World) :
    (Instr.typeAssert .nilIface X T true).run P w = .ok (.tuple #[z, .bool false]) w := by
  unfold Instr.typeAssert
  simp [Sem.run_bind, run_underlying hu, hz w]
theorem taGet : ∀ (t : TypeId) (v : Value) (w : World), (Instr.typeAssert (.iface t v) 20 43 true).run Tryd.prog w = .ok (if t = 43 then .tuple #[v, .bool true] else .tuple #[.agg #[.slice none 0 0, .bool false, .bool false, .int .i64 0], .bool false]) w :=
  run_ta Tryd.underlying43 (fun _ => Tryd.zeroValue43 ..)
theorem tnGet : ∀ (w : World), (Instr.typeAssert .nilIface 20 43 true).run Tryd.prog w = .ok (.tuple #[.agg #[.slice none 0 0, .bool false, .bool false, .int .i64 0], .bool false]) w :=
  run_tn Tryd.underlying43 (fun _ => Tryd.zeroValue43 ..)
theorem taStore : ∀ (t : TypeId) (v : Value) (w : World), (Instr.typeAssert (.iface t v) 20 47 true).run Tryd.prog w = .ok (if t = 47 then .tuple #[v, .bool true] else .tuple #[.agg #[.string ⟨#[]⟩, .string ⟨#[]⟩, .string ⟨#[]⟩, .int .u32 0, .int .i64 0, .int .u64 0, .bool false], .bool false]) w :=
  run_ta Tryd.underlying47 (fun _ => Tryd.zeroValue47 ..)
theorem tnStore : ∀ (w : World), (Instr.typeAssert .nilIface 20 47 true).run Tryd.prog w = .ok (.tuple #[.agg #[.string ⟨#[]⟩, .string ⟨#[]⟩, .string ⟨#[]⟩, .int .u32 0, .int .i64 0, .int .u64 0, .bool false], .bool false]) w :=
  run_tn Tryd.underlying47 (fun _ => Tryd.zeroValue47 ..)
theorem taArith : ∀ (t : TypeId) (v : Value) (w : World), (Instr.typeAssert (.iface t v) 20 50 true).run Tryd.prog w = .ok (if t = 50 then .tuple #[v, .bool true] else .tuple #[.agg #[.string ⟨#[]⟩, .int .u64 0, .bool false, .bool false], .bool false]) w :=
  run_ta Tryd.underlying50 (fun _ => Tryd.zeroValue50 ..)
theorem tnArith : ∀ (w : World), (Instr.typeAssert .nilIface 20 50 true).run Tryd.prog w = .ok (.tuple #[.agg #[.string ⟨#[]⟩, .int .u64 0, .bool false, .bool false], .bool false]) w :=
  run_tn Tryd.underlying50 (fun _ => Tryd.zeroValue50 ..)
theorem taTouch : ∀ (t : TypeId) (v : Value) (w : World), (Instr.typeAssert (.iface t v) 20 64 true).run Tryd.prog w = .ok (if t = 64 then .tuple #[v, .bool true] else .tuple #[.agg #[.string ⟨#[]⟩, .int .i64 0, .bool false], .bool false]) w :=
  run_ta Tryd.underlying64 (fun _ => Tryd.zeroValue64 ..)
theorem tnTouch : ∀ (w : World), (Instr.typeAssert .nilIface 20 64 true).run Tryd.prog w = .ok (.tuple #[.agg #[.string ⟨#[]⟩, .int .i64 0, .bool false], .bool false]) w :=
  run_tn Tryd.underlying64 (fun _ => Tryd.zeroValue64 ..)
theorem taDelete : ∀ (t : TypeId) (v : Value) (w : World), (Instr.typeAssert (.iface t v) 20 67 true).run Tryd.prog w = .ok (if t = 67 then .tuple #[v, .bool true] else .tuple #[.agg #[.string ⟨#[]⟩, .bool false], .bool false]) w :=
  run_ta Tryd.underlying67 (fun _ => Tryd.zeroValue67 ..)
theorem tnDelete : ∀ (w : World), (Instr.typeAssert .nilIface 20 67 true).run Tryd.prog w = .ok (.tuple #[.agg #[.string ⟨#[]⟩, .bool false], .bool false]) w :=
  run_tn Tryd.underlying67 (fun _ => Tryd.zeroValue67 ..)
theorem taFlush : ∀ (t : TypeId) (v : Value) (w : World), (Instr.typeAssert (.iface t v) 20 57 true).run Tryd.prog w = .ok (if t = 57 then .tuple #[v, .bool true] else .tuple #[.agg #[.bool false], .bool false]) w :=
  run_ta Tryd.underlying57 (fun _ => Tryd.zeroValue57 ..)
theorem tnFlush : ∀ (w : World), (Instr.typeAssert .nilIface 20 57 true).run Tryd.prog w = .ok (.tuple #[.agg #[.bool false], .bool false]) w :=
  run_tn Tryd.underlying57 (fun _ => Tryd.zeroValue57 ..)
theorem taBad : ∀ (t : TypeId) (v : Value) (w : World), (Instr.typeAssert (.iface t v) 20 72 true).run Tryd.prog w = .ok (if t = 72 then .tuple #[v, .bool true] else .tuple #[.agg #[.string ⟨#[]⟩], .bool false]) w :=
  run_ta Tryd.underlying72 (fun _ => Tryd.zeroValue72 ..)
theorem tnBad : ∀ (w : World), (Instr.typeAssert .nilIface 20 72 true).run Tryd.prog w = .ok (.tuple #[.agg #[.string ⟨#[]⟩], .bool false]) w :=
  run_tn Tryd.underlying72 (fun _ => Tryd.zeroValue72 ..)
theorem taWord : ∀ (t : TypeId) (v : Value) (w : World), (Instr.typeAssert (.iface t v) 20 53 true).run Tryd.prog w = .ok (if t = 53 then .tuple #[v, .bool true] else .tuple #[.agg #[.string ⟨#[]⟩], .bool false]) w :=
  run_ta Tryd.underlying53 (fun _ => Tryd.zeroValue53 ..)
theorem tnWord : ∀ (w : World), (Instr.typeAssert .nilIface 20 53 true).run Tryd.prog w = .ok (.tuple #[.agg #[.string ⟨#[]⟩], .bool false]) w :=
  run_tn Tryd.underlying53 (fun _ => Tryd.zeroValue53 ..)
end Go.Proofs.YthfhlbnjahakaaaDoor
