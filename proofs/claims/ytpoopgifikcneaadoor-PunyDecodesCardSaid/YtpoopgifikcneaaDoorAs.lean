/- errors.As at an error of this program (a number, wrapped by any number of calls) and a number's variable as target: true, and the variable has the number; fail.Code. What is assumed: that errors.errorType is laid. -/
import Derived.Test.YtpoopgifikcneaaDoorErrs
set_option linter.unusedVariables false
set_option linter.unusedSimpArgs false
namespace Go.Proofs.YtpoopgifikcneaaDoor
open Go.RowKit Go.Stop Go.Extern

theorem asNo (v : Value) (xT : TypeId) (w : World) : (Instr.typeAssert (.iface 192 v) xT 220 true).run Tryd.prog w = .ok (.tuple #[.nilIface, .bool false]) w := run_typeAssert_lacksB Tryd.underlying220 (by kernel_rfl) (by kernel_rfl) v xT w
theorem asTypeW (v : Value) (w : World) : (ReflectliteType.typeOf #[.iface 192 v]).run Tryd.prog w = .ok (.iface 199 (.agg #[.pointer (some ⟨5, 192, none⟩)])) w := by kernel_rfl
theorem asAssignW (w : World) : (ReflectliteType.relation "AssignableTo" ReflectliteType.assignableTo #[.agg #[.pointer (some ⟨5, 192, none⟩)], .iface 199 (.agg #[.pointer (some ⟨5, 75, none⟩)])]).run Tryd.prog w = .ok (.bool false) w := by kernel_rfl
theorem asAssignE (w : World) : (ReflectliteType.relation "AssignableTo" ReflectliteType.assignableTo #[.agg #[.pointer (some ⟨5, 75, none⟩)], .iface 199 (.agg #[.pointer (some ⟨5, 75, none⟩)])]).run Tryd.prog w = .ok (.bool true) w := by kernel_rfl
theorem asMethodAssign (h : Value) (w : World) : (Go.method 371 199 (.agg #[h]) "AssignableTo").run Tryd.prog w = .ok (190, .agg #[h]) w := by kernel_rfl
theorem asMethodElem (h : Value) (w : World) : (Go.method 371 199 (.agg #[h]) "Elem").run Tryd.prog w = .ok (192, .agg #[h]) w := by kernel_rfl
theorem asMethodImplements (h : Value) (w : World) : (Go.method 371 199 (.agg #[h]) "Implements").run Tryd.prog w = .ok (193, .agg #[h]) w := by kernel_rfl
theorem asMethodKind (h : Value) (w : World) : (Go.method 371 199 (.agg #[h]) "Kind").run Tryd.prog w = .ok (178, h) w := by kernel_rfl
theorem asValueT (t : Addr) (w : World) : (ReflectliteValue.unpack (.iface 142 (.pointer (some t)))).run Tryd.prog w
    = .ok (.agg #[.pointer (some ⟨5, 142, none⟩), .pointer (some ⟨w.heap.size, 0, none⟩), .int .u64 150]) (w.alloc (.cells #[.pointer (some t)] 142)) := by kernel_rfl
theorem asValueE (c : Int) (w : World) : (ReflectliteValue.unpack (.iface 75 (.int .i64 c))).run Tryd.prog w
    = .ok (.agg #[.pointer (some ⟨5, 75, none⟩), .pointer (some ⟨w.heap.size, 0, none⟩), .int .u64 130]) (w.alloc (.cells #[.int .i64 c] 75)) := by kernel_rfl
theorem asTypeT (a : Addr) (w : World) : (ReflectliteValue.methodAny (ReflectliteValue.valueError "reflectlite.Value.Type" 0) (fun t _ _ _ => ReflectliteType.toType t) #[.agg #[.pointer (some ⟨5, 142, none⟩), .pointer (some a), .int .u64 150]]).run Tryd.prog w
    = .ok (.iface 199 (.agg #[.pointer (some ⟨5, 142, none⟩)])) w := by kernel_rfl
theorem asKindT (w : World) : ((ReflectliteType.abiMethod fun t => (fun a : Nat => Value.int IntKind.u8 (a : Int)) <$> Rtype.kind t) #[.pointer (some ⟨5, 142, none⟩)]).run Tryd.prog w = .ok (.int .u8 22) w := by kernel_rfl
theorem asKindE (w : World) : ((ReflectliteType.abiMethod fun t => (fun a : Nat => Value.int IntKind.u8 (a : Int)) <$> Rtype.kind t) #[.pointer (some ⟨5, 75, none⟩)]).run Tryd.prog w = .ok (.int .u8 2) w := by kernel_rfl
theorem asElem (w : World) : (ReflectliteType.method ReflectliteType.elem #[.agg #[.pointer (some ⟨5, 142, none⟩)]]).run Tryd.prog w = .ok (.iface 199 (.agg #[.pointer (some ⟨5, 75, none⟩)])) w := by kernel_rfl
theorem asImplements (w : World) : (ReflectliteType.relation "Implements" ReflectliteType.implements_ #[.agg #[.pointer (some ⟨5, 75, none⟩)], .iface 199 (.agg #[.pointer (some ⟨5, 56, none⟩)])]).run Tryd.prog w = .ok (.bool true) w := by kernel_rfl

theorem rlm (z : Sem Value) (f : TypeId → Addr → Nat → Nat → Sem Value) (v : Value) :
    ReflectliteValue.method z f #[v] = (do match ← ReflectliteValue.parts v with | none => z | some (t, a, fl) => f t a fl (fl % 32)) := rfl
theorem asParts (a : Addr) (w : World) : (ReflectliteValue.parts (.agg #[.pointer (some ⟨5, 142, none⟩), .pointer (some a), .int .u64 150])).run Tryd.prog w = .ok (some (142, a, 150)) w := by kernel_rfl
theorem asIsNil (a p : Addr) (W : World) (ha : W.cell? a = some (.pointer (some p))) :
    (ReflectliteValue.method (ReflectliteValue.valueError "reflectlite.Value.IsNil" 0) ReflectliteValue.isNil #[.agg #[.pointer (some ⟨5, 142, none⟩), .pointer (some a), .int .u64 150]]).run Tryd.prog W = .ok (.bool false) W := by
  rw [rlm]
  simp only [Sem.run_bind, asParts, Result.andThen]
  simp [ReflectliteValue.isNil, loadVar, isAgg, underlying, Tryd.underlying142, ha, Result.andThen]
theorem asElemOf (w : World) : (Rtype.elem? 142).run Tryd.prog w = .ok (some 75) w := by kernel_rfl
theorem asMk (p : Addr) (w : World) : (ReflectliteValue.mk 75 p ReflectliteValue.flagAddr).run Tryd.prog w = .ok (.agg #[.pointer (some ⟨5, 75, none⟩), .pointer (some p), .int .u64 386]) w := by kernel_rfl
theorem asElemV (a p : Addr) (W : World) (ha : W.cell? a = some (.pointer (some p))) :
    (ReflectliteValue.method (ReflectliteValue.valueError "reflectlite.Value.Elem" 0) ReflectliteValue.elem #[.agg #[.pointer (some ⟨5, 142, none⟩), .pointer (some a), .int .u64 150]]).run Tryd.prog W
      = .ok (.agg #[.pointer (some ⟨5, 75, none⟩), .pointer (some p), .int .u64 386]) W := by
  rw [rlm]
  simp only [Sem.run_bind, asParts, Result.andThen]
  simp [ReflectliteValue.elem, loadVar, isAgg, underlying, Tryd.underlying142, ha, Result.andThen, asElemOf, asMk]
theorem rls (v x : Value) : ReflectliteValue.set #[v, x] = (do
    let (some (dst, a, fl), some (src, b, _)) := (← ReflectliteValue.parts v, ← ReflectliteValue.parts x)
      | unsupported (.noEntry "extern/(internal/reflectlite.Value).Set.zeroValue")
    if fl / ReflectliteValue.flagAddr % 2 == 0 then unsupported (.noEntry "extern/(internal/reflectlite.Value).Set.unaddressable")
    let val ← loadVar src b
    if ← Rtype.directlyAssignable dst src then storeVar dst a val
    else if ← Rtype.implements dst src then
      if (← Rtype.kind src) == 20 then
        match val with
        | .nilIface => unsupported (.noEntry "extern/reflectlite: a nil value of one interface type handed on as a value of another")
        | _ => storeVar dst a val
      else storeVar dst a (.iface src val)
    else panicString ("reflectlite.Set: value of type " ++ (← Rtype.spelt src) ++ " is not assignable to type " ++ (← Rtype.spelt dst))
    pure (.tuple #[])) := rfl
theorem asPartsA (a : Addr) (w : World) : (ReflectliteValue.parts (.agg #[.pointer (some ⟨5, 75, none⟩), .pointer (some a), .int .u64 386])).run Tryd.prog w = .ok (some (75, a, 386)) w := by kernel_rfl
theorem asPartsB (a : Addr) (w : World) : (ReflectliteValue.parts (.agg #[.pointer (some ⟨5, 75, none⟩), .pointer (some a), .int .u64 130])).run Tryd.prog w = .ok (some (75, a, 130)) w := by kernel_rfl
theorem asDirect (w : World) : (Rtype.directlyAssignable 75 75).run Tryd.prog w = .ok true w := by kernel_rfl
theorem asSet (ta b : Addr) (c : Int) (old : Value) (W : World) (hb : W.cell? b = some (.int .i64 c)) (ht : W.cell? ta = some old) (hf : W.frozen? ta = false) :
    (ReflectliteValue.set #[.agg #[.pointer (some ⟨5, 75, none⟩), .pointer (some ta), .int .u64 386], .agg #[.pointer (some ⟨5, 75, none⟩), .pointer (some b), .int .u64 130]]).run Tryd.prog W
      = .ok (.tuple #[]) (W.setCell ta (.int .i64 c)) := by
  rw [rls]
  simp only [Sem.run_bind, asPartsA, asPartsB, Result.andThen]
  simp [ReflectliteValue.flagAddr, loadVar, isAgg, underlying, Tryd.underlying75, hb, Result.andThen, asDirect, storeVar, Value.cells, storeCells, Addr.add]
  rw [run_store Tryd.prog W ta _ _ (by rfl)]
  simp [ht, hf]

set_option maxHeartbeats 4000000 in
set_option maxRecDepth 1000000 in
theorem as_any (d : Nat) (c : Int) (v : Value) (t a : Addr) (old : Value) (W : World) (h : IsErr d c v W) (ha : W.cell? a = some (.pointer (some t))) (ht : W.cell? t = some old) (hf : W.frozen? t = false) :
    Calls Tryd.prog 114 #[v, .iface 142 (.pointer (some t)), .agg #[.pointer (some ⟨5, 142, none⟩), .pointer (some a), .int .u64 150], .iface 199 (.agg #[.pointer (some ⟨5, 75, none⟩)])] W
      fun e w' => e = .returned (.bool true) ∧ Below t.block W w' ∧ w'.cell? t = some (.int .i64 c) := by
  have hTo := @run_callFunc_extern Tryd.prog 88 _ ReflectliteType.typeOf Tryd.func88 (by kernel_rfl) (by kernel_rfl) (by kernel_rfl) (by kernel_rfl)
  have hAs := @run_callFunc_extern Tryd.prog 190 _ (ReflectliteType.relation "AssignableTo" ReflectliteType.assignableTo) Tryd.func190 (by kernel_rfl) (by kernel_rfl) (by kernel_rfl) (by kernel_rfl)
  have hEl := @run_callFunc_extern Tryd.prog 137 _ (ReflectliteValue.method (ReflectliteValue.valueError "reflectlite.Value.Elem" 0) ReflectliteValue.elem) Tryd.func137 (by kernel_rfl) (by kernel_rfl) (by kernel_rfl) (by kernel_rfl)
  have hVo := @run_callFunc_extern Tryd.prog 111 _ (fun args => ReflectliteValue.unpack (args.getD 0 (.tuple #[]))) Tryd.func111 (by kernel_rfl) (by kernel_rfl) (by kernel_rfl) (by kernel_rfl)
  have hSe := @run_callFunc_extern Tryd.prog 138 _ ReflectliteValue.set Tryd.func138 (by kernel_rfl) (by kernel_rfl) (by kernel_rfl) (by kernel_rfl)
  have tE := isTypeOf
  have tW := asTypeW
  have aW := asAssignW
  have aE := asAssignE
  have mA := asMethodAssign
  have nW := asNo
  have uW := hasUnwrapW
  have mU := methodUnwrap
  have vE := asValueE
  have hal : a.block < W.heap.size := World.block_lt_of_cell? W _ ha
  have el := asElemV a t (W.alloc (.cells #[.pointer (some ⟨5, 142, none⟩), .pointer (some a), .int .u64 150] 178)) (by rw [World.cell?_alloc_lt _ _ a hal]; exact ha)
  have htl : t.block < W.heap.size := World.block_lt_of_cell? W _ ht
  have htl2 : t.block < (W.alloc (.cells #[.pointer (some ⟨5, 142, none⟩), .pointer (some a), .int .u64 150] 178)).heap.size := by simp; omega
  have ht2 : (W.alloc (.cells #[.pointer (some ⟨5, 142, none⟩), .pointer (some a), .int .u64 150] 178)).cell? t = some old := by rw [World.cell?_alloc_lt _ _ t htl]; exact ht
  have hf2 : (W.alloc (.cells #[.pointer (some ⟨5, 142, none⟩), .pointer (some a), .int .u64 150] 178)).frozen? t = false := by rw [World.frozen?_alloc_old _ _ t (Nat.ne_of_lt htl)]; exact hf
  have st := asSet t ⟨(W.alloc (.cells #[.pointer (some ⟨5, 142, none⟩), .pointer (some a), .int .u64 150] 178)).heap.size, 0, none⟩ c old ((W.alloc (.cells #[.pointer (some ⟨5, 142, none⟩), .pointer (some a), .int .u64 150] 178)).alloc (.cells #[.int .i64 c] 75))
    (by rw [World.cell?_alloc_at _ _ _ _ (by simp)]; rfl)
    (by rw [World.cell?_alloc_lt _ _ t htl2]; exact ht2)
    (by rw [World.frozen?_alloc_old _ _ t (Nat.ne_of_lt htl2)]; exact hf2)
  have HP := Lib.hid (show Below t.block W (((W.alloc (.cells #[.pointer (some ⟨5, 142, none⟩), .pointer (some a), .int .u64 150] 178)).alloc (.cells #[.int .i64 c] 75)).setCell t (.int .i64 c)) ∧ (((W.alloc (.cells #[.pointer (some ⟨5, 142, none⟩), .pointer (some a), .int .u64 150] 178)).alloc (.cells #[.int .i64 c] 75)).setCell t (.int .i64 c)).cell? t = some (.int .i64 c) from
    ⟨(((Below.refl _ _).alloc (by omega) _).alloc (by simp; omega) _).setCell (Nat.le_refl _) _, World.cell?_setCell_same _ _ _ (by rw [World.cell?_alloc_lt _ _ t htl2]; exact ht2)⟩)
  simp only [World.size_alloc] at st
  have H2 := Lib.hid (h.below (w' := W.alloc (.cells #[.pointer (some ⟨5, 142, none⟩), .pointer (some a), .int .u64 150] 178)) ((Below.refl _ _).alloc (Nat.le_refl _) _) d v)
  clear ht2 hf2 htl2
  have HT := Lib.hid ht
  have HF := Lib.hid hf
  have HA := Lib.hid ha
  have H0 := Lib.hid h
  clear h ht hf ha
  go_enter Tryd.func114, Tryd.ntmps114
  go_wp2
  go_loopw [0] (fun E' wl => W.alloc (.cells #[.pointer (some ⟨5, 142, none⟩), .pointer (some a), .int .u64 150] 178) = wl ∧ ∃ d', Hid (IsErr d' c E' wl)) (fun E' wl => errDepth wl E')
  case atStart => exact ⟨rfl, d, H2.out⟩
  case round =>
    obtain ⟨rfl, d', hc'⟩ := hrel
    cases d' with
    | zero =>
      obtain rfl := hc'.out
      go_wp2
      go_ret
      exact ⟨rfl, HP.out⟩
    | succ d' =>
      obtain ⟨g, s, u, rfl, hg, hu⟩ := hc'.out
      obtain ⟨t1, v1, rfl⟩ := hu.iface
      have hlen := Lib.hid (errDepth_eq hu)
      have hlen0 := Lib.hid (errDepth_eq hc'.out)
      have HU := Lib.hid hu
      have HG := Lib.hid hg
      clear hu hg
      go_wp2_with fail
      refine (unwrap_any g s _ _ HG.out).mono ?_
      rintro e w' ⟨rfl, rfl⟩
      go_wp2
      go_roundw
      case rel => first | exact ⟨rfl, d', HU.out⟩ | exact ⟨trivial, d', HU.out⟩
      case measure =>
        show errDepth (W.alloc (.cells #[.pointer (some ⟨5, 142, none⟩), .pointer (some a), .int .u64 150] 178)) (.iface t1 v1) < _
        rw [hlen.out, hlen0.out]; omega

/-- That errors.errorType is laid. -/
def Laid (w : World) : Prop := w.cell? ⟨0, 0, none⟩ = some (.iface 199 (.agg #[.pointer (some ⟨5, 56, none⟩)]))
theorem Laid.below {w w' : World} (h : Laid w) (hb : Below w.heap.size w w') : Laid w' := (hb.cell (World.block_lt_of_cell? w _ h)).trans h

set_option maxHeartbeats 4000000 in
set_option maxRecDepth 1000000 in
theorem errorsAs_any (d : Nat) (c : Int) (v : Value) (t : Addr) (old : Value) (w : World) (hg : Laid w) (h : IsErr d c v w) (ht : w.cell? t = some old) (hf : w.frozen? t = false) :
    Calls Tryd.prog 75 #[v, .iface 142 (.pointer (some t))] w fun e w' => e = .returned (.bool true) ∧ Below t.block w w' ∧ w'.cell? t = some (.int .i64 c) := by
  have hVo := @run_callFunc_extern Tryd.prog 111 _ (fun args => ReflectliteValue.unpack (args.getD 0 (.tuple #[]))) Tryd.func111 (by kernel_rfl) (by kernel_rfl) (by kernel_rfl) (by kernel_rfl)
  have hTy := @run_callFunc_extern Tryd.prog 112 _ (ReflectliteValue.methodAny (ReflectliteValue.valueError "reflectlite.Value.Type" 0) (fun t _ _ _ => ReflectliteType.toType t)) Tryd.func112 (by kernel_rfl) (by kernel_rfl) (by kernel_rfl) (by kernel_rfl)
  have hNi := @run_callFunc_extern Tryd.prog 113 _ (ReflectliteValue.method (ReflectliteValue.valueError "reflectlite.Value.IsNil" 0) ReflectliteValue.isNil) Tryd.func113 (by kernel_rfl) (by kernel_rfl) (by kernel_rfl) (by kernel_rfl)
  have hKi := @run_callFunc_extern Tryd.prog 178 _ (ReflectliteType.abiMethod fun t => do pure (.int .u8 (← Rtype.kind t))) Tryd.func178 (by kernel_rfl) (by kernel_rfl) (by kernel_rfl) (by kernel_rfl)
  have hEl := @run_callFunc_extern Tryd.prog 192 _ (ReflectliteType.method ReflectliteType.elem) Tryd.func192 (by kernel_rfl) (by kernel_rfl) (by kernel_rfl) (by kernel_rfl)
  have hIm := @run_callFunc_extern Tryd.prog 193 _ (ReflectliteType.relation "Implements" ReflectliteType.implements_) Tryd.func193 (by kernel_rfl) (by kernel_rfl) (by kernel_rfl) (by kernel_rfl)
  have f6 := asValueT
  have f7 := asTypeT
  have mK := asMethodKind
  have mE := asMethodElem
  have mI := asMethodImplements
  have kT := asKindT
  have kE := asKindE
  have eT := asElem
  have iE := asImplements
  have htl : t.block < w.heap.size := World.block_lt_of_cell? w _ ht
  have hlt : 0 < w.heap.size := World.block_lt_of_cell? w _ hg
  obtain ⟨t1, v1, rfl⟩ := h.iface
  have n8 := asIsNil ⟨w.heap.size, 0, none⟩ t ((w.alloc (.cells #[.pointer (some t)] 142)).alloc (.cells #[.pointer (some ⟨5, 142, none⟩), .pointer (some ⟨w.heap.size, 0, none⟩), .int .u64 150] 178)) (by simp)
  have hg2 : ((w.alloc (.cells #[.pointer (some t)] 142)).alloc (.cells #[.pointer (some ⟨5, 142, none⟩), .pointer (some ⟨w.heap.size, 0, none⟩), .int .u64 150] 178)).cell? ⟨0, 0, none⟩ = some (.iface 199 (.agg #[.pointer (some ⟨5, 56, none⟩)])) := by
    rw [World.cell?_alloc_lt _ _ ⟨0, 0, none⟩ (by simp), World.cell?_alloc_lt _ _ ⟨0, 0, none⟩ hlt]; exact hg
  have HT := Lib.hid ht
  have HF := Lib.hid hf
  have H0 := Lib.hid h
  clear h ht hf hg
  go_enter Tryd.func75, Tryd.ntmps75
  go_wp2_with (go_at_call 114; done)
  have hb2 : Below w.heap.size w ((w.alloc (.cells #[.pointer (some t)] 142)).alloc (.cells #[.pointer (some ⟨5, 142, none⟩), .pointer (some ⟨w.heap.size, 0, none⟩), .int .u64 150] 178)) := ((Below.refl _ _).alloc (Nat.le_refl _) _).alloc (by simp) _
  have hb3 : Below t.block w ((w.alloc (.cells #[.pointer (some t)] 142)).alloc (.cells #[.pointer (some ⟨5, 142, none⟩), .pointer (some ⟨w.heap.size, 0, none⟩), .int .u64 150] 178)) := hb2.mono (Nat.le_of_lt htl)
  refine (as_any d c _ t ⟨w.heap.size, 0, none⟩ old ((w.alloc (.cells #[.pointer (some t)] 142)).alloc (.cells #[.pointer (some ⟨5, 142, none⟩), .pointer (some ⟨w.heap.size, 0, none⟩), .int .u64 150] 178)) (IsErr.below hb2 d _ H0.out) (by simp) ((hb2.cell htl).trans HT.out) ((hb2.frozen htl).trans HF.out)).mono ?_
  rintro e w' ⟨rfl, hb, hcell⟩
  go_wp2
  go_ret
  exact ⟨rfl, hb3.trans hb, hcell⟩

set_option maxHeartbeats 1000000 in
set_option maxRecDepth 100000 in
theorem code_nil (w : World) :
    Calls Tryd.prog 34 #[.nilIface] w fun e w' => e = .returned (.int .i64 0) ∧ Below w.heap.size w w' := by
  go_enter Tryd.func34, Tryd.ntmps34
  go_wp2
  go_ret
  exact ⟨rfl, by repeat (first | exact Below.refl _ _ | (refine Below.alloc ?_ (by simp) _) | apply Below.drew)⟩

set_option maxHeartbeats 1000000 in
set_option maxRecDepth 100000 in
theorem code_any (d : Nat) (c : Int) (v : Value) (w : World) (hg : Laid w) (h : IsErr d c v w) :
    Calls Tryd.prog 34 #[v] w fun e w' => e = .returned (.int .i64 c) ∧ Below w.heap.size w w' := by
  obtain ⟨t1, v1, rfl⟩ := h.iface
  have hb : ∀ o, Below w.heap.size w (w.alloc o) := fun o => (Below.refl _ _).alloc (Nat.le_refl _) o
  have HG := Lib.hid hg
  have H0 := Lib.hid h
  clear h hg
  go_enter Tryd.func34, Tryd.ntmps34
  go_wp2_with (go_at_call 75; done)
  refine (errorsAs_any d c _ ⟨w.heap.size, 0, none⟩ (.int .i64 0) _ (HG.out.below (hb _)) (IsErr.below (hb _) d _ H0.out) (by simp) (by simp)).mono ?_
  rintro e w' ⟨rfl, hb2, hcell⟩
  go_wp2
  go_ret
  exact ⟨rfl, (hb _).trans hb2⟩

end Go.Proofs.YtpoopgifikcneaaDoor
