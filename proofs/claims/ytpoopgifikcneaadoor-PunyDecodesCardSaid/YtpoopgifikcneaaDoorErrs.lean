/- errors.Is at an error of this program (a number, wrapped by any number of calls) and a number as target: whether the numbers are the same; nothing is assumed beside. -/
import Derived.Test.YtpoopgifikcneaaDoorFail
import Derived.LaidEql
import Derived.Stop.Asserts
import Derived.Lib.IfaceEq
import Derived.RowKitTokens
set_option linter.unusedVariables false
set_option linter.unusedSimpArgs false
namespace Go.Proofs.YtpoopgifikcneaaDoor
open Go.RowKit Go.Stop Go.Extern

theorem isTypeOf (c : Int) (w : World) : (Extern.ReflectliteType.typeOf #[.iface 75 (.int .i64 c)]).run Tryd.prog w = .ok (.iface 199 (.agg #[.pointer (some ⟨5, 75, none⟩)])) w := by kernel_rfl
theorem isComparable (w : World) : ((Extern.ReflectliteType.method fun t => do Extern.Rtype.noPackHeld "Comparable" t; (fun a => Value.bool a.comparable) <$> typeInfo t) #[.agg #[.pointer (some ⟨5, 75, none⟩)]]).run Tryd.prog w = .ok (.bool true) w := by kernel_rfl
theorem isMethodComparable (v : Value) (w : World) : (Go.method 371 199 v "Comparable").run Tryd.prog w = .ok (191, v) w := by kernel_rfl
theorem isComp : (Tryd.prog.info? 75).map (·.comparable) = some true := by kernel_rfl
theorem noIsE (v : Value) (xT : TypeId) (w : World) : (Instr.typeAssert (.iface 75 v) xT 201 true).run Tryd.prog w = .ok (.tuple #[.nilIface, .bool false]) w := run_typeAssert_lacksB Tryd.underlying201 (by kernel_rfl) (by kernel_rfl) v xT w
theorem noUnwrapE (v : Value) (xT : TypeId) (w : World) : (Instr.typeAssert (.iface 75 v) xT 204 true).run Tryd.prog w = .ok (.tuple #[.nilIface, .bool false]) w := run_typeAssert_lacksB Tryd.underlying204 (by kernel_rfl) (by kernel_rfl) v xT w
theorem noUnwrapsE (v : Value) (xT : TypeId) (w : World) : (Instr.typeAssert (.iface 75 v) xT 205 true).run Tryd.prog w = .ok (.tuple #[.nilIface, .bool false]) w := run_typeAssert_lacksB Tryd.underlying205 (by kernel_rfl) (by kernel_rfl) v xT w
theorem noIsW (v : Value) (xT : TypeId) (w : World) : (Instr.typeAssert (.iface 192 v) xT 201 true).run Tryd.prog w = .ok (.tuple #[.nilIface, .bool false]) w := run_typeAssert_lacksB Tryd.underlying201 (by kernel_rfl) (by kernel_rfl) v xT w
theorem hasUnwrapW (v : Value) (xT : TypeId) (w : World) : (Instr.typeAssert (.iface 192 v) xT 204 true).run Tryd.prog w = .ok (.tuple #[.iface 192 v, .bool true]) w := run_typeAssert_hasB Tryd.underlying204 (by kernel_rfl) v xT w
theorem methodUnwrap (v : Value) (w : World) : (Go.method 371 192 v "Unwrap").run Tryd.prog w = .ok (188, v) w := by kernel_rfl

/-- An error: a number, wrapped so often. -/
def IsErr : Nat → Int → Value → World → Prop
  | 0, c, v, _ => v = .iface 75 (.int .i64 c)
  | d + 1, c, v, w => ∃ g s u, v = .iface 192 (.pointer (some ⟨g, 0, none⟩)) ∧ w.heap[g]? = some (.cells #[.string s, u] 194 (0, 0)) ∧ IsErr d c u w
theorem IsErr.of_fail {c : Int} {v : Value} {w : World} (h : IsFail c v w) : IsErr 1 c v w := by
  obtain ⟨g, s, hv, hg⟩ := h
  exact ⟨g, s, _, hv, hg, rfl⟩
theorem IsErr.below {c : Int} {w w' : World} (hb : Below w.heap.size w w') : ∀ (d : Nat) (v : Value), IsErr d c v w → IsErr d c v w'
  | 0, v, h => h
  | d + 1, v, ⟨g, s, u, hv, hg, h⟩ => ⟨g, s, u, hv, (hb.block g (Array.getElem?_eq_some_iff.1 hg).1).trans hg, IsErr.below hb d u h⟩
theorem IsErr.iface {d : Nat} {c : Int} {v : Value} {w : World} (h : IsErr d c v w) : ∃ t u, v = .iface t u := by
  cases d with
  | zero => exact ⟨_, _, h⟩
  | succ d => obtain ⟨g, s, u, hv, _⟩ := h; exact ⟨_, _, hv⟩
theorem IsErr.unique {w : World} {c : Int} : ∀ (d : Nat) (v : Value), IsErr d c v w → ∀ d' c', IsErr d' c' v w → d = d'
  | 0, v, h, 0, c', h' => rfl
  | 0, v, h, d' + 1, c', ⟨g, s, u, hv, _⟩ => by have e : v = _ := h; rw [e] at hv; cases hv
  | d + 1, v, ⟨g, s, u, hv, _⟩, 0, c', h' => by have e : v = _ := h'; rw [e] at hv; cases hv
  | d + 1, v, ⟨g, s, u, hv, hg, h⟩, d' + 1, c', ⟨g', s', u', hv', hg', h'⟩ => by
    rw [hv] at hv'
    cases hv'
    rw [hg] at hg'
    simp at hg'
    obtain ⟨_, rfl⟩ := hg'
    rw [IsErr.unique d u h d' c' h']
open Classical in
/-- How often an error is wrapped. -/
noncomputable def errDepth (w : World) (v : Value) : Nat := if h : ∃ d c, IsErr d c v w then h.choose else 0
theorem errDepth_eq {w : World} {v : Value} {d : Nat} {c : Int} (h : IsErr d c v w) : errDepth w v = d := by
  unfold errDepth
  rw [dif_pos ⟨d, c, h⟩]
  obtain ⟨c', h'⟩ := Exists.choose_spec (p := fun d => ∃ c, IsErr d c v w) ⟨d, c, h⟩
  exact (IsErr.unique d v h _ c' h').symm

set_option maxHeartbeats 400000 in
set_option maxRecDepth 100000 in
theorem unwrap_any (g : Nat) (s : ByteArray) (u : Value) (w : World) (hg : w.heap[g]? = some (.cells #[.string s, u] 194 (0, 0))) :
    Calls Tryd.prog 188 #[.pointer (some ⟨g, 0, none⟩)] w fun e w' => e = .returned u ∧ w = w' := by
  have hcell : w.cell? ⟨g, 1, none⟩ = some u := by rw [Lib.cell_of_heap hg]; rfl
  go_enter Tryd.func188, Tryd.ntmps188
  go_wp2
  go_ret
  exact ⟨rfl, rfl⟩

set_option maxRecDepth 1000000 in
theorem is_any (d : Nat) (c t : Int) (v : Value) (W : World) (h : IsErr d c v W) :
    Calls Tryd.prog 89 #[v, .iface 75 (.int .i64 t), .bool true] W fun e w' => e = .returned (.bool (c == t)) ∧ W = w' := by
  have nE := noIsE
  have uE := noUnwrapE
  have vE := noUnwrapsE
  have nW := noIsW
  have uW := hasUnwrapW
  have mU := methodUnwrap
  have H0 := Lib.hid h
  clear h
  go_enter Tryd.func89, Tryd.ntmps89
  go_wp2
  go_loopw [0] (fun E' wl => W = wl ∧ ∃ d', Hid (IsErr d' c E' wl)) (fun E' wl => errDepth wl E')
  case atStart => exact ⟨rfl, d, H0.out⟩
  case round =>
    obtain ⟨rfl, d', hc'⟩ := hrel
    cases d' with
    | zero =>
      obtain rfl := hc'.out
      have heq := Lib.run_eql_iface_int (P := Tryd.prog) W (k := .i64) c t Tryd.underlying56 isComp Tryd.underlying75
      by_cases hct : (c == t) = true
      · have HCT := Lib.hid hct
        rw [hct] at heq
        clear hct
        go_wp2
        go_ret
        exact ⟨by rw [HCT.out]; rfl, rfl⟩
      · have hcf : (c == t) = false := by simpa using hct
        have HCT := Lib.hid hcf
        rw [hcf] at heq
        clear hct hcf
        go_wp2
        go_ret
        exact ⟨by rw [HCT.out]; rfl, rfl⟩
    | succ d' =>
      obtain ⟨g, s, u, rfl, hg, hu⟩ := hc'.out
      obtain ⟨t1, v1, rfl⟩ := hu.iface
      have hty := run_eql_iface_types (P := Tryd.prog) 192 75 (.pointer (some ⟨g, 0, none⟩)) (.int .i64 t) Tryd.underlying56 (by decide) W
      have hlen := Lib.hid (errDepth_eq hu)
      have hlen0 := Lib.hid (errDepth_eq hc'.out)
      have HU := Lib.hid hu
      have HG := Lib.hid hg
      clear hu hg
      go_wp2_with fail
      refine (unwrap_any g s _ _ HG.out).mono ?_
      rintro e w' ⟨rfl, rfl⟩
      go_wp2
      go_roundw
      case rel => first | exact ⟨rfl, d', HU.out⟩ | exact ⟨trivial, d', HU.out⟩
      case measure =>
        show errDepth W (.iface t1 v1) < _
        rw [hlen.out, hlen0.out]; omega

set_option maxRecDepth 1000000 in
/-- errors.Is at an error of the program's, and a number. -/
theorem errorsIs_any (d : Nat) (c t : Int) (v : Value) (W : World) (h : IsErr d c v W) :
    Calls Tryd.prog 43 #[v, .iface 75 (.int .i64 t)] W fun e w' => e = .returned (.bool (c == t)) ∧ W = w' := by
  have hT := isTypeOf
  have hC := isComparable
  have hM := isMethodComparable
  have h8 := @run_callFunc_extern Tryd.prog 88 _ Extern.ReflectliteType.typeOf Tryd.func88 (by kernel_rfl) (by kernel_rfl) (by kernel_rfl) (by kernel_rfl)
  have h32 := @run_callFunc_extern Tryd.prog 191 _ (Extern.ReflectliteType.method fun t => do Extern.Rtype.noPackHeld "Comparable" t; pure (.bool (← typeInfo t).comparable)) Tryd.func191 (by kernel_rfl) (by kernel_rfl) (by kernel_rfl) (by kernel_rfl)
  obtain ⟨t1, v1, rfl⟩ := h.iface
  have H0 := Lib.hid h
  clear h
  go_enter Tryd.func43, Tryd.ntmps43
  go_wp2_with (go_at_call 89; refine (is_any d c t _ _ H0.out).mono ?_; rintro e w' ⟨rfl, rfl⟩)
  go_ret
  exact ⟨rfl, rfl⟩

end Go.Proofs.YtpoopgifikcneaaDoor
