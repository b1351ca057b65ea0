import Derived.Test.YtegdcamfhldcoaaPmR
set_option linter.unusedVariables false
set_option linter.unusedSimpArgs false
namespace Go.PM
open Go

/-! ## Methods called through an interface value that holds a pointer -/

/-- the method of a pointer's type: its function, does it take the pointer?, what it points to -/
def methPtr (P : Program) (t : TypeId) (name : String) : Option (FuncId × Bool × TypeId) :=
  match P.info? t with
  | none => none
  | some i => match i.methods.find? (·.name == name), P.underlying t with
    | some m, some (.pointer e) => match m.path.toList, m.func with
      | [], some (f, pr) => some (f, pr, e)
      | _, _ => none
    | _, _ => none

theorem arr_head (x : Value) (ys : Array Value) : (#[x] ++ ys)[0]? = some x := by
  rw [← Array.getElem?_toList]
  simp
theorem arr_tail (x : Value) (ys : Array Value) : (#[x] ++ ys).extract 1 (#[x] ++ ys).size = ys := by
  rcases ys with ⟨l⟩
  apply Array.ext'
  simp

theorem ssaWrap {P : Program} {w : World} (ts : Array TypeId) (ty : TypeId) (p : Addr) (x y : ByteArray) : (Builtin.ssaWrapNilChk_ ts ty #[.pointer (some p), .string x, .string y]).run P w = .ok (.pointer (some p)) w := rfl

theorem method_ptr {P : Program} {t : TypeId} {name : String} {f : FuncId} {pr : Bool} {e : TypeId} (h : methPtr P t name = some (f, pr, e)) (fuel : Nat) (w : World) (p : Addr) {val : Value} (hv : (loadVar e p).run P w = .ok val w ∨ pr = true) :
    (method (fuel + 1) t (.pointer (some p)) name).run P w = .ok (f, if pr then .pointer (some p) else val) w := by
  unfold methPtr at h
  cases hi : P.info? t with
  | none => rw [hi] at h; cases h
  | some i =>
    rw [hi] at h
    simp only at h
    split at h
    · rename_i m e' hm hu
      split at h
      · rename_i f' pr' hp hf
        cases h
        have hpe : m.path = #[] := by apply Array.ext'; simpa using hp
        unfold method
        simp only [bind_run, typeInfo_run hi, hm, hp, follow, pure_run, hf]
        unfold receiverAt
        simp only [bind_run, underlying_run hu]
        cases pr with
        | true => simp only [Place.get, pure_run, if_true]
        | false =>
          have hv' : (loadVar e p).run P w = .ok val w := by rcases hv with hv | hv; exact hv; cases hv
          simp only [Place.get, pure_run, bind_run, hpe, Array.isEmpty, List.size_toArray, List.length_nil, decide_true, if_true, ssaWrap, strVal, asAddr, hv', Bool.false_eq_true, if_false]
      · cases h
    · cases h

def ainvoke (P : Program) (c : Call) (e : Env) (s : St) : Option (FuncId × List PV) :=
  match c.callee with
  | .invoke recv name => match ev e recv with
    | .iface t (.ptr id i j) => match methPtr P t name with
      | some (f, true, _) => some (f, .ptr id i j :: c.args.toList.map (ev e))
      | some (f, false, el) => match aLoad P el (.ptr id i j) s with
        | some v => some (f, v :: c.args.toList.map (ev e))
        | none => none
      | none => none
    | _ => none
  | _ => none

theorem ainvoke_run {P : Program} {c : Call} {o : Oper} {g s w e f args} {a : Act} (hop : o.op = .call c) (hI : Inv P g s w) (hE : EnvOK g w e a.tmps) (h : ainvoke P c e s = some (f, args)) (hc : callable P f = true) :
    ∃ vs : Array Value, (execOp a.eval o).run P w = .ok (.enter f vs) w ∧ RA g w args vs.toList := by
  unfold ainvoke at h
  obtain ⟨callee, cargs, ats⟩ := c
  simp only at h
  cases callee with
  | invoke recv name =>
    simp only at h
    split at h
    case h_2 => cases h
    rename_i t id i j hev
    have hx := ev_R hE recv
    rw [hev] at hx
    simp only [R] at hx
    obtain ⟨x, hx, hlt, b, sz, hrow, rfl⟩ := hx
    have hptr : R g w (.ptr id i j) (.pointer (some ⟨b, i * sz + j, none⟩)) := by simp only [R]; exact ⟨hlt, b, sz, hrow, rfl⟩
    have fuel : ∃ n, P.types.size + Made.depth = n + 1 := ⟨P.types.size + Made.depth - 1, by unfold Made.depth; omega⟩
    obtain ⟨n, hn⟩ := fuel
    have go : ∀ rv : Value, (method (n + 1) t (.pointer (some ⟨b, i * sz + j, none⟩)) name).run P w = .ok (f, rv) w → (execOp a.eval o).run P w = .ok (.enter f (#[rv] ++ cargs.map a.eval)) w := by
      intro rv hm
      unfold execOp
      rw [hop]
      simp only [resolve, hx, bind_run, pure_run, invoke]
      simp only [arr_head, arr_tail]
      unfold callMethod
      simp only [bind_run]
      rw [show (program.run P w) = .ok P w from rfl]
      simp only [hn, hm]
      exact callFunc_run hc
    split at h
    · rename_i f' e' hm
      cases h
      have := method_ptr (w := w) (val := undef) hm n ⟨b, i * sz + j, none⟩ (.inr rfl)
      refine ⟨_, go _ this, ?_⟩
      simp only [if_true, Array.toList_append, List.toList_toArray, List.cons_append, List.nil_append, Array.toList_map, RA]
      exact ⟨_, _, rfl, hptr, ev_RA hE _⟩
    · rename_i f' el hm
      split at h
      · rename_i v hl
        cases h
        obtain ⟨val, hv, hr⟩ := aLoad_run hI hptr hl
        have hv' : (loadVar el ⟨b, i * sz + j, none⟩).run P w = .ok val w := by
          unfold Instr.loadAt at hv
          simpa only [Instr.sureAddr, bind_run, pure_run] using hv
        have := method_ptr (w := w) (val := val) hm n ⟨b, i * sz + j, none⟩ (.inl hv')
        refine ⟨_, go _ this, ?_⟩
        simp only [Bool.false_eq_true, if_false, Array.toList_append, List.toList_toArray, List.cons_append, List.nil_append, Array.toList_map, RA]
        exact ⟨_, _, rfl, hr, ev_RA hE _⟩
      · cases h
    · cases h
  | _ => cases h

section
variable {P : Program} {N : Nat} {k : List KI} {e : Env} {s : St} {rt : Env → St → Prop}

theorem RunO.invoke {ops : Array Oper} {d : Option Nat} {c : Call} {t : TypeId} {pos : String} {af : Array Edge} {gd : Option (Nat × Bool)} {l : List Oper} {f : FuncId} {args : List PV}
    (hg : guard? ops ⟨d, .call c, t, pos, af, gd⟩ e = some true) (ha : ainvoke P c e s = some (f, args)) (hc : callable P f = true)
    (h : ACalls P f args s fun r s' => RunO P N ops l k (e.put d r) s' rt) : RunO P N ops (⟨d, .call c, t, pos, af, gd⟩ :: l) k e s rt :=
  RunO.call_ hg (fun g w a hI hE => ainvoke_run rfl hI hE ha hc) h
end

end Go.PM
