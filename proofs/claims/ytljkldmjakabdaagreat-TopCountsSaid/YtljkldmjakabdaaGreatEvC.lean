/- TopCounts by reckoning: one operation, whatever its kind; operations in their order. -/
import Derived.Test.YtljkldmjakabdaaGreatEvO
import Derived.Orders
import Derived.Scope
import Derived.Deep.LoopGhost
namespace Go.Proofs.YtljkldmjakabdaaGreat.Ev
open Go

variable {P : Program}

/-- No function of the program's is one of those that the model knows by name. -/
def Plainly (P : Program) : Prop := ∀ (f : Nat) (fn : Func), P.funcs[f]? = some fn → (fn.name == "runtime.NumGoroutine") = false

def CallOk (P : Program) (call : CallT) : Prop := ∀ (f : Nat) (args : List AV) (h : Hp) (nx : Nat) (v : AV) (h' : Hp) (nx' : Nat), call f args h nx = some (v, h', nx') →
  (∃ fn, P.funcs[f]? = some fn ∧ fn.body.isSome = true) ∧
  ∀ (c : Cx) (w : World) (vs : Array Value), R c h.get w → Bd c nx → All2 (AvR c) args vs.toList →
    Calls P f vs w fun e w' => ∃ x c', e = .returned x ∧ Mv c h.get w c' h'.get w' ∧ Gr c nx c' nx' ∧ AvR c' v x

/-- What follows an operation. -/
def Next1 (c : Cx) (h : Hp) (nx : Nat) (w : World) (v : AV) (h' : Hp) (nx' : Nat) (o : Oper) (a : Act) (K : Act → World → Prop) : Prop :=
  ∀ c' w' x, Mv c h.get w c' h'.get w' → Gr c nx c' nx' → AvR c' v x → K (a.put o.dst x) w'

section
variable {c : Cx} {tm : T AV} {a : Act} {o : Oper} {v : AV} {h h' : Hp} {w : World} {nx nx' : Nat} {call : CallT} {K : Act → World → Prop} {Q : Exit → Act → World → Prop}

theorem undef_av (c : Cx) : AvR c (.tup []) undef := ⟨#[], rfl, .nil⟩

theorem acts_wp (hA : Acts P c h nx o a w v h' nx') (hK : Next1 c h nx w v h' nx' o a K) : o.wp P a w K Q := by
  obtain ⟨c', w', hmv, hbd, ⟨x, hx, hr⟩ | ⟨hx, rfl⟩⟩ := hA
  · unfold Oper.wp; rw [hx]; exact hK c' w' x hmv hbd hr
  · unfold Oper.wp; rw [hx]; exact hK c' w' undef hmv hbd (undef_av c')

theorem read_wp (r : R c h.get w) (hbd : Bd c nx) (hY : YlW P c o a v w) (hK : Next1 c h nx w v h nx o a K) : o.wp P a w K Q := by
  obtain ⟨x, hx, hr⟩ := hY
  unfold Oper.wp; rw [hx]; exact hK c w x (Mv.refl r) (.refl c nx) hr

theorem alc_mv (r : R c h.get w) {i : Nat} (hi : c i = none) {B : Blk} {ob : Obj} {n : Nat} (hob : ObjR (c.put i ⟨w.heap.size, 0, n⟩) ⟨w.heap.size, 0, n⟩ B (some ob)) : Mv c h.get w (c.put i ⟨w.heap.size, 0, n⟩) (h.set i B).get (w.alloc ob) :=
  Mv.new_ r hi (p := ⟨w.heap.size, 0, n⟩) (w' := w.alloc ob) (B := B) (by
    show ObjR _ _ _ ((w.alloc ob).heap[w.heap.size]?)
    rw [heap_alloc_new w _]; exact hob) (Nat.le_refl _) (fun x hx => heap_alloc_old w _ hx) (by simp) (get_set_cases _ _ _)

theorem alloc_wp (r : R c h.get w) (hbd : Bd c nx) {B : Blk} (hA : Alc P c o a nx v B) (hK : Next1 c h nx w v (h.set nx B) (nx + 1) o a K) : o.wp P a w K Q := by
  obtain ⟨x, ob, n, hx, hob, hr⟩ := hA w
  unfold Oper.wp; rw [hx]
  exact hK _ _ x (alc_mv r hbd.none hob) (Gr.put c nx _) hr

theorem opnds_sound (ht : TmR c tm a.tmps) : ∀ (l : List Operand) (vs : List AV), opnds tm l = some vs → All2 (AvR c) vs (l.map a.eval) := by
  intro l
  induction l with
  | nil => intro vs h; simp [opnds] at h; subst h; exact .nil
  | cons x l ih =>
    intro vs h
    simp only [opnds] at h
    split at h
    · rename_i v r hv hr
      simp at h; subst h
      exact .cons (opnd_sound ht hv) (ih _ hr)
    · cases h

theorem call_wp (hP : Plainly P) (hc : CallOk P call) (r : R c h.get w) (hbd : Bd c nx) {f : Operand} {args : Array Operand} {ats : Array Nat} (ho : o.op = .call { callee := .value f, args := args, argTypes := ats })
    {g : Nat} {first : Array Value} (hf : a.eval f = .func (.func g) first #[]) {vs : List AV} (hvs : All2 (AvR c) vs (first ++ args.map a.eval).toList) (hcall : call g vs h nx = some (v, h', nx')) (hK : Next1 c h nx w v h' nx' o a K) : o.wp P a w K Q := by
  obtain ⟨⟨fn, hfn, hbody⟩, hsound⟩ := hc _ _ _ _ _ _ _ hcall
  have hrun : (execOp a.eval o).run P w = .ok (.enter g (first ++ args.map a.eval)) w := by
    have hn := hP g fn hfn
    have hn' : fn.name ≠ "runtime.NumGoroutine" := by simpa using hn
    have hb : fn.body ≠ none := by cases hq : fn.body <;> simp_all
    simp [execOp, ho, resolve, hf, Deferred.ofValue, invoke, callFunc, hfn, hn', hb, Result.andThen]
  unfold Oper.wp; rw [hrun]
  show Calls P g _ w _
  refine (hsound c w _ r hbd hvs).mono ?_
  rintro e w' ⟨x, c', rfl, hmv, hbd', hr⟩
  exact hK c' w' x hmv hbd' hr

theorem eff_wp (hP : Plainly P) (hc : CallOk P call) (ht : TmR c tm a.tmps) (r : R c h.get w) (hbd : Bd c nx) (he : effOp P call o tm h nx = some (v, h', nx')) (hK : Next1 c h nx w v h' nx' o a K) : o.wp P a w K Q := by
  unfold effOp at he
  split at he
  case h_1 t x y ho =>
    split at he
    · rename_i b off l s hx hy hs
      simp only [Option.bind_eq_some_iff] at hy
      obtain ⟨u, hu, hl⟩ := hy
      simp only [beq_dec] at he
      by_cases h1 : l.length = s
      case neg => simp [h1] at he
      simp only [h1, decide_true, cond_true] at he
      split at he
      · rename_i h1' hw
        simp only [Option.some.injEq, Prod.mk.injEq] at he
        obtain ⟨rfl, rfl, rfl⟩ := he
        exact acts_wp (act_store ht r hbd ho hx hu hl (by rw [h1]; exact hs) hw) hK
      · cases he
    · cases he
  case h_2 s d x ho =>
    split at he
    · rename_i e e' b off l k z ex hs hd hx
      simp only [beq_dec] at he
      by_cases h1 : s = d
      case neg => simp [h1] at he
      subst h1
      simp only [decide_true, cond_true] at he
      split at he
      · rename_i heu
        by_cases h2 : z = 1
        case neg => simp [h2] at he
        simp only [h2, decide_true, cond_true] at he
        split at he
        · rename_i ct n ty hb
          simp only [Option.some.injEq, Prod.mk.injEq] at he
          obtain ⟨rfl, rfl, rfl⟩ := he
          subst h2
          exact acts_wp (act_mark ht r hbd ho hs heu hx hb) hK
        · cases he
      · cases he
    · cases he
  case h_3 t m k y ho =>
    split at he
    · rename_i b kv z hm hk hy
      split at he
      · rename_i l kc hok hb hc'
        have hu : ∃ kt e, P.underlying t = some (.map kt e) ∧ keyOk P kt kv = true := by
          split at hok
          · rename_i kt e hu; exact ⟨kt, e, hu, hok⟩
          · cases hok
        obtain ⟨kt, e, hu, hok⟩ := hu
        split at he
        · rename_i i u hf
          split at he
          · rename_i k' g u' hli
            simp only [Option.some.injEq, Prod.mk.injEq] at he
            obtain ⟨rfl, rfl, rfl⟩ := he
            exact acts_wp (act_mapUpdate ht r hbd ho hu hm hk hy hok hb hc' hf (.inl ⟨i, u, k', g, u', rfl, hli, rfl⟩)) hK
          · cases he
        · rename_i hf
          simp only [Option.some.injEq, Prod.mk.injEq] at he
          obtain ⟨rfl, rfl, rfl⟩ := he
          exact acts_wp (act_mapUpdate ht r hbd ho hu hm hk hy hok hb hc' hf (.inr ⟨rfl, rfl⟩)) hK
        · cases he
      · cases he
    · cases he
  case h_4 t m k ho =>
    split at he
    · rename_i kt e b kv hu hm hk
      split at he
      · rename_i l kc z hok hb hc' hz
        split at he
        · rename_i i u hf
          simp only [Option.some.injEq, Prod.mk.injEq] at he
          obtain ⟨rfl, rfl, rfl⟩ := he
          exact acts_wp (act_mapEntry ht r hbd ho hu hm hk hok hb hc' hz hf (.inl ⟨i, u, rfl, rfl, rfl⟩)) hK
        · rename_i hf
          simp only [Option.some.injEq, Prod.mk.injEq] at he
          obtain ⟨rfl, rfl, rfl⟩ := he
          exact acts_wp (act_mapEntry ht r hbd ho hu hm hk hok hb hc' hz hf (.inr ⟨rfl, rfl, rfl⟩)) hK
        · cases he
      · cases he
    · cases he
  case h_5 t m s y ho =>
    split at he
    · rename_i b k i z hm hs hy
      split at he
      · rename_i l hb
        split at he
        · rename_i k' g u hli
          simp only [Option.some.injEq, Prod.mk.injEq] at he
          obtain ⟨rfl, rfl, rfl⟩ := he
          exact acts_wp (act_entryStore ht r hbd ho hm hs hy hb hli) hK
        · cases he
      · cases he
    · cases he
  case h_6 b args ats ho =>
    split at he
    · rename_i s x hargs
      split at he
      · rename_i t t' hats
        simp only [beq_dec] at he
        by_cases h1 : t = t'
        case neg => simp [h1] at he
        subst h1
        simp only [decide_true, cond_true] at he
        split at he
        · rename_i e sv xv hu hs hx
          split at he
          · rename_i z zl y hz hzl hy
            by_cases h2 : zl.length = z
            case neg => simp [h2] at he
            simp only [h2, decide_true, cond_true, ble_dec] at he
            by_cases h3 : y ≤ 1000
            case neg => simp [h3] at he
            simp only [h3, decide_true, cond_true] at he
            split at he
            · rename_i n cs hn
              have e1 : args = #[s, x] := by cases args; simpa using hargs
              have e2 : ats = #[t, t] := by cases ats; simpa using hats
              subst e1 e2
              exact acts_wp (act_append ht r hbd ho hu hs hx hz hzl h2 hy h3 hn he) hK
            · cases he
          · cases he
        · cases he
      · cases he
    · rename_i d s hargs
      split at he
      · rename_i t rest hats
        split at he
        · rename_i e b off l k z ex b' off' l' k' z' ex' hu hd hs
          cases hz : szIs P e z with
          | false => simp [hz] at he
          | true =>
            simp only [hz, cond_true] at he
            split at he
            · rename_i cs hr
              split at he
              · rename_i h1 hw
                simp only [Option.some.injEq, Prod.mk.injEq] at he
                obtain ⟨rfl, rfl, rfl⟩ := he
                have e1 : args = #[d, s] := by cases args; simpa using hargs
                have e2 : ats[0]? = some t := by rw [← Array.getElem?_toList, hats]; rfl
                subst e1
                exact acts_wp (act_copy ht r hbd e2 ho hu hd hs (szIs_eq hz) hr hw) hK
              · cases he
            · cases he
        · rename_i e b off l k z ex hu hd hs
          cases hz : szIs P e z with
          | false => simp [hz] at he
          | true =>
            simp only [hz, cond_true, Option.some.injEq, Prod.mk.injEq] at he
            obtain ⟨rfl, rfl, rfl⟩ := he
            have e1 : args = #[d, s] := by cases args; simpa using hargs
            have e2 : ats[0]? = some t := by rw [← Array.getElem?_toList, hats]; rfl
            subst e1
            exact acts_wp (act_copyNil ht r hbd e2 ho hu hd hs (szIs_eq hz)) hK
        · cases he
      · cases he
    · rename_i x hargs
      split at he
      · rename_i t rest hats
        split at he
        · rename_i e b off l k z ex hu hx
          split at he
          · rename_i zl hz
            simp only [beq_dec] at he
            by_cases h1 : zl.length = z
            case neg => simp [h1] at he
            simp only [h1, decide_true, cond_true] at he
            split at he
            · rename_i h1' hw
              simp only [Option.some.injEq, Prod.mk.injEq] at he
              obtain ⟨rfl, rfl, rfl⟩ := he
              have e1 : args = #[x] := by cases args; simpa using hargs
              have e2 : ats[0]? = some t := by rw [← Array.getElem?_toList, hats]; rfl
              subst e1
              exact acts_wp (act_clear ht r hbd e2 ho hu hx hz h1 hw) hK
            · cases he
          · cases he
        · cases he
      · cases he
    · cases he
  case h_7 f args ats ho =>
    split at he
    · rename_i vs hvs
      have hall := opnds_sound ht _ _ hvs
      have hall' : All2 (AvR c) vs (#[] ++ args.map a.eval).toList := by simpa using hall
      split at he
      · exact call_wp hP hc r hbd ho (first := #[]) rfl hall' he hK
      · rename_i f' hne
        split at he
        · rename_i g b off hf
          obtain ⟨p, hp, e1⟩ : ∃ p, c b = some p ∧ a.eval f = .func (.func g) #[.pointer (some ⟨p.b, p.o + off, none⟩)] #[] := opnd_sound ht hf
          refine call_wp hP hc r hbd ho e1 ?_ he hK
          simp only [Array.toList_append]
          exact .cons ⟨p, hp, rfl⟩ (by simpa using hall)
        · rename_i g hf
          have e1 : a.eval f = .func (.func g) #[] #[] := opnd_sound ht hf
          exact call_wp hP hc r hbd ho e1 hall' he hK
        · cases he
    · cases he
  case h_8 => cases he

end

end Go.Proofs.YtljkldmjakabdaaGreat.Ev

