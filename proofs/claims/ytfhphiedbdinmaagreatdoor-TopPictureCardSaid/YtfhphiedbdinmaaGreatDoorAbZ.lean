import Derived.Below
import Derived.Calls
import Derived.StepT
set_option linter.all false
namespace Go.Proofs.YtfhphiedbdinmaaGreatDoor.Ab
open Go
theorem ask_le {α : Type} : ∀ (x : Ask α) (w : World), w.drawn <= (w.ask x).2.drawn
 | .done a, w => by simp [World.ask]
 | .ask what range k, w => by
   unfold World.ask; dsimp only; split
   . exact ask_le _ _
   . exact Nat.le_trans (Nat.le_succ _) (ask_le (k _) { w with drawn := w.drawn + 1 })
theorem sys_le (w : World) (c : Sys) : w.drawn <= (w.sys c).2.drawn := by
 unfold World.sys; have := ask_le (Kernel.perform c w.os) w; split <;> simp_all
def RLe {α : Type} (w : World) : Result α -> Prop | .ok _ w' => w.drawn <= w'.drawn | .halt _ w' => w.drawn <= w'.drawn
theorem RLe.trans {α : Type} {w w' : World} {r : Result α} (h : w.drawn <= w'.drawn) (k : RLe w' r) : RLe w r := by cases r <;> exact Nat.le_trans h k
theorem far_le {p : Program} {w w' : World} {a : Addr} {v : Value} {b : Bool} {l : List Addr} (h : w.farStore p a v b = .ok (w', l)) : w'.drawn = w.drawn := by
 unfold World.farStore at h
 split at h
 . split at h
   . rename_i h'; cases h
     unfold World.viewStore at h'
     simp only [bind, Except.bind, pure, Except.pure] at h'
     repeat' split at h'
     all_goals first | (cases h'; rfl) | cases h'
   . cases h
 . cases h
theorem run_le (p : Program) {α : Type} (x : Sem α) : ∀ w : World, RLe w (x.run p w) := by
 induction x with
 | pure a => intro w; exact Nat.le_refl _
 | load m a k ih => intro w; simp only [Sem.run]; repeat' split
                    all_goals first | exact ih _ _ | exact Nat.le_refl _
 | store m a v k ih =>
   intro w
   cases v <;> simp only [Sem.run] <;> (repeat' split)
   all_goals first | exact Nat.le_refl _ | exact RLe.trans (w' := w.setCell _ _) (Nat.le_refl _) (ih _) | (rename_i h; exact RLe.trans (by rw [far_le h]; exact Nat.le_refl _) (ih _))
 | new o k ih => intro w; simp only [Sem.run]; exact RLe.trans (w' := { w with heap := w.heap.push o }) (Nat.le_refl _) (ih _ _)
 | shape r k ih => intro w; exact ih _ _
 | freeze a n k ih => intro w; simp only [Sem.run]; exact RLe.trans (w' := w.freeze a n) (by unfold World.freeze; (repeat' split) <;> exact Nat.le_refl _) (ih _)
 | frozen a k ih => intro w; exact ih _ _
 | getObj r k ih => intro w; simp only [Sem.run]; repeat' split
                    all_goals first | exact ih _ _ | exact Nat.le_refl _
 | setObj r o k ih => intro w; simp only [Sem.run]; repeat' split
                      all_goals first | exact Nat.le_refl _ | exact RLe.trans (w' := { w with heap := w.heap.setIfInBounds r o }) (Nat.le_refl _) (ih _)
 | choose q k ih => intro w; simp only [Sem.run]; split
                    . exact ih _ _
                    . exact RLe.trans (w' := { w with drawn := w.drawn + 1 }) (Nat.le_succ _) (ih _ _)
 | sys c k ih => intro w; simp only [Sem.run]; exact RLe.trans (sys_le w c) (ih _ _)
 | program k ih => intro w; exact ih _ _
 | mark m k ih => intro w; exact ih _
 | halt h => intro w; exact Nat.le_refl _
def GLe (w : World) : GStep -> Prop
 | .go _ w' _ | .comm _ _ _ _ w' _ | .spawn _ _ w' _ | .count _ w' _ | .timer _ _ w' _ | .alone _ _ w' _ | .newcoro _ _ _ w' _ | .coroswitch _ _ _ w' _ | .collect _ w' _ | .watch _ w' _ => w.drawn <= w'.drawn
 | .ended _ _ _ => True
theorem GLe.after {w : World} {s : GStep} (es : Array Event) (h : GLe w s) : GLe w (GStep.after es s) := by cases s <;> exact h
theorem GLe.trans {w w' : World} {s : GStep} (h : w.drawn <= w'.drawn) (k : GLe w' s) : GLe w s := by cases s <;> first | exact trivial | exact Nat.le_trans h k
theorem GLe.ite {w : World} {c : Prop} {_ : Decidable c} {a b : GStep} (h : GLe w a) (k : GLe w b) : GLe w (if c then a else b) := by split <;> assumption
theorem runT_le (p : Program) {α : Type} (x : Sem α) (w : World) (es : Array Event) : RLe w (x.runT p w es).1 := by rw [Sem.runT_fst]; exact run_le p x w
theorem endWith_le (w : World) (fd : Nat) (text : ByteArray) (o : Outcome) : GLe w (endWith w fd text o) := by
 unfold endWith; dsimp only; repeat' split
 all_goals exact trivial
theorem dieOf_le (fr : Frame) (l : List ByteArray) (m : String) (b : Bool) (w : World) : GLe w (dieOf fr l m b w) := Nat.le_refl _
theorem endThrow_le (fr : Frame) (m : String) (w : World) : GLe w (endThrow fr m w) := Nat.le_refl _
theorem endPrinting_le (p : Program) (fr : Frame) (v : Value) (w : World) : GLe w (endPrinting p fr v w) := by
 unfold endPrinting; dsimp only; split
 . exact endThrow_le ..
 . exact trivial
theorem endFatal_le (p : Program) (fr : Frame) (cs : List Frame) (d : Option Dying) (m : String) (w : World) : GLe w (endFatal p fr cs d m w) := by
 unfold endFatal; dsimp only
 generalize hx : Sem.run p _ w = r
 have h : RLe w r := hx ▸ run_le p _ w
 split
 . exact GLe.trans h (dieOf_le ..)
 . exact trivial
 . exact trivial
theorem writeOn_le (p : Program) (fr : Frame) (d : Dying) (f : Fatal) (w : World) : GLe w (writeOn p fr d f w) := by
 unfold writeOn; dsimp only; split
 . exact trivial
 . generalize hx : Sem.runT p _ w #[] = r
   have h : RLe w r.1 := hx ▸ runT_le p _ w #[]
   split
   . exact h
   . exact h
   . exact trivial
   . exact trivial
theorem die_le (p : Program) (fr : Frame) (d : Dying) (w : World) : GLe w (die p fr d w) := by
 unfold die; dsimp only
 split
 . exact writeOn_le ..
 . split
   . split
     . exact Nat.le_refl _
     . exact endWith_le ..
   . split
     . exact Nat.le_refl _
     . generalize hx : Sem.run p _ w = r
       have h : RLe w r := hx ▸ run_le p _ w
       split
       . exact h
       . exact trivial
     . have h := runT_le p (invoke (.fn (.method ‹_›) #[]) #[.iface ‹_› ‹_›]) w #[]
       refine GLe.after _ ?_
       split <;> rename_i hr <;> (try rw [hr] at h)
       . exact h
       . exact h
       . exact trivial
       . exact GLe.trans h (endPrinting_le ..)
       . exact trivial
     . exact trivial
theorem doReturn_le (p : Program) (main : Bool) (fr : Frame) (cs : List Frame) (d : Option Dying) (v : Value) (w : World) : GLe w (doReturn p main fr cs d v w) := by
 unfold doReturn; dsimp only; repeat' split
 all_goals first | exact Nat.le_refl _ | exact trivial
theorem callDeferred_le (p : Program) (fr : Frame) (cs : List Frame) (dy : Option Dying) (d : Deferred) (w : World) : GLe w (callDeferred p fr cs dy d w) := by
 unfold callDeferred; dsimp only
 have h := runT_le p (invoke d.target d.args) w #[]
 refine GLe.ite trivial ?_
 . refine GLe.after _ ?_
   split <;> rename_i hr <;> rw [hr] at h
   all_goals first | exact h | exact trivial | exact GLe.trans h (endFatal_le ..) | exact GLe.trans h (endThrow_le ..) | (split <;> exact h)
theorem unwind_le (p : Program) (main : Bool) (fr : Frame) (cs : List Frame) (d : Option Dying) (w : World) : GLe w (unwind p main fr cs d w) := by
 unfold unwind; dsimp only
 split
 . have h := runT_le p (Instr.takeDeferred ‹_›) w #[]
   refine GLe.after _ ?_
   split <;> rename_i hr <;> rw [hr] at h
   . exact h
   . exact trivial
 . exact callDeferred_le ..
 . split
   . exact trivial
   . split
     . exact trivial
     . split
       . exact Nat.le_refl _
       . split
         . split
           . exact Nat.le_refl _
           . have h := run_le p (reportChain ‹_› false) w
             split <;> rename_i hr <;> rw [hr] at h
             . exact h
             . exact trivial
             . exact trivial
         . split
           . exact endPrinting_le ..
           . exact trivial
   . split
     . exact doReturn_le ..
     . rename_i fn _
       have h := runT_le p (results fn fr.tmps) w #[]
       refine GLe.after _ ?_
       split <;> rename_i hr <;> rw [hr] at h
       . exact GLe.trans h (doReturn_le ..)
       . exact trivial
       . exact trivial
theorem early_le (p : Program) (fr : Frame) (cs : List Frame) (d : Option Dying) (g : Nat) (w : World) : GLe w (early p fr cs d g w) := by
 unfold early; dsimp only
 have h := run_le p (choose (.early g) : Sem Nat) w
 repeat' split
 all_goals first | exact Nat.le_refl _ | exact trivial | (rename_i hr; rw [hr] at h; exact h) | (rename_i hr _ _ _ _; rw [hr] at h; exact h)
theorem apply_le (p : Program) (b : Bool) (fr : Frame) (cs : List Frame) (d : Option Dying) (s : Sem Next) (w : World) : GLe w (stepG.apply p b fr cs d s w) := by
 unfold stepG.apply; dsimp only
 have h : RLe w (if b then s.runT p w #[] else (s.run p w, #[])).1 := by split; exact runT_le ..; exact run_le ..
 refine GLe.after _ ?_
 split <;> rename_i hr <;> rw [hr] at h
 all_goals first
  | exact h
  | exact trivial
  | exact GLe.trans h (endFatal_le ..)
  | exact GLe.trans h (endThrow_le ..)
  | exact GLe.trans h (early_le ..)
  | (split <;> exact h)
  | exact GLe.ite (GLe.trans h (endThrow_le ..)) h
  | skip
theorem oper_le (p : Program) (b : Bool) (fr : Frame) (cs : List Frame) (d : Option Dying) (w : World) : GLe w (stepG.oper p b fr cs d w) := by
 unfold stepG.oper; repeat' split
 all_goals first | exact trivial | exact apply_le ..
theorem elim_le {α : Type} {w : World} {o : Option α} {s : GStep} {f : α -> GStep} (h : GLe w s) (k : ∀ x, GLe w (f x)) : GLe w (o.elim s f) := by cases o with
 | none => exact h
 | some x => exact k x
theorem leave_le (p : Program) (m : Bool) (fr : Frame) (cs : List Frame) (d : Option Dying) (w : World) (jump : Option Code) (c : Bool) : GLe w (match fr.roundOf with
 | none => if c = true then GStep.go { frame := { fr with mode := .returning }, callers := cs, status := .running, dying := d } w else GStep.ended (.stuck "exit, goto: no such block or label" (fr.pos p)) w
 | some l => GStep.after (seen p fr.fn ((Instr.endRound l jump).runT p w #[]).2) (match ((Instr.endRound l jump).runT p w #[]).1 with
   | .ok v w => doReturn p m fr cs d v w
   | .halt _ w => .ended (.stuck "range over a function: no such loop" (fr.pos p)) w)) := by
 split
 . exact GLe.ite (Nat.le_refl _) trivial
 . rename_i l _
   have h := runT_le p (Instr.endRound l jump) w #[]
   refine GLe.after _ ?_
   split <;> rename_i hr <;> rw [hr] at h
   . exact GLe.trans h (doReturn_le ..)
   . exact trivial
theorem exec_le (p : Program) (m b : Bool) (fr : Frame) (cs : List Frame) (d : Option Dying) (w : World) : GLe w (stepG.exec p m b fr cs d w) := by
 unfold stepG.exec; dsimp only
 split
 all_goals first
  | exact Nat.le_refl _
  | exact trivial
  | exact leave_le p m fr cs d w none true
  | exact leave_le p m fr cs d w (some .ret) true
  | exact apply_le ..
  | exact elim_le (leave_le p m fr cs d w _ false) fun _ => Nat.le_refl _
  | exact elim_le trivial fun _ => apply_le ..
  | skip
 . split
   . exact Nat.le_refl _
   . exact trivial
 . rename_i f params assign body _ _
   have h := runT_le p (Instr.enterLoop fr.fn fr.tmps params assign body fr.roundOf) w #[]
   refine GLe.after _ ?_
   split <;> rename_i hr <;> rw [hr] at h
   . exact GLe.trans h (apply_le ..)
   . exact trivial
 . rename_i l _ _
   have h := runT_le p (Instr.endLoop l) w #[]
   refine GLe.after _ ?_
   split <;> rename_i hr <;> rw [hr] at h
   . exact h
   . exact h
   . exact trivial
 . rename_i id ops draw _ _
   have h := run_le p (choose (.order fr.fn id) : Sem Nat) w
   refine GLe.ite (Nat.le_refl _) ?_
   split <;> rename_i hr <;> rw [hr] at h
   . exact h
   . exact trivial
 . exact GLe.ite (oper_le ..) (Nat.le_refl _)
theorem stepG_le (p : Program) (m : Bool) (g : Goroutine) (w : World) (b : Bool) : GLe w (stepG p m g w b) := by
 unfold stepG; dsimp only; split
 . exact die_le ..
 . exact exec_le ..
 . exact unwind_le ..
def SLe (w : World) : Stepped -> Prop | .next m => w.drawn <= m.world.drawn | .ended _ _ => True
theorem SLe.trans {w w' : World} {s : Stepped} (h : w.drawn <= w'.drawn) (k : SLe w' s) : SLe w s := by cases s <;> first | exact trivial | exact Nat.le_trans h k
theorem waitingAt_le {rest : Rest} {cs : Array CommCase} {w w' : World} (h : waitingAt rest cs w = some w') : w.drawn <= w'.drawn := by
 unfold waitingAt at h; repeat' split at h
 all_goals first | (cases h; exact Nat.le_refl _) | cases h
theorem communicate_le (p : Program) (rest : Rest) (gs : Array Goroutine) (i : Nat) (g : Goroutine) (cases : Array CommCase) (blocking : Bool) (shape : CommShape) (w : World) : SLe w (communicate p rest gs i g cases blocking shape w).1 := by
 unfold communicate; dsimp only
 split
 . exact trivial
 . split
   . split
     . split
       . rename_i h; exact waitingAt_le h
       . exact trivial
     . exact Nat.le_refl _
   . generalize hx : Sem.run p _ w = r
     have h : RLe w r := hx ▸ run_le p _ w
     obtain ⟨⟨k, c, way⟩, w1⟩ | ⟨_, _⟩ := r
     rotate_left
     . exact trivial
     . dsimp only
       have hpn := run_le p (runtimePanic (.plain "send on closed channel") : Sem Unit) w1
       split
       . split
         . rename_i hr; rw [hr] at hpn; exact Nat.le_trans h hpn
         . exact trivial
       . exact h
       . exact h
       . split
         . exact h
         . split
           . rename_i b w2 hr
             have hc : RLe w1 (Result.ok b w2) := hr ▸ run_le p _ w1
             exact Nat.le_trans h hc
           . exact trivial
       . exact h
       . exact h
       . exact trivial
theorem look_le (p : Program) (gs : Array Goroutine) (rest : Rest) (w : World) : SLe w (look p gs rest w) := by
 unfold look; dsimp only
 split
 . split
   . exact trivial
   . split
     . exact trivial
     . generalize hx : Sem.run p _ w = r
       have h : RLe w r := hx ▸ run_le p _ w
       split
       . exact h
       . exact trivial
       . exact trivial
 . exact trivial
theorem drain_eq (w : World) (c : Nat) : (drain w c).2.drawn = w.drawn := by unfold drain; split <;> rfl
theorem retime_eq (m : Machine) (k : Nat) (t : Timer) (a b : Nat) : (retime m k t a b).2.world.drawn = m.world.drawn := by
 unfold retime; dsimp only; split
 . exact drain_eq ..
 . rfl
theorem opened_eq {m m' : Machine} {v : Addr} (h : timerOp.opened m v = some m') : m'.world.drawn = m.world.drawn := by
 unfold timerOp.opened at h; repeat' split at h
 all_goals first | (cases h; rfl) | cases h
theorem named_eq {m m' : Machine} {a : Addr} {f : Nat -> Timer -> Value × Machine} {n : Nat} {v : Value} (hf : ∀ k t, (f k t).2.world.drawn = n) (h : timerOp.named m a f = .ok (v, m')) : m'.world.drawn = n := by
 unfold timerOp.named at h; split at h
 . rename_i c _; have := hf c (m.rest.timers.getD c default); rw [Except.ok.inj h] at this; exact this
 . cases h
theorem timer_eq {m m' : Machine} {op : TimerOp} {v : Value} (h : timerOp m op = .ok (v, m')) : m'.world.drawn = m.world.drawn := by
 unfold timerOp at h
 dsimp only at h
 split at h
 . repeat' split at h
   all_goals first | (cases h; rfl) | cases h
 . exact named_eq (fun k t => retime_eq m k t _ _) h
 . split at h
   . rename_i ho; exact (named_eq (fun k t => retime_eq _ k t _ _) h).trans (opened_eq ho)
   . cases h
 . cases h; rfl
theorem serve_le (p : Program) (m : Machine) (k : Nat) : SLe m.world (serve p m k) := by
 unfold serve; dsimp only; repeat' split
 all_goals first | exact trivial | exact Nat.le_refl _
theorem runT1_le (p : Program) (m : Machine) (i : Nat) (b : Bool) : SLe m.world (Go.runT p m i b).1 := by
 unfold Go.runT; dsimp only
 generalize m.gs.swapAt! _ _ = gg
 have h := stepG_le p (i == 0) gg.1 m.world b
 split <;> rename_i hs <;> rw [hs] at h
 . exact trivial
 . exact SLe.trans h (communicate_le ..)
 . exact h
 . exact h
 . split
   . exact trivial
   . exact h
 . exact h
 . exact SLe.trans h (look_le ..)
 . exact h
 . exact h
 . dsimp only
   split
   . exact h
   . split
     . rename_i hg; unfold endThrow dieOf at hg; cases hg; exact h
     . exact trivial
   . exact trivial
 . dsimp only
   split
   . rename_i ht; show _ <= _; exact Nat.le_trans h (Nat.le_of_eq (timer_eq ht).symm)
   . split
     . rename_i hg; unfold endThrow dieOf at hg; cases hg; exact h
     . exact trivial
   . exact trivial
   . exact trivial
def MLe (w : World) : Move -> Prop | .goroutine m _ => w.drawn <= m.world.drawn | .machine s _ => SLe w s
theorem MLe.trans {w w' : World} {s : Move} (h : w.drawn <= w'.drawn) (k : MLe w' s) : MLe w s := by cases s <;> first | exact Nat.le_trans h k | exact SLe.trans h k
theorem ending_le {w : World} (s : GStep) : MLe w (match s with | .ended o w _ => .machine (.ended o w) | _ => .machine (.ended (.stuck "" "") default)) := by split <;> exact trivial
theorem askOn_le (p : Program) (m : Machine) : MLe m.world (askOn p m) := by
 unfold askOn; dsimp only
 have pick : ∀ m' : Machine, m.world.drawn <= m'.world.drawn -> ∀ (rs : List Nat), MLe m.world (match (choose (.sched rs.length) : Sem Nat).run p m'.world with
  | .halt _ w => .machine (.ended (.stuck "sched" "") w)
  | .ok k world =>
    if rs.length <= 1 then .goroutine { m' with world } (rs.getD k 0) else
    match (choose (.extern "sched.slice" 65536) : Sem Nat).run p world with
    | .halt _ w => .machine (.ended (.stuck "sched.slice" "") w)
    | .ok n world => .goroutine { m' with world, rest := { m'.rest with slice := if n = 0 then none else some (rs.getD k 0, n) } } (rs.getD k 0)) := by
  intro m' hm rs
  have h := run_le p (choose (.sched rs.length) : Sem Nat) m'.world
  split <;> rename_i hr <;> rw [hr] at h
  . exact trivial
  . split
    . exact Nat.le_trans hm h
    . have h2 := run_le p (choose (.extern "sched.slice" 65536) : Sem Nat) ‹World›
      split <;> rename_i hr2 <;> rw [hr2] at h2
      . exact trivial
      . exact Nat.le_trans hm (Nat.le_trans h h2)
 generalize hx : Sem.run p _ m.world = r
 have h : RLe m.world r := hx ▸ run_le p _ m.world
 split
 . exact trivial
 . split
   . exact SLe.trans h (serve_le p { m with world := ‹World› } _)
   . split
     . split
       . exact h
       . split
         . exact h
         . exact ending_le _
     . split
       . rename_i wd _ _ _ _ _; exact pick { m with world := wd } h _
       . generalize hx2 : Sem.run p _ ‹World› = r2
         have h2 : RLe ‹World› r2 := hx2 ▸ run_le p _ ‹World›
         split
         . exact trivial
         . exact pick { m with world := _ } (Nat.le_trans h h2) _
         . exact Nat.le_trans h h2
         . exact pick (Machine.advanceTo { m with world := _ } _) (Nat.le_trans h h2) _
theorem ask1_le (p : Program) (m : Machine) : MLe m.world (Go.ask p m) := by
 unfold Go.ask; split
 . have h := run_le p (choose (.extern "collector.look" 2) : Sem Nat) m.world
   split <;> rename_i hr <;> rw [hr] at h
   . exact trivial
   . have h2 := look_le p m.gs m.rest ‹World›
     split <;> rename_i hl <;> (try rw [hl] at h2)
     . exact MLe.trans h (MLe.trans h2 (askOn_le p _))
     . exact SLe.trans h h2
   . exact MLe.trans h (askOn_le p { m with world := _ })
 . exact askOn_le p m
theorem move_le (p : Program) (m : Machine) : MLe m.world (move p m) := by
 unfold move; split
 . split
   . exact Nat.le_refl _
   . exact trivial
 . split
   . split
     . exact Nat.le_refl _
     . exact ask1_le p { m with rest := _ }
   . exact ask1_le p m
theorem step_le {p : Program} {m m' : Machine} (h : step p m = .next m') : m.world.drawn <= m'.world.drawn := by
 have hm := move_le p m
 unfold step stepT at h
 split at h <;> rename_i hv <;> rw [hv] at hm
 . rename_i m1 i; have := SLe.trans hm (runT1_le p m1 i true); rw [h] at this; exact this
 . have := hm; subst h; exact this
theorem steps_le {p : Program} {m m' : Machine} (h : Steps p m m') : m.world.drawn <= m'.world.drawn := by
 obtain ⟨n, hn⟩ := h
 induction n generalizing m with
 | zero => cases hn; exact Nat.le_refl _
 | succ n ih =>
   simp only [runN] at hn
   split at hn
   . rename_i hs; exact Nat.le_trans (step_le hs) (ih hn)
   . rename_i hs; exact absurd hn (hs _)
theorem Calls.drawn {P : Program} {f : FuncId} {args : Array Value} {w : World} {R : Ending -> World -> Prop} (h : Calls P f args w R) : Calls P f args w fun e w' => R e w' /\ (∀ v, e = .returned v -> w.drawn <= w'.drawn) := fun cs => by
 obtain ⟨e, w', fr, hr, hc, h1, h2⟩ := h cs
 refine ⟨e, w', fr, ⟨hr, ?_⟩, hc, h1, h2⟩
 rintro v rfl
 exact steps_le hc
end Go.Proofs.YtfhphiedbdinmaaGreatDoor.Ab
