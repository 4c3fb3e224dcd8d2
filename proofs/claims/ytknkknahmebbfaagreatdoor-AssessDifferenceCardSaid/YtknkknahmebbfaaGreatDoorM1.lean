/- A part of the proof: texts of the walk and of the plain laws, merged. No condition. -/
import Derived.Test.YtknkknahmebbfaaGreatDoorChecked
import Derived.KernelRfl
import Derived.WalkKit
import Derived.OrdersHeld
import Derived.OrdersIn
import Derived.RangeFuncCalls
import Derived.Laws.CopyRow
import Derived.Laws.StructEq
import Derived.Maps.AppendAt
import Derived.Laws.MakeOwn
import Derived.Laws.BytesArg
import Derived.Laws.Externs
import Derived.Laws.Cover3
import Derived.MapKept
import Derived.Shelf.SlSortCmp.NoneTotal
import Derived.Ground.SlsfProg
import Derived.Test.YtknkknahmebbfaaGreatDoorProg
import Derived.WalkSpells
import Derived.ChangeArms
import Derived.DataReads
import GoSem.ClaimJoined
import Derived.Test.YtknkknahmebbfaaGreatDoorRows
import Derived.ChangeSame
import Derived.ChangeVars
import Derived.JoinedOf
import Derived.RowKit
import Derived.RowKitTokens
import Derived.LaidLaws
import Derived.LaidHandle
import Derived.Carry
import Derived.Handed
import Derived.ChangeOld
import Derived.SevenTiedAt
import Derived.Test.YtknkknahmebbfaaGreatDoorCards
import Derived.Test.YtknkknahmebbfaaGreatDoorTie
set_option linter.unusedVariables false
set_option linter.unusedSimpArgs false
set_option maxHeartbeats 4000000
set_option maxRecDepth 100000
namespace Go.Proofs.YtknkknahmebbfaaGreatDoor
namespace SX
open Go
def fl (s:String) (t o b:Nat):Field:=⟨s,t,o,false, "", "",b⟩
def fq (s:String) (t o:Nat) (p:String) (b:Nat):Field:=⟨s,t,o,false, "",p,b⟩
def lk {α:Type} (t:Nat):List (Nat×α)→Option α
 | []=>none
 | (k,d)::l=>cond (Nat.beq t k) (some d) (lk t l)
def pk {α:Type} (t:Nat):List (Nat×List (Nat×α))→Option α
 | []=>none
 | (n,l)::r=>cond (Nat.blt t n) (lk t l) (pk t r)
def evi {α β:Type} (f:Nat→β):List (Nat×α)→List β
 | []=>[]
 | p::l=>f p.1::evi f l
theorem uj {α β:Type} {f:Nat→β} {g:α→β}:{l:List (Nat×α)}→evi f l=l.map (fun p=>g p.2)→∀ p∈l,f p.1=g p.2
 | [],_,p,q=>by cases q
 | x::l,h,p,q=>by
  have h1:f x.1=g x.2:=(List.cons.inj h).1
  have h2:evi f l=l.map (fun p=>g p.2):=(List.cons.inj h).2
  cases q with
  | head=>exact h1
  | tail _ q=>exact uj h2 p q
theorem lk_ok {α β:Type} {f:Nat→β} {g:α→β} {t:Nat} {d:α}:{l:List (Nat×α)}→(∀ p∈l,f p.1=g p.2)→lk t l=some d→f t=g d
 | [],_,e=>by cases e
 | (k,v)::l,h,e=>by
  unfold lk at e
  cases c:Nat.beq t k
  ·rw [c] at e;exact lk_ok (fun p q=>h p (List.Mem.tail _ q)) e
  rw [c] at e;injection e with e;subst e;rw [Nat.eq_of_beq_eq_true c];exact h _ (List.Mem.head _)
theorem w0 {α β:Type} {f:Nat→β} {g:α→β} {t:Nat} {d:α}:{L:List (Nat×List (Nat×α))}→(∀ p∈L.flatMap (·.2),f p.1=g p.2)→pk t L=some d→f t=g d
 | [],_,e=>by cases e
 | (n,l)::r,h,e=>by
  unfold pk at e
  rw [List.flatMap_cons] at h
  cases c:Nat.blt t n
  ·rw [c] at e;exact w0 (fun p q=>h p (List.mem_append_right _ q)) e
  rw [c] at e;exact lk_ok (fun p q=>h p (List.mem_append_left _ q)) e
abbrev du0:TypeDesc:=.struct #[fq "x" 2 0 "runtime" 0,fq "y" 3 1 "runtime" 8,fq "signed" 4 2 "runtime" 16,fq "code" 6 3 "runtime" 17]
abbrev du1:TypeDesc:=.struct #[fq "msg" 9 0 "runtime" 0,fq "addr" 12 1 "runtime" 16]
abbrev du2:TypeDesc:=.struct #[fl "Code" 9 0 0,fl "Origin" 9 1 16,fl "Proof" 4 2 32,fl "Company" 3 3 40,fl "Day" 3 4 48,fl "Quantity" 3 5 56,fl "Value" 3 6 64,fl "Granted" 3 7 72]
abbrev du3:TypeDesc:=.struct #[fl "Kind" 3 0 0,fl "Measure" 3 1 8,fl "Quantity" 3 2 16,fl "Value" 3 3 24,fl "Amount" 3 4 32]
abbrev du4:TypeDesc:=.struct #[fl "Rate" 3 0 0,fl "Amount" 3 1 8,fl "Per" 3 2 16,fl "HasMost" 4 3 24,fl "Most" 3 4 32,fl "HasLeast" 4 5 40,fl "Least" 3 6 48]
abbrev du5:TypeDesc:=.struct #[fl "ID" 3 0 0,fl "Kind" 3 1 8,fl "Prefix" 9 2 16,fl "Origins" 44 3 32,fl "Company" 3 4 56,fl "From" 3 5 64,fl "To" 3 6 72,fl "Registered" 3 7 80,fl "Duty" 46 8 88]
abbrev du6:TypeDesc:=.struct #[fq "keys" 61 0 "customs/assess" 0,fq "sums" 62 1 "customs/assess" 24]
abbrev du7:TypeDesc:=.struct #[fq "kind" 3 0 "customs/assess" 0,fq "measure" 3 1 "customs/assess" 8]
abbrev du8:TypeDesc:=.struct #[fl "Hi" 78 0 0,fl "Lo" 78 1 8]
abbrev du9:TypeDesc:=.struct #[fq "quantity" 3 0 "customs/assess" 0,fq "value" 3 1 "customs/assess" 8,fq "kinds" 22 2 "customs/assess" 16]
abbrev du10:TypeDesc:=.struct #[fq "index" 3 0 "customs/apportion" 0,fq "share" 78 1 "customs/apportion" 8,fq "rest" 78 2 "customs/apportion" 16]
abbrev du11:TypeDesc:=.struct #[fq "compare" 147 0 "customs/apportion" 0]
abbrev du12:TypeDesc:=.struct #[fq "lo" 5 0 "unicode/utf8" 0,fq "hi" 5 1 "unicode/utf8" 1]
abbrev du13:TypeDesc:=.struct #[fq "_interface" 17 0 "runtime" 0,fq "concrete" 17 1 "runtime" 8,fq "asserted" 17 2 "runtime" 16,fq "missingMethod" 9 3 "runtime" 24]
abbrev du14:TypeDesc:=.struct #[fl "Size_" 12 0 0,fl "PtrBytes" 12 1 8,fl "Hash" 123 2 16,fl "TFlag" 205 3 20,fl "Align_" 5 4 21,fl "FieldAlign_" 5 5 22,fl "Kind_" 206 6 23,fl "Equal" 207 7 24,fl "GCData" 208 8 32,fl "Str" 209 9 40,fl "PtrToThis" 210 10 44]
abbrev dv0:Value:=.agg #[.int .i64 0,.int .i64 0,.bool false,.int .u8 0]
abbrev dv1:Value:=.pointer none
abbrev dv2:Value:=.slice none 0 0
abbrev dv3:Value:=.agg #[.slice none 0 0,.int .i64 0]
abbrev dv4:Value:=.agg #[.string ByteArray.empty,.string ByteArray.empty,.bool false,.int .i64 0,.int .i64 0,.int .i64 0,.int .i64 0,.int .i64 0]
abbrev dv5:Value:=.agg #[.int .i64 0,.int .i64 0,.int .i64 0,.int .i64 0,.int .i64 0]
abbrev dv6:Value:=.agg #[.int .i64 0,.int .i64 0,.int .i64 0,.bool false,.int .i64 0,.bool false,.int .i64 0]
abbrev dv7:Value:=.agg #[.int .i64 0,.int .i64 0,.string ByteArray.empty,.slice none 0 0,.int .i64 0,.int .i64 0,.int .i64 0,.int .i64 0,.int .i64 0,.int .i64 0,.int .i64 0,.bool false,.int .i64 0,.bool false,.int .i64 0]
abbrev dv8:Value:=.agg #[.int .u64 0,.int .u64 0]
abbrev dv9:Value:=.agg #[.pointer none,.pointer none,.pointer none,.string ByteArray.empty]
abbrev dv10:Value:=.agg #[.int .u64 0,.int .u64 0,.int .u32 0,.int .u8 0,.int .u8 0,.int .u8 0,.int .u8 0,.nilFunc,.pointer none,.int .i32 0,.int .i32 0]
def uL:List (Nat×List (Nat×TypeDesc)):=[(9,[(0,.tuple #[]),(1,.func #[] #[] false),(2,.int .i64),(3,.int .i64),(4,.bool),(5,.int .u8),(6,.int .u8),(7,du0),(8,du0)]),(18,[(9,.string),(10,.string),(11,.string),(12,.int .u64),(13,du1),(14,du1),(15,.pointer 201),(16,.pointer 204),(17,.pointer 212)]),(27,[(18,.struct #[fq "typ" 17 0 "internal/runtime/maps" 0]),(19,.struct #[fq "typ" 17 0 "internal/runtime/maps" 0]),(20,.interface #[]),(21,.int .i32),(22,.slice 3),(23,.slice 37),(24,.struct #[fl "Lines" 23 0 0,fl "Total" 3 1 24]),(25,.struct #[fl "Lines" 23 0 0,fl "Total" 3 1 24]),(26,.int .i64)]),(45,[(27,.tuple #[25,26]),(28,.func #[29,32] #[25,26] false),(29,.slice 48),(31,du2),(32,du2),(36,du3),(37,du3),(42,.tuple #[22,26]),(44,.slice 9)]),(54,[(45,du4),(46,du4),(47,du5),(48,du5),(49,.tuple #[48,4]),(50,.func #[29,3,9,9,3,3] #[48,4] false),(51,.tuple #[3,26]),(52,.func #[46,3,3] #[3,26] false),(53,.pointer 56)]),(66,[(54,.func #[22,3] #[22] false),(55,.struct #[fl "L" 22 0 0,fl "I" 3 1 24]),(56,.struct #[fl "L" 22 0 0,fl "I" 3 1 24]),(57,.func #[3] #[3] false),(61,.slice 67),(62,.map 67 3),(63,du6),(64,du6),(65,.func #[67,3] #[] false)]),(80,[(66,du7),(67,du7),(68,.func #[61,71] #[] false),(69,.func #[22] #[3] true),(70,.func #[3,3] #[3] false),(71,.func #[67,67] #[3] false),(74,.tuple #[26,4]),(78,.int .u64),(79,du8)]),(105,[(80,du8),(81,.tuple #[80,78]),(88,.tuple #[80,4]),(92,.tuple #[78,26]),(95,.slice 5),(96,.pointer 64),(97,.tuple #[3,4]),(100,.int .u64),(104,.func #[48] #[4] false)]),(131,[(105,.slice 109),(106,.tuple #[105,26]),(108,du9),(109,du9),(110,.tuple #[37,4,26]),(116,.int .i64),(117,.tuple #[3,116]),(123,.int .u32),(130,.int .u64)]),(150,[(134,.pointer 3),(136,.array 4 3),(141,.slice 146),(143,.int .i64),(145,du10),(146,du10),(147,.func #[146,146] #[3] false),(148,du11),(149,du11)]),(168,[(151,du8),(153,.func #[3] #[151] false),(154,.tuple #[151,26]),(158,.pointer 130),(159,.tuple #[3,3]),(162,.array 256 4),(163,.array 256 4),(164,.tuple #[163,4]),(167,.pointer 163)]),(201,[(171,.tuple #[78,78]),(175,.tuple #[21,3]),(180,.interface #[("Error",199)]),(181,.interface #[("Error",199)]),(188,.array 256 5),(189,du12),(190,du12),(191,.array 16 190),(200,du13)]),(210,[(201,du13),(202,.array 0 16),(203,.struct #[fq "_" 202 0 "runtime" 0]),(204,.struct #[fq "_" 202 0 "runtime" 0]),(205,.int .u8),(206,.int .u8),(207,.func #[215,215] #[4] false),(208,.pointer 5),(209,.int .i32)]),(213,[(210,.int .i32),(211,du14),(212,du14)])]
def dv (t:Nat):Option TypeDesc:=pk t uL
theorem br {t:Nat} {d:TypeDesc}:dv t=some d→Tryz.prog.underlying t=some d:=w0 (f:=Tryz.prog.underlying) (g:=some) (uj (by kernel_rfl))
def iL:List (Nat×List (Nat×Value×Nat×Nat)):=[(10,[(1,.nilFunc,1,8),(2,.int .i64 0,1,8),(3,.int .i64 0,1,8),(4,.bool false,1,1),(5,.int .u8 0,1,1),(6,.int .u8 0,1,1),(7,dv0,4,24),(8,dv0,4,24),(9,.string ByteArray.empty,1,16)]),(19,[(10,.string ByteArray.empty,1,16),(11,.string ByteArray.empty,1,16),(12,.int .u64 0,1,8),(13,.agg #[.string ByteArray.empty,.int .u64 0],2,24),(14,.agg #[.string ByteArray.empty,.int .u64 0],2,24),(15,dv1,1,8),(16,dv1,1,8),(17,dv1,1,8),(18,.agg #[.pointer none],1,8)]),(29,[(19,.agg #[.pointer none],1,8),(20,.nilIface,1,16),(21,.int .i32 0,1,4),(22,dv2,1,24),(23,dv2,1,24),(24,dv3,2,32),(25,dv3,2,32),(26,.int .i64 0,1,8),(28,.nilFunc,1,8)]),(48,[(29,dv2,1,24),(31,dv4,8,80),(32,dv4,8,80),(36,dv5,5,40),(37,dv5,5,40),(44,dv2,1,24),(45,dv6,7,56),(46,dv6,7,56),(47,dv7,15,144)]),(62,[(48,dv7,15,144),(50,.nilFunc,1,8),(52,.nilFunc,1,8),(53,dv1,1,8),(54,.nilFunc,1,8),(55,dv3,2,32),(56,dv3,2,32),(57,.nilFunc,1,8),(61,dv2,1,24)]),(71,[(62,.map none,1,8),(63,.agg #[.slice none 0 0,.map none],2,32),(64,.agg #[.slice none 0 0,.map none],2,32),(65,.nilFunc,1,8),(66,.agg #[.int .i64 0,.int .i64 0],2,16),(67,.agg #[.int .i64 0,.int .i64 0],2,16),(68,.nilFunc,1,8),(69,.nilFunc,1,8),(70,.nilFunc,1,8)]),(106,[(71,.nilFunc,1,8),(78,.int .u64 0,1,8),(79,dv8,2,16),(80,dv8,2,16),(95,dv2,1,24),(96,dv1,1,8),(100,.int .u64 0,1,8),(104,.nilFunc,1,8),(105,dv2,1,24)]),(144,[(108,.agg #[.int .i64 0,.int .i64 0,.slice none 0 0],3,40),(109,.agg #[.int .i64 0,.int .i64 0,.slice none 0 0],3,40),(116,.int .i64 0,1,8),(123,.int .u32 0,1,4),(130,.int .u64 0,1,8),(134,dv1,1,8),(136,.agg #[.int .i64 0,.int .i64 0,.int .i64 0,.int .i64 0],4,32),(141,dv2,1,24),(143,.int .i64 0,1,8)]),(163,[(145,.agg #[.int .i64 0,.int .u64 0,.int .u64 0],3,24),(146,.agg #[.int .i64 0,.int .u64 0,.int .u64 0],3,24),(147,.nilFunc,1,8),(148,.agg #[.nilFunc],1,8),(149,.agg #[.nilFunc],1,8),(151,dv8,2,16),(153,.nilFunc,1,8),(158,dv1,1,8),(162,.agg (List.replicate 256 (.bool false)).toArray,256,256)]),(201,[(163,.agg (List.replicate 256 (.bool false)).toArray,256,256),(167,dv1,1,8),(180,.nilIface,1,16),(181,.nilIface,1,16),(188,.agg (List.replicate 256 (.int .u8 0)).toArray,256,256),(189,.agg #[.int .u8 0,.int .u8 0],2,2),(190,.agg #[.int .u8 0,.int .u8 0],2,2),(191,.agg #[.int .u8 0,.int .u8 0,.int .u8 0,.int .u8 0,.int .u8 0,.int .u8 0,.int .u8 0,.int .u8 0,.int .u8 0,.int .u8 0,.int .u8 0,.int .u8 0,.int .u8 0,.int .u8 0,.int .u8 0,.int .u8 0,.int .u8 0,.int .u8 0,.int .u8 0,.int .u8 0,.int .u8 0,.int .u8 0,.int .u8 0,.int .u8 0,.int .u8 0,.int .u8 0,.int .u8 0,.int .u8 0,.int .u8 0,.int .u8 0,.int .u8 0,.int .u8 0],32,32),(200,dv9,4,40)]),(210,[(201,dv9,4,40),(202,.agg #[],0,0),(203,.agg #[],0,0),(204,.agg #[],0,0),(205,.int .u8 0,1,1),(206,.int .u8 0,1,1),(207,.nilFunc,1,8),(208,dv1,1,8),(209,.int .i32 0,1,4)]),(213,[(210,.int .i32 0,1,4),(211,dv10,11,48),(212,dv10,11,48)])]
def dU (t:Nat):Option (Value×Nat×Nat):=pk t iL
noncomputable def iF (t:Nat):Option (Option Value×Nat×Nat):=(Tryz.prog.info? t).map (fun i=>(i.zero,i.size,i.bytes))
def iG (d:Value×Nat×Nat):Option (Option Value×Nat×Nat):=some (some d.1,d.2.1,d.2.2)
theorem inf_ok {t:Nat} {d:Value×Nat×Nat} (h:dU t=some d):(Tryz.prog.info? t).map (fun i=>(i.zero,i.size,i.bytes))=some (some d.1,d.2.1,d.2.2):=w0 (L:=iL) (f:=iF) (g:=iG) (uj (by kernel_rfl)) h
def mn (t:Nat):Option (List (Nat×Nat)):=match dv t with
 | some (.struct fs)=>some (fs.toList.map fun fd=>(fd.offset,fd.type))
 | _=>none
def FldOk (t:Nat) (l:List (Nat×Nat)):Prop:=∃ fs:Array Field,dv t=some (.struct fs)∧fs.toList.map (fun fd=>(fd.offset,fd.type))=l
theorem vd {t:Nat} {l:List (Nat×Nat)} (h:mn t=some l):FldOk t l:=by
 unfold mn at h
 split at h
 ·rename_i fs e;exact ⟨fs,e,Option.some.inj h⟩
 cases h
theorem ft {α β:Type} (a:α) (f:α→Option β):Option.bind (some a) f=f a:=rfl
theorem eY {α:Type _} {a b:α}:(bif false then a else b)=b:=rfl
theorem cZ {α:Type _} {a b:α}:(bif true then a else b)=a:=rfl
theorem cU {p:Prop} [Decidable p] (h:¬p):decide p=false:=decide_eq_false h
theorem det {p:Prop} [Decidable p] (h:p):decide p=true:=decide_eq_true h
theorem da {α:Type _} {a b:α}:(some a=some b)=(a=b):=Option.some.injEq a b
theorem oj {p:Program} {w w':World} {at_:Addr} {u:TypeId} {k:Addr} {v:Value} {b:Bool} {l:List Addr} (h:w.viewStore p at_ u k v b=.ok (w',l)):w'.drawn=w.drawn:=by
 unfold World.viewStore at h
 have hth:∀ {α:Type} (e:String),(MonadExcept.throw e:Except String α)=Except.error e:=fun _=>rfl
 simp only [bind,Except.bind,pure,Except.pure,hth] at h
 split at h
 ·cases h
 split at h
 ·cases h
 split at h
 ·split at h
  ·cases h
  split at h
  ·cases h
  injection h with h;injection h with h1 h2;subst h1;rfl
 cases h
theorem ni {α:Type}:∀ (a:Ask α) (w:World),w.drawn≤(w.ask a).2.drawn
 | .done _,w=>Nat.le_refl _
 | .ask what range k,w=>by
  unfold World.ask
  simp only
  split
  ·exact ni _ _
  exact Nat.le_trans (Nat.le_succ _) (ni (k _) { w with drawn:=w.drawn+1 })
theorem vW (w:World) (c:Sys):w.drawn≤(w.sys c).2.drawn:=by
 have h:=ni (Kernel.perform c w.os) w
 unfold World.sys
 generalize w.ask (Kernel.perform c w.os)=q at h ⊢
 obtain ⟨⟨r,os⟩,w1⟩:=q
 cases r <;> first | exact Nat.le_refl _ | exact h
theorem nj {α:Type} (p:Program):∀ (s:Sem α) (w:World) (a:α) (w':World),s.run p w=.ok a w'→w.drawn≤w'.drawn:=by
  intro s
  induction s with
  | pure a=>intro w a' w' h;simp only [Sem.run] at h;injection h with h1 h2;subst h2;exact Nat.le_refl _
  | load m a k ih =>
    intro w a' w' h;simp only [Sem.run] at h
    split at h
    · exact ih _ _ _ _ h
    · split at h
      · exact ih _ _ _ _ h
      · cases h
  | store m a v k ih =>
    intro w a' w' h
    cases v <;> simp only [Sem.run] at h <;> first
      | (cases h;done)
      | (split at h
         · split at h
           · cases h
           have:=ih _ _ _ h;exact this
         · split at h
           · rename_i w1 l1 hf
             have:=ih _ _ _ h
             unfold World.farStore at hf
             split at hf
             · split at hf
               · rename_i r hv;injection hf with hf;subst hf;rw [← oj hv];exact this
               cases hf
             cases hf
           · cases h)
  | new o k ih=>intro w a' w' h;simp only [Sem.run] at h;have:=ih _ _ _ _ h;exact this
  | shape r k ih=>intro w a' w' h;simp only [Sem.run] at h;exact ih _ _ _ _ h
  | freeze a n k ih=>intro w a' w' h;simp only [Sem.run] at h;have:=ih _ _ _ h;unfold World.freeze at this;split at this <;> exact this
  | frozen a k ih=>intro w a' w' h;simp only [Sem.run] at h;exact ih _ _ _ _ h
  | getObj r k ih =>
    intro w a' w' h;simp only [Sem.run] at h
    split at h
    · cases h
    · exact ih _ _ _ _ h
    · cases h
  | setObj r o k ih =>
    intro w a' w' h;simp only [Sem.run] at h
    split at h
    · cases h
    · have:=ih _ _ _ h;exact this
    · cases h
  | choose q k ih =>
    intro w a' w' h;simp only [Sem.run] at h
    split at h
    · exact ih _ _ _ _ h
    · have:=ih _ _ _ _ h;exact Nat.le_trans (Nat.le_succ _) this
  | sys c k ih=>intro w a' w' h;simp only [Sem.run] at h;exact Nat.le_trans (vW w c) (ih _ _ _ _ h)
  | program k ih=>intro w a' w' h;simp only [Sem.run] at h;exact ih _ _ _ _ h
  | mark m k ih=>intro w a' w' h;simp only [Sem.run] at h;exact ih _ _ _ h
  | halt h=>intro w a' w' hh;simp only [Sem.run] at hh;cases hh
abbrev Env:=Nat→Value
def upd (σ:Env) (d:Nat) (v:Value):Env:=fun t=>cond (Nat.beq t d) v (σ t)
def kA (σ:Env) (d:Option Nat) (v:Value):Env:=match d with | none=>σ | some d=>upd σ d v
def oL (σ:Env):List (Nat×Value)→Env
 | []=>σ
 | (d,v)::l=>upd (oL σ l) d v
def ev (σ:Env):Operand→Value
 | .tmp t=>σ t
 | .const v=>v
 | .global g=>.pointer (some ⟨g,0,none⟩)
 | .func f=>.func (.func f) #[] #[]
def w6 (args:Array Value):Env:=fun t=>args.toList.getD t undef
def oM (n:Nat):Option Nat→Bool
 | none=>true
 | some d=>Nat.blt d n
def Rel (df:List Deferred) (n:Nat) (a:Act) (σ:Env):Prop:=a.tmps.size=n∧a.defers=df∧∀ t,a.tmps.getD t undef=σ t
theorem w7 {σ:Env} {d:Nat} {v:Value} (h:σ d=v):upd σ d v=σ:=by
 funext t;unfold upd;cases e:Nat.beq t d
 ·rfl
 rw [Nat.eq_of_beq_eq_true e,h];rfl
theorem Rel.put {df:List Deferred} {n:Nat} {a:Act} {σ:Env} (h:Rel df n a σ) {d:Option Nat} (hd:oM n d=true) (v:Value):Rel df n (a.put d v) (kA σ d v):=by
 obtain ⟨h1,h2,h3⟩:=h
 cases d with
 | none=>exact ⟨h1,h2,h3⟩
 | some d =>
  have hlt:d<n:=by have h:=hd;simp [oM,Nat.blt] at h;omega
  refine ⟨by simp [Act.put,h1],h2,fun t=>?_⟩
  simp only [Act.put,kA,upd]
  rw [← h3 t]
  cases e:Nat.beq t d
  ·have hne:t≠d:=fun h=>by rw [h] at e;simp at e
   simp only [eY,Array.getD_eq_getD_getElem?]
   rw [Array.getElem?_setIfInBounds_ne (by omega)]
  have:=Nat.eq_of_beq_eq_true e;subst this
  simp only [cZ,Array.getD_eq_getD_getElem?]
  rw [Array.getElem?_setIfInBounds_self_of_lt (by omega)];rfl
theorem Rel.eval {df:List Deferred} {n:Nat} {a:Act} {σ:Env} (h:Rel df n a σ):a.eval=ev σ:=by
 funext x;cases x <;> simp [Act.eval,ev,h.2.2]
theorem xa (args:Array Value) (n:Nat) (h:args.size≤n):Rel [] n { tmps:=args++Array.replicate (n - args.size) undef,defers:=[] } (w6 args):=by
 refine ⟨by simp;omega,rfl,fun t=>?_⟩
 simp only [w6,Array.getD_eq_getD_getElem?,List.getD_eq_getElem?_getD,Array.getElem?_toList]
 rcases Nat.lt_or_ge t args.size with ht | ht
 ·rw [Array.getElem?_append_left ht]
 rw [Array.getElem?_append_right ht,Array.getElem?_eq_none ht]
 rcases Nat.lt_or_ge (t - args.size) (n - args.size) with h2 | h2
 ·simp [h2]
 rw [Array.getElem?_eq_none (by simpa using h2)]
structure Kr where
 w:World
 S:Nat→Prop
structure Kle (κ κ':Kr):Prop where
 size:κ.w.heap.size≤κ'.w.heap.size
 sh:∀ b,κ.S b→κ'.S b
 keep:∀ b,κ.S b→κ'.w.heap[b]?=κ.w.heap[b]?
theorem Kle.refl (κ:Kr):Kle κ κ:=⟨Nat.le_refl _,fun _ h=>h,fun _ _=>rfl⟩
theorem Kle.trans {a b c:Kr} (h:Kle a b) (k:Kle b c):Kle a c :=
 ⟨Nat.le_trans h.size k.size,fun x hx=>k.sh x (h.sh x hx),fun x hx=>(k.keep x (h.sh x hx)).trans (h.keep x hx)⟩
structure Res where
 blk:Option Nat
 says:Option Obj→Prop
def Res.holds (r:Res) (w:World):Prop:=match r.blk with | none=>r.says none | some b=>r.says w.heap[b]?
structure Base where
 k0:Kr
 M:List Nat
 ro:Option Nat
def vX:Bool:=true
def DrGo (a b:Nat):Prop:=vX=true→a≤b
theorem DrGo.refl (a:Nat):DrGo a a:=fun _=>Nat.le_refl _
theorem DrGo.of {a b:Nat} (h:a≤b):DrGo a b:=fun _=>h
theorem DrGo.trans {a b c:Nat} (h:DrGo a b) (k:DrGo b c):DrGo a c:=fun e=>Nat.le_trans (h e) (k e)
structure Le (M:List Nat) (κ κ':Kr):Prop where
 kle:Kle κ κ'
 same:∀ b,b<κ.w.heap.size→b ∉ M→κ'.w.heap[b]?=κ.w.heap[b]?
 shNew:∀ b,κ'.S b→κ.S b∨κ.w.heap.size≤b∨b∈M
 os:κ'.w.os=κ.w.os
 tape:κ'.w.tape=κ.w.tape
 output:κ'.w.output=κ.w.output
 drawn:DrGo κ.w.drawn κ'.w.drawn
theorem Le.refl (M:List Nat) (κ:Kr):Le M κ κ:=⟨.refl _,fun _ _ _=>rfl,fun _ h=>.inl h,rfl,rfl,rfl,.refl _⟩
structure Zi (β:Base) (ρ:List Res) (κ:Kr):Prop where
 le:Le β.M β.k0 κ
 fin:∀ b,κ.S b→b<κ.w.heap.size
 own:∀ r∈ρ,r.holds κ.w
 blk:∀ r∈ρ,∀ b,r.blk=some b→b<κ.w.heap.size∧¬ κ.S b∧(β.k0.w.heap.size≤b∨b∈β.M)
 nd:ρ.Pairwise fun r s=>∀ b,r.blk=some b→s.blk≠some b
abbrev Post:=Env→List Res→Kr→Prop
def NP (Q:Act→World→Prop):Exit→Act→World→Prop:=fun e a w=>e=.normal∧Q a w
def kB (o:Oper):Bool:=match o.op with | .defer _=>false | _=>true
theorem sn {o:Oper} (h:kB o=true) (c:_):o.op≠.defer c:=fun e=>by unfold kB at h;rw [e] at h;cases h
def ko:Code→Bool
 | .seq x y=>ko x&&ko y
 | .cond _ x y=>ko x&&ko y
 | .block _ x=>ko x
 | .loop x=>ko x
 | .region _ ops _=>ops.all kB
 | .rangeFunc ..=>false
 | _=>true
def qW (ro:Option Nat) (c:Code) (Q:Exit→Act→World→Prop) (a:Act) (w:World):Prop:=match ro with
 | none=>c.wp Tryz.prog Q a w
 | some l=>ko c=true→c.wpIn (Fence.wide.inRound l) 0 Tryz.prog Q a w
section
variable {ro:Option Nat} {Q Q':Exit→Act→World→Prop} {a:Act} {w:World} {x y:Code} {id:Nat}
theorem oN (h:qW ro x Q a w) (hq:∀ e a w,Q e a w→Q' e a w):qW ro x Q' a w:=by
 cases ro with
 | none=>exact wp_mono h hq
 | some l=>exact fun hn=>wpIn_mono (h hn) hq
theorem xb (h:Q .normal a w):qW ro .skip Q a w:=by
 cases ro with
 | none=>exact wp_skip h
 | some l=>exact fun _=>wpIn_skip h
theorem cwp_ret (h:Q .ret a w):qW ro .ret Q a w:=by
 cases ro with
 | none=>exact wp_ret h
 | some l=>exact fun _=>wpIn_ret h
theorem xc (h:Q (.exit id) a w):qW ro (.exit id) Q a w:=by
 cases ro with
 | none=>exact wp_exit h
 | some l=>exact fun _=>wpIn_exit h
theorem cwp_seq (h:qW ro x (Exit.then (qW ro y Q) Q) a w):qW ro (.seq x y) Q a w:=by
 cases ro with
 | none=>exact wp_seq h
 | some l =>
  intro hn
  have hn:(ko x&&ko y)=true:=hn
  rw [Bool.and_eq_true] at hn
  exact wpIn_seq (wpIn_mono (h hn.1) fun e a w k=>by
   cases e with
   | normal=>exact k hn.2
   | _=>exact k)
theorem vY (h:qW ro x (Exit.inBlock id Q) a w):qW ro (.block id x) Q a w:=by
 cases ro with
 | none=>exact wp_block h
 | some l=>exact fun hn=>wpIn_block (h hn)
theorem oO {c:Operand} {t:Bool} (hc:a.eval c=.bool t) (ht:t=true→qW ro x Q a w) (hf:t=false→qW ro y Q a w):qW ro (.cond c x y) Q a w:=by
 cases ro with
 | none=>exact wp_cond_split hc ht hf
 | some l =>
  intro hn
  have hn:(ko x&&ko y)=true:=hn
  rw [Bool.and_eq_true] at hn
  exact wpIn_cond_split hc (fun h=>ht h hn.1) (fun h=>hf h hn.2)
theorem rows_in {row:String} {args:Array Value} {R:Value→World→Prop} {l n:Nat} (h:Rows Tryz.prog row args w R):RowsIn (Fence.wide.inRound l) n Tryz.prog row args w R :=
 fun c cs _=>let ⟨v,w',r,s⟩:=h c cs;⟨v,w',r,stepsIn_wide.2 s⟩
theorem xd {f:FuncId} {args:Array Value} {R:Ending→World→Prop} {l n:Nat} (h:Calls Tryz.prog f args w R):CallsIn (Fence.wide.inRound l) n Tryz.prog f args w R :=
 CallsIn.inRound l (callsIn_wide.2 h)
theorem oP {Q:Act→World→Prop}:¬ LetsOut (NP Q):=fun ⟨_,_,h⟩=>by cases h.1
theorem op_in {o:Oper} {K K':Act→World→Prop} {Q:Act→World→Prop} {l n:Nat} (hn:kB o=true) (hk:∀ a w,K a w→K' a w) (h:o.wp Tryz.prog a w K (NP Q)):o.wpIn (Fence.wide.inRound l) n Tryz.prog a w K' (NP Q):=by
 refine ⟨fun _ _=>trivial,?_⟩
 rw [Oper.semAt_eq _ _ _ (sn hn)]
 unfold Oper.wp at h
 generalize (execOp a.eval o).run Tryz.prog w=r at *
 cases r with
 | ok v w' =>
  cases v <;> simp only [Oper.upon,Oper.uponIn] at h ⊢ <;> first
   | exact hk _ _ h
   | exact ⟨fun h=>(by cases h),CallsIn.mono (xd h) fun e w'' he=>by cases e <;> first | exact hk _ _ he | exact he⟩
   | exact ⟨fun h=>(by cases h),RowsIn.mono (rows_in h) fun _ _ he=>hk _ _ he⟩
   | exact h.elim
 | halt v w'=>cases v <;> simp only [Oper.upon,Oper.uponIn] at h ⊢ <;> exact h
theorem qX {ops:Array Oper} {Q:Act→World→Prop} {l:Nat} (hn:∀ (i:Nat) (o:Oper),ops[i]?=some o→kB o=true):∀ (is:List Nat) (a:Act) (w:World),wpOps Tryz.prog ops (NP Q) is a w→wpOpsIn (Fence.wide.inRound l) 0 Tryz.prog ops (NP Q) is a w
 | [],_,_,h=>h
 | i::is,a,w,h=>by
  unfold wpOps at h
  unfold wpOpsIn
  cases ho:ops[i]? with
  | none=>rw [ho] at h;exact qX hn is a w h
  | some o =>
   simp only [ho] at h ⊢
   split
   ·rename_i hw
    rw [if_pos hw] at h
    rcases h with h | h
    ·exact op_in (hn i o ho) (fun a w=>qX hn is a w) h
    exact absurd h.2 oP
   rename_i hw
   rw [if_neg hw] at h
   exact ⟨fun _ _=>trivial,qX hn is _ w h⟩
theorem qY {md:Region.Mode} {ops:Array Oper} {Q:Act→World→Prop} {l:Nat} (hn:∀ (i:Nat) (o:Oper),ops[i]?=some o→kB o=true):∀ (fuel:Nat) (L:Array Bool) (a:Act) (w:World),wpAny Tryz.prog md ops (NP Q) fuel L a w→wpAnyIn (Fence.wide.inRound l) 0 Tryz.prog md ops (NP Q) fuel L a w
 | 0,_,_,_,h=>h
 | fuel+1,L,a,w,h=>⟨h.1,fun i hi=>by
  have h:=h.2 i hi
  unfold wpOp at h
  unfold wpOpIn
  cases ho:ops[i]? with
  | none=>rw [ho] at h;exact qY hn fuel _ a w h
  | some o =>
   simp only [ho] at h ⊢
   split
   ·rename_i hw
    rw [if_pos hw] at h
    rcases h with h | h
    ·exact op_in (hn i o ho) (fun a w=>qY hn fuel _ a w) h
    exact absurd h.2 oP
   rename_i hw
   rw [if_neg hw] at h
   exact ⟨fun _ _=>trivial,qY hn fuel _ _ w h⟩⟩
theorem qt {ops:Array Oper} {b:Bool} (h:ko (.region id ops b)=true):∀ (i:Nat) (o:Oper),ops[i]?=some o→kB o=true:=fun i o ho=>by
 have h:ops.all kB=true:=h
 obtain ⟨hi,rfl⟩:=Array.getElem?_eq_some_iff.1 ho
 exact Array.all_eq_true.1 h i hi
theorem uk {l:List Oper} {Q:Act→World→Prop} (h:wpList Tryz.prog l.toArray (NP Q) l a w):qW ro (.region id l.toArray false) (NP Q) a w:=by
 cases ro with
 | none=>exact wp_region_lit h
 | some k =>
  intro hn
  refine wpIn_region (qX (qt hn) _ a w ?_)
  rw [List.range_eq_range',show l.toArray.size=l.length by simp,wpOps_eq_wpList l 0 (by simp)];exact h
theorem kC {ops:Array Oper} {Q:Act→World→Prop} (hm:Tryz.prog.follows .mixedOrders=true) (h:wpAny Tryz.prog .any ops (NP Q) ops.size (Array.replicate ops.size false) a { w with drawn:=w.drawn+1 }):qW ro (.region id ops true) (NP Q) a w:=by
 cases ro with
 | none=>exact wp_region_any hm h
 | some k=>exact fun hn=>wpIn_region_any hm (qY (qt hn) _ _ _ _ h)
theorem ol {ops:Array Oper} {Q:Act→World→Prop} {S:World→Prop} (hm:Tryz.prog.follows .mixedOrders=true) (h:wpAnyH Tryz.prog .any ops (NP Q) S ops.size (Array.replicate ops.size false) a { w with drawn:=w.drawn+1 }):qW ro (.region id ops true) (NP Q) a w :=
 kC hm (wpAny_of_held _ _ _ _ h)
theorem mq {F:Fence} {X:Type} (J:X→Act→World→Prop) (μ:X→Nat) (x0:X) (h0:J x0 a w)
    (round:∀ z a w,J z a w→x.wpIn F 0 Tryz.prog (fun e a w=>match e with | .normal=>∃ z',J z' a w∧μ z'<μ z | e=>Q e a w) a w):(Code.loop x).wpIn F 0 Tryz.prog Q a w:=fun b k cs hro hb hr=>by
  have key:∀ (m:Nat) (z:X) (a:Act) (w:World),μ z=m→J z a w→∃ e a' w',Q e a' w'∧ArrivesIn (Machine.fenced Tryz.prog F) Tryz.prog (lone (b.atR a (.code x::.inLoop x::k)) cs w) b k cs e a' w':=by
    intro m
    induction m using Nat.strongRecOn with
    | _ m ih =>
      intro z a w hm hJ
      obtain ⟨e,a₁,w₁,hq₁,harr⟩:=round z a w hJ b (.inLoop x::k) cs hro hb hr
      cases e with
      | normal =>
        obtain ⟨z',hz,hlt⟩:=hq₁
        obtain ⟨e₂,a₂,w₂,hq₂,harr₂⟩:=ih (μ z') (hm ▸ hlt) z' a₁ w₁ rfl hz
        exact ⟨e₂,a₂,w₂,hq₂,.of_steps (StepsIn.trans harr (.one (fenced_calm hb hr rfl) stepR_inLoop)) harr₂⟩
      | exit id=>exact ⟨_,a₁,w₁,hq₁,.pass (x:=.inLoop x) rfl (fun _ _=>.inl (by simp)) harr⟩
      | goto l=>exact ⟨_,a₁,w₁,hq₁,.pass (x:=.inLoop x) rfl (fun _ _=>.inl (by simp)) harr⟩
      | ret=>exact ⟨_,a₁,w₁,hq₁,.pass (x:=.inLoop x) rfl (fun _ _=>.inl (by simp)) harr⟩
      | panic ch=>exact ⟨_,a₁,w₁,hq₁,.pass (x:=.inLoop x) rfl (fun _ _=>.inl (by simp)) harr⟩
      | outgrown=>exact ⟨_,a₁,w₁,hq₁,.pass (x:=.inLoop x) rfl (fun _ _=>.inl (by simp)) harr⟩
  obtain ⟨e,a',w',hq',harr⟩:=key _ x0 a w rfl h0
  exact ⟨e,a',w',hq',.of_steps (.one (fenced_calm hb hr rfl) stepR_loop) harr⟩
theorem xe {X:Type} (J:X→Act→World→Prop) (μ:X→Nat) (x0:X) (h0:J x0 a w)
    (round:∀ z a w,J z a w→qW ro x (fun e a w=>match e with | .normal=>∃ z',J z' a w∧μ z'<μ z | e=>Q e a w) a w):qW ro (.loop x) Q a w:=by
  cases ro with
  | none=>exact wpIn_wide.1 (mq J μ x0 h0 fun z a w hJ=>wpIn_wide.2 (round z a w hJ))
  | some l=>exact fun hn=>mq J μ x0 h0 fun z a w hJ=>round z a w hJ hn
end
def WL (β:Base) (n:Nat) (ops:Array Oper) (l:List Oper) (K:Post) (σ:Env) (ρ:List Res) (κ:Kr):Prop :=
 Zi β ρ κ→∀ ⦃df⦄ a,Rel df n a σ→∀ Q:Exit→Act→World→Prop,
  (∀ a' σ' ρ' κ',Rel df n a' σ'→Zi β ρ' κ'→Kle κ κ'→K σ' ρ' κ'→Q .normal a' κ'.w)→wpList Tryz.prog ops Q l a κ.w
def WC (β:Base) (n:Nat) (c:Code) (K:Exit→Post) (σ:Env) (ρ:List Res) (κ:Kr):Prop :=
 Zi β ρ κ→∀ ⦃df⦄ a,Rel df n a σ→∀ Q:Exit→Act→World→Prop,
  (∀ e a' σ' ρ' κ',Rel df n a' σ'→Zi β ρ' κ'→Kle κ κ'→K e σ' ρ' κ'→Q e a' κ'.w)→qW β.ro c Q a κ.w
def OutV (Nx:Value→World→Prop):Result Next→Prop
 | .ok (.value v) w=>Nx v w
 | .ok .skip w=>Nx undef w
 | .ok (.enter f args) w=>Calls Tryz.prog f args w fun e w'=>∃ v,e=.returned v∧Nx v w'
 | _=>False
theorem OutV.mono {Nx Nx':Value→World→Prop} {r:Result Next} (h:OutV Nx r) (hm:∀ v w,Nx v w→Nx' v w):OutV Nx' r:=by
 cases r with
 | ok n w =>
  cases n with
  | value v=>exact hm _ _ h
  | skip=>exact hm _ _ h
  | enter f args=>exact Calls.mono h fun e w' ⟨v,h1,h2⟩=>⟨v,h1,hm _ _ h2⟩
  | _=>exact h.elim
 | halt x w=>exact h.elim
theorem iO {o:Oper} {a:Act} {w:World} {ρ:Operand→Value} {Nx:Value→World→Prop} {next:Act→World→Prop} {Q:Exit→Act→World→Prop} (he:a.eval=ρ) (h:OutV Nx ((execOp ρ o).run Tryz.prog w)) (hn:∀ v w,Nx v w→next (a.put o.dst v) w):o.wp Tryz.prog a w next Q:=by
 unfold Oper.wp
 rw [he]
 generalize (execOp ρ o).run Tryz.prog w=r at *
 cases r with
 | ok n w =>
  cases n with
  | value v=>exact hn _ _ h
  | skip=>exact hn _ _ h
  | enter f args=>exact Calls.mono h fun e w' ⟨v,h1,h2⟩=>by subst h1;exact hn _ _ h2
  | _=>exact h.elim
 | halt x w=>exact h.elim
def OpL (o:Oper) (σ:Env) (ρ:List Res) (κ:Kr) (K:Value→List Res→Kr→Prop):Prop :=
 ∀ β,Zi β ρ κ→∀ Nx:Value→World→Prop,(∀ v ρ' κ',Zi β ρ' κ'→Kle κ κ'→K v ρ' κ'→Nx v κ'.w)→OutV Nx ((execOp (ev σ) o).run Tryz.prog κ.w)
structure Stab (ρ:List Res) (κ:Kr) (w:World):Prop where
 keep:∀ b,κ.S b→w.heap[b]?=κ.w.heap[b]?
 own:∀ r∈ρ,r.holds w
theorem Zi.stab {β:Base} {ρ:List Res} {κ:Kr} (h:Zi β ρ κ):Stab ρ κ κ.w:=⟨fun _ _=>rfl,h.own⟩
def OpQ (c:Bool) (o:Oper) (σ:Env) (ρ:List Res) (κ:Kr) (v:Value):Prop :=
 c=true→∀ w,Stab ρ κ w→(execOp (ev σ) o).run Tryz.prog w=.ok (.value v) w
@[irreducible] def gv (c:Bool) (v:Value):Value:=cond c v undef
theorem gU (v:Value):gv true v=v:=by unfold gv;rfl
theorem eZ (v:Value):gv false v=undef:=by unfold gv;rfl
def dO (ops:Array Oper) (σ:Env) (j:Nat):Option Bool :=
 match ((ops[j]?).bind (·.dst)).map σ with
 | some (.bool b)=>some b
 | _=>none
theorem so {df:List Deferred} {n:Nat} {a:Act} {σ:Env} (h:Rel df n a σ) (ops:Array Oper) (j:Nat):yielded ops a.tmps j=dO ops σ j:=by
 unfold yielded dO
 cases (ops[j]?).bind (·.dst) with
 | none=>rfl
 | some d =>
  have h3:=h.2.2 d
  simp only [ft,Option.map_some]
  rw [Array.getD_eq_getD_getElem?] at h3
  cases e:a.tmps[d]? with
  | none=>rw [e] at h3;simp only [Option.getD_none] at h3;rw [← h3];rfl
  | some v=>rw [e] at h3;simp only [Option.getD_some] at h3;rw [h3];rfl
theorem gE {df:List Deferred} {n:Nat} {a:Act} {σ:Env} (h:Rel df n a σ) (ops:Array Oper) (o:Oper):Region.wanted o (yielded ops a.tmps)=Region.wanted o (dO ops σ):=by
 rw [show yielded ops a.tmps=dO ops σ from funext fun j=>so h ops j]
def GuardIs (ops:Array Oper) (σ:Env) (o:Oper) (c:Bool):Prop:=Region.wanted o (dO ops σ)=c
section
variable {ops:Array Oper} {σ:Env} {o:Oper} {j d:Nat} {p c:Bool}
theorem ul (h:o.guard=none):GuardIs ops σ o true:=by simp [GuardIs,Region.wanted,h]
theorem jW (h:o.guard=some (j,true)) (hd:(ops[j]?).bind (·.dst)=some d) (hs:σ d=.bool p):GuardIs ops σ o p:=by
 simp [GuardIs,Region.wanted,h,dO,hd,hs]
theorem vf (h:o.guard=some (j,false)) (hd:(ops[j]?).bind (·.dst)=some d) (hs:σ d=.bool p):GuardIs ops σ o (!p):=by
 simp [GuardIs,Region.wanted,h,dO,hd,hs]
theorem xf (h:o.guard=some (j,true)) (hd:(ops[j]?).bind (·.dst)=some d) (hs:σ d=gv c (.bool p)):GuardIs ops σ o (c&&p):=by
 simp only [GuardIs,Region.wanted,h,dO,hd,Option.map_some,hs]
 cases c
 ·rw [eZ];rfl
 rw [gU];cases p <;> rfl
theorem xg (h:o.guard=some (j,false)) (hd:(ops[j]?).bind (·.dst)=some d) (hs:σ d=gv c (.bool p)):GuardIs ops σ o (c && !p):=by
 simp only [GuardIs,Region.wanted,h,dO,hd,Option.map_some,hs]
 cases c
 ·rw [eZ];rfl
 rw [gU];cases p <;> rfl
end
def Ev (σ:Env) (c:Bool) (x:Operand) (v:Value):Prop:=c=true→ev σ x=v
theorem Ev.p {σ:Env} {c:Bool} {x:Operand} {v:Value} (h:ev σ x=v):Ev σ c x v:=fun _=>h
theorem Ev.g {σ:Env} {c:Bool} {x:Operand} {v:Value} (h:ev σ x=gv c v):Ev σ c x v:=fun hc=>by rw [h,hc,gU]
section
variable {β:Base} {n:Nat} {ops:Array Oper} {o:Oper} {rest:List Oper} {K:Post} {σ:Env} {ρ:List Res} {κ:Kr}
theorem cz (h:K σ ρ κ):WL β n ops [] K σ ρ κ:=fun hi df a hr _ hk=>wpList_nil (hk a σ ρ κ hr hi (.refl _) h)
theorem eE {n:Nat} {d:Option Nat} {t:Nat} (h:d=some t) (hlt:Nat.blt t n=true):oM n d=true:=by rw [h];exact hlt
theorem dP {σ:Env} {d:Option Nat} {t:Nat} {v:Value} (h:d=some t):kA σ d v=upd σ t v:=by rw [h];rfl
theorem wl_lO (hg:o.guard=none) (hd:oM n o.dst=true) (h:OpL o σ ρ κ fun v ρ' κ'=>WL β n ops rest K (kA σ o.dst v) ρ' κ'):WL β n ops (o::rest) K σ ρ κ :=
 fun hi df a hr Q hk=>wpList_plain hg fun _ hK=>iO hr.eval (h β hi (fun v w=>wpList Tryz.prog ops Q rest (a.put o.dst v) w) fun v _ _ hi' hle hw =>
  hw hi' _ (hr.put hd v) Q fun a' σ' ρ'' κ'' h1 h2 h3 h4=>hk a' σ' ρ'' κ'' h1 h2 (hle.trans h3) h4) fun _ _ h=>hK _ _ h
theorem sq {d:Nat} (hg:o.guard=none) (hd:o.dst=some d) (hlt:Nat.blt d n=true) (h:OpL o σ ρ κ fun v ρ' κ'=>WL β n ops rest K (upd σ d v) ρ' κ'):WL β n ops (o::rest) K σ ρ κ :=
 wl_lO hg (eE hd hlt) (by simp only [dP hd];exact h)
theorem vg (hg:o.guard=none) (hd:o.dst=none) (h:OpL o σ ρ κ fun _ ρ' κ'=>WL β n ops rest K σ ρ' κ'):WL β n ops (o::rest) K σ ρ κ :=
 wl_lO hg (by rw [hd];rfl) (by rw [hd];exact h)
theorem db {v:Value} {d:Nat} (hg:o.guard=none) (hd:o.dst=some d) (hlt:Nat.blt d n=true) (h:OpQ true o σ ρ κ v) (hw:WL β n ops rest K (upd σ d v) ρ κ):WL β n ops (o::rest) K σ ρ κ :=
 fun hi df a hr Q hk=>wpList_plain hg fun _ hK=>by
  unfold Oper.wp;rw [hr.eval,h rfl κ.w hi.stab]
  rw [← dP hd] at hw
  exact hK _ _ (hw hi _ (hr.put (eE hd hlt) v) Q hk)
theorem oQ {v:Value} {c:Bool} {d:Nat} (hg:GuardIs ops σ o c) (hd:o.dst=some d) (hlt:Nat.blt d n=true) (h:OpQ c o σ ρ κ v) (hw:WL β n ops rest K (upd σ d (gv c v)) ρ κ):WL β n ops (o::rest) K σ ρ κ :=
 fun hi df a hr Q hk=>by
  rw [← dP hd] at hw
  unfold wpList
  rw [gE hr,hg]
  cases c with
  | false =>
   rw [eZ] at hw
   exact hw hi _ (hr.put (eE hd hlt) undef) Q hk
  | true =>
   rw [gU] at hw
   refine .inl ?_
   unfold Oper.wp;rw [hr.eval,h rfl κ.w hi.stab]
   exact hw hi _ (hr.put (eE hd hlt) v) Q hk
end
def um (β:Base) (n:Nat) (y:Code) (K:Exit→Post):Exit→Post:=fun e σ ρ κ=>match e with | .normal=>WC β n y K σ ρ κ | e=>K e σ ρ κ
def ii (id:Nat) (K:Exit→Post):Exit→Post:=fun e σ ρ κ=>match e with | .exit id'=>cond (Nat.beq id' id) (K .normal σ ρ κ) (K (.exit id') σ ρ κ) | e=>K e σ ρ κ
section
variable {β:Base} {n:Nat} {x y:Code} {K:Exit→Post} {σ:Env} {ρ:List Res} {κ:Kr}
theorem ld {K':Exit→Post} (h:WC β n x K σ ρ κ) (hk:∀ e σ' ρ' κ',Kle κ κ'→K e σ' ρ' κ'→K' e σ' ρ' κ'):WC β n x K' σ ρ κ :=
 fun hi df a hr Q hq=>h hi a hr Q fun e a' σ' ρ' κ' h1 h2 h3 h4=>hq e a' σ' ρ' κ' h1 h2 h3 (hk e σ' ρ' κ' h3 h4)
theorem cK (h:WC β n x (um β n y K) σ ρ κ):WC β n (.seq x y) K σ ρ κ :=
 fun hi df a hr Q hq=>cwp_seq (h hi a hr _ fun e a' σ' ρ' κ' h1 h2 h3 h4=>by
  cases e with
  | normal=>exact h4 h2 a' h1 Q fun e a'' σ'' ρ'' κ'' g1 g2 g3 g4=>hq e a'' σ'' ρ'' κ'' g1 g2 (h3.trans g3) g4
  | _=>exact hq _ a' σ' ρ' κ' h1 h2 h3 h4)
theorem gg (h:K .normal σ ρ κ):WC β n .skip K σ ρ κ:=fun hi df a hr _ hq=>xb (hq _ a σ ρ κ hr hi (.refl _) h)
theorem iU (h:K .ret σ ρ κ):WC β n .ret K σ ρ κ:=fun hi df a hr _ hq=>cwp_ret (hq _ a σ ρ κ hr hi (.refl _) h)
theorem jX {id:Nat} (h:K (.exit id) σ ρ κ):WC β n (.exit id) K σ ρ κ:=fun hi df a hr _ hq=>xc (hq _ a σ ρ κ hr hi (.refl _) h)
theorem gh {id:Nat} (h:WC β n x (ii id K) σ ρ κ):WC β n (.block id x) K σ ρ κ :=
 fun hi df a hr Q hq=>vY (h hi a hr _ fun e a' σ' ρ' κ' h1 h2 h3 h4=>by
  cases e with
  | exit id' =>
   simp only [ii] at h4
   simp only [Exit.inBlock]
   cases hb:Nat.beq id' id
   ·have hne:id'≠id:=fun h=>by rw [h] at hb;simp at hb
    rw [hb] at h4;rw [if_neg hne];exact hq _ a' σ' ρ' κ' h1 h2 h3 h4
   ·have he:=Nat.eq_of_beq_eq_true hb
    rw [hb] at h4;rw [if_pos he];exact hq _ a' σ' ρ' κ' h1 h2 h3 h4
  | _=>exact hq _ a' σ' ρ' κ' h1 h2 h3 h4)
theorem iC {c:Operand} {p:Bool} (hc:ev σ c=.bool p) (ht:p=true→WC β n x K σ ρ κ) (hf:p=false→WC β n y K σ ρ κ):WC β n (.cond c x y) K σ ρ κ :=
 fun hi df a hr Q hq=>oO (t:=p) (by rw [hr.eval,hc]) (fun h=>ht h hi a hr Q hq) (fun h=>hf h hi a hr Q hq)
theorem xh {c:Operand} (hc:ev σ c=.bool true) (h:WC β n x K σ ρ κ):WC β n (.cond c x y) K σ ρ κ:=iC hc (fun _=>h) (fun h=>by cases h)
theorem xi {c:Operand} (hc:ev σ c=.bool false) (h:WC β n y K σ ρ κ):WC β n (.cond c x y) K σ ρ κ:=iC hc (fun h=>by cases h) (fun _=>h)
theorem bh {id:Nat} {l:List Oper} (h:WL β n l.toArray l (K .normal) σ ρ κ):WC β n (.region id l.toArray false) K σ ρ κ :=
 fun hi df a hr Q hq=>oN (uk (h hi a hr (NP (Q .normal)) fun a' σ' ρ' κ' h1 h2 h3 h4=>⟨rfl,hq _ a' σ' ρ' κ' h1 h2 h3 h4⟩)) fun e a w h=>by rw [h.1];exact h.2
theorem vh {X:Type} (J:X→Env→List Res→Kr→Prop) (μ:X→Nat) (x0:X) (h0:J x0 σ ρ κ)
    (round:∀ z σ' ρ' κ',Kle κ κ'→J z σ' ρ' κ'→WC β n x (fun e σ'' ρ'' κ''=>match e with | .normal=>∃ z',J z' σ'' ρ'' κ''∧μ z'<μ z | e=>K e σ'' ρ'' κ'') σ' ρ' κ'):WC β n (.loop x) K σ ρ κ :=
  fun hi df a hr Q hq=>xe (fun z a w=>∃ σ' ρ' κ',w=κ'.w∧Rel df n a σ'∧Zi β ρ' κ'∧Kle κ κ'∧J z σ' ρ' κ') μ x0 ⟨σ,ρ,κ,rfl,hr,hi,.refl _,h0⟩ fun z a w ⟨σ',ρ',κ',hw,hr',hi',hle,hJ⟩=>by
    subst hw
    refine round z σ' ρ' κ' hle hJ hi' a hr' _ fun e a'' σ'' ρ'' κ'' g1 g2 g3 g4=>?_
    cases e with
    | normal=>obtain ⟨z',hz,hlt⟩:=g4;exact ⟨z',⟨σ'',ρ'',κ'',rfl,g1,g2,hle.trans g3,hz⟩,hlt⟩
    | _=>exact hq _ a'' σ'' ρ'' κ'' g1 g2 (hle.trans g3) g4
end
theorem mr {t:Nat} {z:Value} {s b:Nat} (h:dU t=some (z,s,b)):∃ i,Tryz.prog.info? t=some i∧i.zero=some z∧i.size=s∧i.bytes=b:=by
 have:=inf_ok h
 cases hi:Tryz.prog.info? t with
 | none=>rw [hi] at this;cases this
 | some i=>rw [hi] at this;simp at this;exact ⟨i,rfl,this.1,this.2.1,this.2.2⟩
def ij:TypeDesc→Bool
 | .struct _ | .array _ _=>true
 | _=>false
theorem gF {t:Nat} {d:TypeDesc} (h:dv t=some d) (w:World):(isAgg t).run Tryz.prog w=.ok (ij d) w:=by
 simp only [isAgg,Sem.run_bind,run_underlying (br h),Result.andThen_ok]
 cases d <;> rfl
theorem cF {t:Nat} {z:Value} {s b:Nat} (h:dU t=some (z,s,b)) (w:World):(sizeOf t).run Tryz.prog w=.ok s w:=by
 obtain ⟨i,hi,_,hs,_⟩:=mr h
 simp [sizeOf,typeInfo,hi,hs]
theorem dc {t:Nat} {z:Value} {s b:Nat} (h:dU t=some (z,s,b)) (w:World):(zeroValue t).run Tryz.prog w=.ok z w:=by
 obtain ⟨i,hi,hz,_⟩:=mr h
 simp [zeroValue,typeInfo,hi,hz]
def Res.b (b:Nat) (T:Nat) (cs:List Value):Res:=⟨some b,fun o=>o=some (.cells cs.toArray T (0,0))⟩
theorem eF (b off k:Nat):(⟨b,off,none⟩:Addr).add k=⟨b,off+k,none⟩:=by unfold Addr.add;split <;> simp_all
section
variable {o:Oper} {σ:Env} {ρ:List Res} {κ:Kr} {c:Bool} {x y:Operand}
theorem bw {v:Value} (ho:o.op=.move x) (hx:Ev σ c x v):OpQ c o σ ρ κ v:=fun hc w _=>by
 simp [execOp,ho,hx hc]
theorem bJ {v:Value} (ho:o.op=.assign x) (hx:Ev σ c x v):OpQ c o σ ρ κ v:=fun hc w _=>by
 simp [execOp,ho,hx hc]
theorem oq_or {cc a b:Operand} {p q:Bool} (ho:o.op=.pick cc a b) (h1:Ev σ c cc (.bool p)) (h2:Ev σ c a (.bool true)) (h3:Ev σ (c && !p) b (.bool q)):OpQ c o σ ρ κ (.bool (p||q)):=fun hc w _=>by
 subst hc
 simp only [execOp,ho,h1 rfl,h2 rfl]
 cases p
 ·simp [h3 rfl,asBool]
 simp [asBool]
theorem un {cc a b:Operand} {p q:Bool} (ho:o.op=.pick cc a b) (h1:Ev σ c cc (.bool p)) (h2:Ev σ c b (.bool false)) (h3:Ev σ (c&&p) a (.bool q)):OpQ c o σ ρ κ (.bool (p&&q)):=fun hc w _=>by
 subst hc
 simp only [execOp,ho,h1 rfl,h2 rfl]
 cases p
 ·simp [asBool]
 simp [h3 rfl,asBool]
section
variable {t t':Nat} {k:IntKind} {a b:Int}
theorem eG (op:BinOp) (w:World):(eqGuard op t x y (.int k a) (.int k b)).run Tryz.prog w=.ok () w:=by
 unfold eqGuard;split <;> simp
theorem jY {op:BinOp} {r:Bool} (ho:o.op=.binOp op t x y t') (hx:Ev σ c x (.int k a)) (hy:Ev σ c y (.int k b))
    (hr:(match op with | .eql=>some (a == b) | .neq=>some (a != b) | .lss=>some (decide (a<b)) | .leq=>some (decide (a≤b)) | .gtr=>some (decide (b<a)) | .geq=>some (decide (b≤a)) | _=>none)=some r):OpQ c o σ ρ κ (.bool r):=fun hc w _=>by
  simp only [execOp,ho,hx hc,hy hc,Sem.run_bind,eG,Result.andThen_ok]
  cases op <;> simp at hr <;> subst hr <;> simp [binOp,Op.intCmp]
theorem sr {op:BinOp} {r:Int} (ho:o.op=.binOp op t x y t') (hx:Ev σ c x (.int k a)) (hy:Ev σ c y (.int k b))
    (hr:(match op with | .add=>some (a+b) | .sub=>some (a - b) | .mul=>some (a*b) | _=>none)=some r):OpQ c o σ ρ κ (.int k (k.wrap r)):=fun hc w _=>by
  simp only [execOp,ho,hx hc,hy hc,Sem.run_bind,eG,Result.andThen_ok]
  cases op <;> simp at hr <;> subst hr <;> simp [binOp,Op.intArith]
theorem su {r:Int} (h : -9223372036854775808≤r∧r≤9223372036854775807):IntKind.i64.wrap r=r:=IntWalk.i64_in r h
theorem jZ {op:BinOp} {r:Int} (ho:o.op=.binOp op t x y t') (hx:Ev σ c x (.int .i64 a)) (hy:Ev σ c y (.int .i64 b))
    (hr:(match op with | .add=>some (a+b) | .sub=>some (a - b) | .mul=>some (a*b) | _=>none)=some r) (hb:c=true → -9223372036854775808≤r∧r≤9223372036854775807):OpQ c o σ ρ κ (.int .i64 r):=fun hc=>by
  have h:=sr (ρ:=ρ) (κ:=κ) ho hx hy hr hc
  rwa [su (hb hc)] at h
theorem oq_quo {r:Int} (ho:o.op=.binOp .quo t x y t') (hx:Ev σ c x (.int k a)) (hy:Ev σ c y (.int k b)) (hb:c=true→b≠0) (hr:k.wrap (a.tdiv b)=r):OpQ c o σ ρ κ (.int k r):=fun hc w _=>by
 simp only [execOp,ho,hx hc,hy hc,Sem.run_bind,eG,Result.andThen_ok]
 simp [binOp,Op.intDiv,hb hc,hr]
theorem oq_rem {r:Int} (ho:o.op=.binOp .rem t x y t') (hx:Ev σ c x (.int k a)) (hy:Ev σ c y (.int k b)) (hb:c=true→b≠0) (hr:a.tmod b=r):OpQ c o σ ρ κ (.int k r):=fun hc w _=>by
 simp only [execOp,ho,hx hc,hy hc,Sem.run_bind,eG,Result.andThen_ok]
 simp [binOp,Op.intDiv,hb hc,hr]
theorem oq_bits {op:BinOp} {r:Int} (ho:o.op=.binOp op t x y t') (hx:Ev σ c x (.int k a)) (hy:Ev σ c y (.int k b))
    (hr:(match op with | .and=>some (k.wrap ((BitVec.ofInt k.bits a &&& BitVec.ofInt k.bits b).toNat:Int)) | .or=>some (k.wrap ((BitVec.ofInt k.bits a ||| BitVec.ofInt k.bits b).toNat:Int)) | .xor=>some (k.wrap ((BitVec.ofInt k.bits a ^^^ BitVec.ofInt k.bits b).toNat:Int)) | _=>none)=some r):OpQ c o σ ρ κ (.int k r):=fun hc w _=>by
  simp only [execOp,ho,hx hc,hy hc,Sem.run_bind,eG,Result.andThen_ok]
  cases op <;> simp only [da,reduceCtorEq] at hr <;> subst hr <;> simp [binOp,Op.intBits]
theorem xj {op:BinOp} {k':IntKind} {r:Int} (ho:o.op=.binOp op t x y t') (hx:Ev σ c x (.int k a)) (hy:Ev σ c y (.int k' b)) (h0:c=true→0≤b)
    (hr:(match op with | .shl=>some (k.wrap (a*2 ^ min b.toNat k.bits)) | .shr=>some (a.fdiv (2 ^ min b.toNat k.bits)) | _=>none)=some r):OpQ c o σ ρ κ (.int k r):=fun hc w _=>by
  simp only [execOp,ho,hx hc,hy hc,Sem.run_bind]
  have h0':¬ b<0:=by have:=h0 hc;omega
  cases op <;> simp only [da,reduceCtorEq] at hr <;> subst hr <;> simp [eqGuard,binOp,Op.shift,h0']
theorem oq_neg {r:Int} {ty:Nat} (ho:o.op=.unOp .neg ty x) (hx:Ev σ c x (.int k a)) (hr:k.wrap (0 - a)=r):OpQ c o σ ρ κ (.int k r):=fun hc w _=>by
 simp [execOp,ho,hx hc,Op.unary,Op.intArith,← hr]
theorem oq_conv {k':IntKind} {r:Int} {s d:Nat} {ds:TypeDesc} (ho:o.op=.convert s d x) (hs:dv s=some ds) (hd:dv d=some (.int k')) (hx:Ev σ c x (.int k a)) (hr:k'.wrap a=r):OpQ c o σ ρ κ (.int k' r):=fun hc w _=>by
 simp only [execOp,ho,hx hc,convert,Sem.run_bind,run_underlying (br hs),run_underlying (br hd),Result.andThen_ok]
 simp [Conv.intToInt,hr]
end
theorem uo {p:Bool} {ty:Nat} (ho:o.op=.unOp .not ty x) (hx:Ev σ c x (.bool p)):OpQ c o σ ρ κ (.bool !p):=fun hc w _=>by
 simp [execOp,ho,hx hc,Op.unary]
theorem nk {t:Nat} {p q:Bool} (hu:dv t=some .bool) (d:Nat) (w:World):(Op.equalIn (d+1) t (.bool p) (.bool q)).run Tryz.prog w=.ok (p == q) w:=by
 simp [Op.equalIn,run_underlying (br hu)]
theorem oq_eqB {op:BinOp} {t t':Nat} {p q r:Bool} (ho:o.op=.binOp op t x y t') (hu:dv t=some .bool) (hx:Ev σ c x (.bool p)) (hy:Ev σ c y (.bool q))
    (hr:(match op with | .eql=>some (p == q) | .neq=>some (p != q) | _=>none)=some r):OpQ c o σ ρ κ (.bool r):=fun hc w _=>by
  have he:(Op.equal t (.bool p) (.bool q)).run Tryz.prog w=.ok (p == q) w:=nk hu 9999 w
  simp only [execOp,ho,hx hc,hy hc,Sem.run_bind]
  cases op <;> simp only [da,reduceCtorEq] at hr <;> subst hr <;> simp [eqGuard,binOp,he,bne]
theorem vi (s u:ByteArray):(s.toList == u.toList)=decide (s=u):=by
 rw [Bool.eq_iff_iff,ByteArray.toList_eq,ByteArray.toList_eq]
 simp only [beq_iff_eq,decide_eq_true_eq]
 constructor
 ·intro h;obtain ⟨⟨x⟩⟩:=s;obtain ⟨⟨y⟩⟩:=u;simp at h;subst h;rfl
 intro h;rw [h]
theorem qZ {op:BinOp} {t t':Nat} {s u:ByteArray} {r:Bool} (ho:o.op=.binOp op t x y t') (hx:Ev σ c x (.string s)) (hy:Ev σ c y (.string u))
    (hr:(match op with | .eql=>some (decide (s=u)) | .neq=>some (!decide (s=u)) | .lss=>some (Op.bytesLess s.toList u.toList) | .leq=>some (Op.bytesLess s.toList u.toList||decide (s=u)) | .gtr=>some (!(Op.bytesLess s.toList u.toList||decide (s=u))) | .geq=>some (!Op.bytesLess s.toList u.toList) | _=>none)=some r):OpQ c o σ ρ κ (.bool r):=fun hc w _=>by
  simp only [execOp,ho,hx hc,hy hc,Sem.run_bind]
  cases op <;> simp only [da,reduceCtorEq] at hr <;> subst hr <;> simp only [eqGuard,binOp,Op.stringOp,vi] <;> simp
theorem oq_cat {t t':Nat} {s u:ByteArray} (ho:o.op=.binOp .add t x y t') (hx:Ev σ c x (.string s)) (hy:Ev σ c y (.string u)) (hb:c=true→s.size+u.size≤9223372036854775807):OpQ c o σ ρ κ (.string (s++u)):=fun hc w _=>by
 simp only [execOp,ho,hx hc,hy hc,Sem.run_bind]
 have hm:IntKind.i64.max=9223372036854775807:=by decide
 have h:¬ (((s.size+u.size:Nat):Int) > IntKind.i64.max):=by have:=hb hc;rw [hm];omega
 simp only [eqGuard,binOp,Op.stringOp,if_neg h]
 simp
theorem kD {a:Addr} (ho:o.op=.nilCheck x) (hx:Ev σ c x (.pointer (some a))):OpQ c o σ ρ κ (.pointer (some a)):=fun hc w _=>by
 simp [execOp,ho,hx hc]
theorem vj {t f k ty:Nat} {l:List (Nat×Nat)} (h1:mn t=some l) (h2:l[f]?=some (k,ty)):∃ (fs:Array Field) (fd:Field),dv t=some (.struct fs)∧fs[f]?=some fd∧fd.offset=k∧fd.type=ty:=by
 obtain ⟨fs,hu,hl⟩:=vd h1
 rw [← hl,List.getElem?_map] at h2
 cases hf:fs.toList[f]? with
 | none=>rw [hf] at h2;cases h2
 | some fd =>
  rw [hf] at h2;simp only [Option.map_some,da,Prod.mk.injEq] at h2
  exact ⟨fs,fd,hu,by simpa using hf,h2.1,h2.2⟩
theorem mt {s f b off k ty:Nat} {l:List (Nat×Nat)} {z:Value} {sz by':Nat} (ho:o.op=.fieldAddr s x f) (h1:mn s=some l) (h2:l[f]?=some (k,ty)) (hi:dU ty=some (z,sz,by')) (h0:Nat.blt 0 sz=true)
    (hx:Ev σ c x (.pointer (some ⟨b,off,none⟩))):OpQ c o σ ρ κ (.pointer (some ⟨b,off+k,none⟩)):=fun hc w _=>by
  obtain ⟨fs,fd,hu,hf,rfl,rfl⟩:=vj h1 h2
  have hs:sz≠0:=by intro h;subst h;cases h0
  simp only [execOp,ho,hx hc,Instr.fieldAt,Sem.run_bind,run_underlying (br hu),Result.andThen_ok,hf,fieldPlace]
  simp [Instr.sureAddr,cF hi,hs,eF]
def bI (v:Value):List Value:=match v with | .agg cs=>cs.toList | v=>[v]
theorem fS (v:Value):v.cells.toList=bI v:=by cases v <;> rfl
def gi (t:Nat) (cs:List Value) (off:Nat):Option Value :=
 match dv t,dU t with
 | some d,some (_,sz,_)=>cond (ij d) (cond (Nat.ble (off+sz) cs.length) (some (.agg ((cs.drop off).take sz).toArray)) none) cs[off]?
 | _,_=>none
theorem xk {t f k ty:Nat} {l:List (Nat×Nat)} {cs:List Value} {v:Value} (ho:o.op=.field t x f) (h1:mn t=some l) (h2:l[f]?=some (k,ty)) (hx:Ev σ c x (.agg cs.toArray)) (hr:gi ty cs k=some v):OpQ c o σ ρ κ v:=fun hc w _=>by
 obtain ⟨fs,fd,hu,hf,rfl,rfl⟩:=vj h1 h2
 simp only [execOp,ho,hx hc,Instr.field,Sem.run_bind,run_underlying (br hu),Result.andThen_ok,hf]
 unfold gi at hr
 split at hr
 ·rename_i d z sz b hd hi
  simp only [asAgg,part,Sem.run_bind,Sem.run_pure,Result.andThen_ok,gF hd]
  cases hag:ij d
  ·rw [hag] at hr;simp only [eY] at hr
   simp [hr]
  rw [hag] at hr;simp only [cZ] at hr
  cases hle:Nat.ble (fd.offset+sz) cs.length
  ·rw [hle] at hr;cases hr
  rw [hle] at hr;injection hr with hr;subst hr
  simp [cF hi,List.extract_toArray]
 cases hr
theorem oR {i:Nat} {vs:List Value} {v:Value} (ho:o.op=.extract x i) (hx:Ev σ c x (.tuple vs.toArray)) (hr:vs[i]?=some v):OpQ c o σ ρ κ v:=fun hc w _=>by
 simp [execOp,ho,hx hc,Instr.extract,hr]
theorem sv {fn:Fn} {l1 l2:List Operand} (ho:o.op=.makeFunc fn l1.toArray l2.toArray):OpQ true o σ ρ κ (.func fn (l1.map (ev σ)).toArray (l2.map (ev σ)).toArray):=fun _ w _=>by
 simp [execOp,ho,Instr.makeFunc]
theorem gV {w:World} {b T:Nat} {cs:List Value} {fr:Nat×Nat} (h:w.heap[b]?=some (.cells cs.toArray T fr)) (j:Nat):w.cell? ⟨b,j,none⟩=cs[j]?:=by
 simp [World.cell?,h]
theorem j0 {w:World} {t b off:Nat} {cs:List Value} {v:Value} (hc:∀ j u,cs[j]?=some u→w.cell? ⟨b,off+j,none⟩=some u) (hr:gi t cs 0=some v):(loadVar t ⟨b,off,none⟩).run Tryz.prog w=.ok v w:=by
 unfold gi at hr
 split at hr
 ·rename_i d z sz by' hd hi
  simp only [loadVar,Sem.run_bind,gF hd,Result.andThen_ok]
  cases hag:ij d
  ·rw [hag] at hr;simp only [eY] at hr
   have:=hc 0 v hr
   simp only [Nat.add_zero] at this
   simp [this]
  rw [hag] at hr;simp only [cZ] at hr
  cases hle:Nat.ble (0+sz) cs.length
  ·rw [hle] at hr;cases hr
  rw [hle] at hr;injection hr with hr;subst hr
  have hle':sz≤cs.length:=by have:=Nat.le_of_ble_eq_true hle;omega
  have hl:(cs.take sz).length=sz:=by simp;omega
  have h2:=run_loadCells_list (P:=Tryz.prog) w ⟨b,off,none⟩ (cs.take sz) (fun j u hu=>by
   rw [eF];refine hc j u ?_
   rw [List.getElem?_take] at hu;split at hu
   ·exact hu
   cases hu)
  rw [hl] at h2
  simp [cF hi,h2]
 cases hr
theorem qu {t b off T:Nat} {cs:List Value} {v:Value} (ho:o.op=.load t x) (hx:Ev σ c x (.pointer (some ⟨b,off,none⟩))) (hm:Res.b b T cs∈ρ) (hr:gi t (cs.drop off) 0=some v):OpQ c o σ ρ κ v:=fun hc w hs=>by
 have hb:w.heap[b]?=some (.cells cs.toArray T (0,0)):=hs.own _ hm
 have:=j0 (w:=w) (t:=t) (b:=b) (off:=off) (cs:=cs.drop off) (v:=v) (fun j u hu=>by rw [gV hb];rwa [List.getElem?_drop] at hu) hr
 simp [execOp,ho,hx hc,Instr.loadAt,Instr.sureAddr,this]
def Sh (κ:Kr) (b off:Nat) (cs:List Value):Prop:=κ.S b∧∀ j u,cs[j]?=some u→κ.w.cell? ⟨b,off+j,none⟩=some u
theorem Sh.mono {κ κ':Kr} {b off:Nat} {cs:List Value} (h:Sh κ b off cs) (k:Kle κ κ'):Sh κ' b off cs :=
 ⟨k.sh b h.1,fun j u hu=>by have:=h.2 j u hu;unfold World.cell? at *;rw [k.keep b h.1];exact this⟩
theorem nm {t b off:Nat} {cs:List Value} {v:Value} (ho:o.op=.load t x) (hx:Ev σ c x (.pointer (some ⟨b,off,none⟩))) (hm:c=true→Sh κ b off cs) (hr:gi t cs 0=some v):OpQ c o σ ρ κ v:=fun hc w hs=>by
 have h:=hm hc
 have:=j0 (w:=w) (t:=t) (b:=b) (off:=off) (cs:=cs) (v:=v) (fun j u hu=>by have:=h.2 j u hu;unfold World.cell? at *;rw [hs.keep b h.1];exact this) hr
 simp [execOp,ho,hx hc,Instr.loadAt,Instr.sureAddr,this]
theorem xl {t n cp:Nat} {a:Option Addr} {E:Nat} (ho:o.op=.call { callee:=.builtin .len,args:=#[x],argTypes:=#[t] }) (hu:dv t=some (.slice E)) (hx:Ev σ c x (.slice a n cp)):OpQ c o σ ρ κ (.int .i64 (n:Int)):=fun hc w _=>by
 simp [execOp,ho,resolve,invoke,builtin,Builtin.len_,hx hc,run_underlying (br hu),goInt]
theorem jl {t:Nat} {s:ByteArray} (ho:o.op=.call { callee:=.builtin .len,args:=#[x],argTypes:=#[t] }) (hu:dv t=some .string) (hx:Ev σ c x (.string s)):OpQ c o σ ρ κ (.int .i64 (s.size:Int)):=fun hc w _=>by
 simp [execOp,ho,resolve,invoke,builtin,Builtin.len_,hx hc,run_underlying (br hu),goInt]
theorem oq_min {t:List Nat} {k:IntKind} {a b:Int} (ho:o.op=.call { callee:=.builtin .min,args:=#[x,y],argTypes:=t.toArray }) (hx:Ev σ c x (.int k a)) (hy:Ev σ c y (.int k b)):OpQ c o σ ρ κ (.int k (if b<a then b else a)):=fun hc w _=>by
 simp [execOp,ho,resolve,invoke,builtin,Builtin.min_,Builtin.min2,hx hc,hy hc]
theorem oq_max {t:List Nat} {k:IntKind} {a b:Int} (ho:o.op=.call { callee:=.builtin .max,args:=#[x,y],argTypes:=t.toArray }) (hx:Ev σ c x (.int k a)) (hy:Ev σ c y (.int k b)):OpQ c o σ ρ κ (.int k (if a<b then b else a)):=fun hc w _=>by
 simp [execOp,ho,resolve,invoke,builtin,Builtin.max_,Builtin.max2,hx hc,hy hc]
theorem mu {t b off n cp E sz by':Nat} {k:IntKind} {i:Int} {j:Nat} {z:Value} (ho:o.op=.indexAddr t x y) (hu:dv t=some (.slice E)) (hi:dU E=some (z,sz,by'))
    (hx:Ev σ c x (.slice (some ⟨b,off,none⟩) n cp)) (hy:Ev σ c y (.int k i)) (hj:c=true→i=(j:Int)) (hlt:c=true→j<n):OpQ c o σ ρ κ (.pointer (some ⟨b,off+j*sz,none⟩)):=fun hc w _=>by
  have h1:=hj hc;have h2:=hlt hc
  simp only [execOp,ho,hx hc,hy hc,Instr.indexAt,asIntOf,Sem.run_bind,Sem.run_pure,Result.andThen_ok,run_underlying (br hu)]
  simp [h1,h2,cF hi,eF]
theorem jE {t:Nat} {s:ByteArray} {k:IntKind} {i:Int} {j:Nat} (ho:o.op=.index t x y) (hu:dv t=some .string)
    (hx:Ev σ c x (.string s)) (hy:Ev σ c y (.int k i)) (hj:c=true→i=(j:Int)) (hlt:c=true→j<s.size):OpQ c o σ ρ κ (.int .u8 ((s.data.toList.getD j 0).toNat:Int)):=fun hc w _=>by
  have h1:=hj hc;have h2:=hlt hc
  have e:s[j]?=some (s.data.toList.getD j 0):=by
    have h3:j<s.data.toList.length:=by simpa using h2
    rw [getElem?_pos s j h2,List.getD_eq_getElem?_getD,List.getElem?_eq_getElem h3];rfl
  simp only [execOp,ho,hx hc,hy hc,Instr.index,asIntOf,Sem.run_bind,Sem.run_pure,Result.andThen_ok,run_underlying (br hu)]
  simp [h1,e]
end
theorem jv {w:World} {o:Obj} {b:Nat} (h:b<w.heap.size):(w.alloc o).heap[b]?=w.heap[b]?:=by
 simp only [World.alloc];rw [Array.getElem?_push_lt h,Array.getElem?_eq_getElem h]
theorem lE (w:World) (o:Obj):(w.alloc o).heap[w.heap.size]?=some o:=by simp only [World.alloc];exact Array.getElem?_push_size
theorem ra {α:Type} {s r:α} {l1 l2:List α} (h:s∈l1++r::l2) (hne:s≠r):s∈l1++l2:=by
 rcases List.mem_append.1 h with h | h
 ·exact List.mem_append.2 (.inl h)
 rcases List.mem_cons.1 h with h | h
 ·exact absurd h hne
 exact List.mem_append.2 (.inr h)
theorem mem_mid' {α:Type} {s r:α} {l1 l2:List α} (h:s∈l1++l2):s∈l1++r::l2:=by
 rcases List.mem_append.1 h with h | h
 ·exact List.mem_append.2 (.inl h)
 exact List.mem_append.2 (.inr (List.mem_cons_of_mem _ h))
theorem Res.holds_of {r:Res} {w w':World} (h:r.holds w) (hb:∀ b,r.blk=some b→w'.heap[b]?=w.heap[b]?):r.holds w':=by
 unfold Res.holds at *
 cases hr:r.blk with
 | none=>rw [hr] at h;exact h
 | some b=>rw [hr] at h;simp only at h ⊢;rw [hb b hr];exact h
section
variable {β:Base} {ρ:List Res} {κ:Kr}
theorem dQ (h:∀ b,κ.S b→b<κ.w.heap.size) (o:Obj):Kle κ ⟨κ.w.alloc o,κ.S⟩ :=
 ⟨by simp,fun _ h=>h,fun b hb=>jv (h b hb)⟩
theorem Zi.alloc (h:Zi β ρ κ) (o:Obj) (r:Res) (hb:r.blk=some κ.w.heap.size) (hs:r.says (some o)):Zi β (r::ρ) ⟨κ.w.alloc o,κ.S⟩:=by
 obtain ⟨hle,hfin,hown,hblk,hnd⟩:=h
 refine ⟨⟨hle.kle.trans (dQ hfin o),fun b hb hm=>(jv (Nat.lt_of_lt_of_le hb hle.kle.size)).trans (hle.same b hb hm),hle.shNew,hle.os,hle.tape,hle.output,hle.drawn⟩,fun b hb=>by have:=hfin b hb;simp;omega,?_,?_,?_⟩
 ·intro s hs'
  rcases List.mem_cons.1 hs' with rfl | hs'
  ·unfold Res.holds;rw [hb];simp only;rw [lE];exact hs
  exact Res.holds_of (hown s hs') fun b hb=>jv (hblk s hs' b hb).1
 ·intro s hs' b hb'
  rcases List.mem_cons.1 hs' with rfl | hs'
  ·rw [hb] at hb';injection hb' with hb';subst hb'
   exact ⟨by simp,fun hS=>absurd (hfin _ hS) (by omega),.inl hle.kle.size⟩
  obtain ⟨h1,h2,h3⟩:=hblk s hs' b hb'
  exact ⟨by simp;omega,h2,h3⟩
 refine List.Pairwise.cons ?_ hnd
 intro s hs' b hb' hb''
 rw [hb] at hb';injection hb' with hb';subst hb'
 have:=(hblk s hs' _ hb'').1;omega
theorem Zi.turn (h:Zi β ρ κ) {r r':Res} {l1 l2:List Res} {b:Nat} {w':World} (hρ:ρ=l1++r::l2) (hb:r.blk=some b) (hb':r'.blk=some b)
    (hw:∀ i,i≠b→w'.heap[i]?=κ.w.heap[i]?) (hz:w'.heap.size=κ.w.heap.size) (hs:r'.says w'.heap[b]?) (ho:w'.os=κ.w.os) (ht:w'.tape=κ.w.tape) (hu:w'.output=κ.w.output) (hdr:κ.w.drawn≤w'.drawn) :
    Zi β (l1++r'::l2) ⟨w',κ.S⟩∧Kle κ ⟨w',κ.S⟩:=by
  obtain ⟨hle,hfin,hown,hblk,hnd⟩:=h
  have hr:r∈ρ:=by rw [hρ];simp
  obtain ⟨hlt,hnS,hbase⟩:=hblk r hr b hb
  have hk:Kle κ ⟨w',κ.S⟩:=⟨by rw [hz];exact Nat.le_refl _,fun _ h=>h,fun i hi=>hw i fun e=>hnS (e ▸ hi)⟩
  rw [hρ] at hnd
  have hcross:∀ s∈l1++l2,s.blk≠some b:=by
    intro s hs' he
    rcases List.mem_append.1 hs' with hs' | hs'
    · exact (List.pairwise_append.1 hnd).2.2 s hs' r (by simp) b he hb
    exact (List.pairwise_cons.1 (List.pairwise_append.1 hnd).2.1).1 s hs' b hb he
  refine ⟨⟨⟨hle.kle.trans hk,fun i hi hm=>(hw i (fun e=>by subst e;exact hbase.elim (fun h=>absurd hi (by omega)) hm)).trans (hle.same i hi hm),hle.shNew,ho.trans hle.os,ht.trans hle.tape,hu.trans hle.output,hle.drawn.trans (.of hdr)⟩,fun i hi=>by rw [hz];exact hfin i hi,?_,?_,?_⟩,hk⟩
  · intro s hs'
    by_cases hsr:s=r'
    · subst hsr;unfold Res.holds;rw [hb'];exact hs
    have hs2:s∈l1++l2:=ra hs' hsr
    have hs3:s∈ρ:=by rw [hρ];exact mem_mid' hs2
    exact Res.holds_of (hown s hs3) fun i hi=>hw i fun e=>hcross s hs2 (e ▸ hi)
  · intro s hs' i hi
    by_cases hsr:s=r'
    · subst hsr;rw [hb'] at hi;injection hi with hi;subst hi;exact ⟨by rw [hz];exact hlt,hnS,hbase⟩
    have hs3:s∈ρ:=by rw [hρ];exact mem_mid' (ra hs' hsr)
    obtain ⟨h1,h2,h3⟩:=hblk s hs3 i hi
    exact ⟨by rw [hz];exact h1,h2,h3⟩
  refine List.pairwise_append.2 ⟨(List.pairwise_append.1 hnd).1,List.Pairwise.cons ?_ (List.pairwise_cons.1 (List.pairwise_append.1 hnd).2.1).2,?_⟩
  · intro s hs' i hi;rw [hb'] at hi;injection hi with hi;subst hi;exact hcross s (by simp [hs'])
  intro s hs' u hu' i hi
  rcases List.mem_cons.1 hu' with rfl | hu'
  · rw [hb'];intro e;injection e with e;subst e;exact hcross s (by simp [hs']) hi
  exact (List.pairwise_append.1 hnd).2.2 s hs' u (by simp [hu']) i hi
theorem Zi.perm {ρ':List Res} (h:Zi β ρ κ) (hp:ρ.Perm ρ'):Zi β ρ' κ :=
 ⟨h.le,h.fin,fun r hr=>h.own r (hp.mem_iff.2 hr),fun r hr=>h.blk r (hp.mem_iff.2 hr),hp.pairwise h.nd fun hab b hb he=>hab b he hb⟩
theorem Zi.sub {ρ':List Res} (h:Zi β ρ κ) (hp:ρ'.Sublist ρ):Zi β ρ' κ :=
 ⟨h.le,h.fin,fun r hr=>h.own r (hp.subset hr),fun r hr=>h.blk r (hp.subset hr),h.nd.sublist hp⟩
theorem Zi.drew (h:Zi β ρ κ):Zi β ρ ⟨{ κ.w with drawn:=κ.w.drawn+1 },κ.S⟩ :=
 ⟨⟨⟨h.le.kle.size,h.le.kle.sh,h.le.kle.keep⟩,h.le.same,h.le.shNew,h.le.os,h.le.tape,h.le.output,h.le.drawn.trans (.of (Nat.le_succ _))⟩,h.fin,h.own,h.blk,h.nd⟩
theorem Zi.pub {r:Res} {l:List Res} {b:Nat} (h:Zi β (r::l) κ) (hb:r.blk=some b):Zi β l ⟨κ.w,fun i=>κ.S i∨i=b⟩∧Kle κ ⟨κ.w,fun i=>κ.S i∨i=b⟩:=by
 obtain ⟨hle,hfin,hown,hblk,hnd⟩:=h
 obtain ⟨hlt,hnS,hbase⟩:=hblk r (by simp) b hb
 have hk:Kle κ ⟨κ.w,fun i=>κ.S i∨i=b⟩:=⟨Nat.le_refl _,fun _ h=>.inl h,fun _ _=>rfl⟩
 refine ⟨⟨⟨hle.kle.trans hk,hle.same,fun i hi=>?_,hle.os,hle.tape,hle.output,hle.drawn⟩,fun i hi=>?_,fun s hs=>hown s (List.mem_cons_of_mem _ hs),fun s hs i hi=>?_,(List.pairwise_cons.1 hnd).2⟩,hk⟩
 ·rcases hi with hi | rfl
  ·exact hle.shNew i hi
  exact .inr hbase
 ·rcases hi with hi | rfl
  ·exact hfin i hi
  exact hlt
 obtain ⟨h1,h2,h3⟩:=hblk s (List.mem_cons_of_mem _ hs) i hi
 refine ⟨h1,fun h=>?_,h3⟩
 rcases h with h | rfl
 ·exact h2 h
 exact (List.pairwise_cons.1 hnd).1 s hs i hb hi
def oS (ρ:List Res):List Nat:=ρ.filterMap (·.blk)
theorem xm {r:Res} {b:Nat} {ρ:List Res} (h:r∈ρ) (hb:r.blk=some b):b∈oS ρ:=List.mem_filterMap.2 ⟨r,h,hb⟩
theorem nT {b:Nat} {ρ:List Res} (h:b∈oS ρ):∃ r∈ρ,r.blk=some b:=List.mem_filterMap.1 h
theorem Zi.split {ρ1 ρ2:List Res} (h:Zi β (ρ1++ρ2) κ):Zi ⟨κ,oS ρ1,none⟩ ρ1 κ :=
 ⟨.refl _ _,h.fin,fun r hr=>h.own r (List.mem_append.2 (.inl hr)),fun r hr b hb =>
  ⟨(h.blk r (List.mem_append.2 (.inl hr)) b hb).1,(h.blk r (List.mem_append.2 (.inl hr)) b hb).2.1,.inr (xm hr hb)⟩,(List.pairwise_append.1 h.nd).1⟩
theorem Zi.join {ρ1 ρ2 ρ1':List Res} {κ':Kr} (h:Zi β (ρ1++ρ2) κ) (h':Zi ⟨κ,oS ρ1,none⟩ ρ1' κ'):Zi β (ρ1'++ρ2) κ':=by
 have hbase:∀ b,b∈oS ρ1→b<κ.w.heap.size∧(β.k0.w.heap.size≤b∨b∈β.M):=fun b hb=>by
  obtain ⟨r,hr,hb⟩:=nT hb
  have:=h.blk r (List.mem_append.2 (.inl hr)) b hb
  exact ⟨this.1,this.2.2⟩
 have hcross:∀ s∈ρ2,∀ b,s.blk=some b→b ∉ oS ρ1:=fun s hs b hb hm=>by
  obtain ⟨r,hr,hrb⟩:=nT hm
  exact (List.pairwise_append.1 h.nd).2.2 r hr s hs b hrb hb
 have h2:∀ s∈ρ2,∀ b,s.blk=some b→b<κ.w.heap.size∧¬ κ.S b∧(β.k0.w.heap.size≤b∨b∈β.M):=fun s hs=>h.blk s (List.mem_append.2 (.inr hs))
 have hk:=h'.le.kle
 refine ⟨⟨h.le.kle.trans hk,fun b hb hm=>?_,fun b hb=>?_,h'.le.os.trans h.le.os,h'.le.tape.trans h.le.tape,h'.le.output.trans h.le.output,h.le.drawn.trans h'.le.drawn⟩,h'.fin,?_,?_,?_⟩
 ·have hlt:b<κ.w.heap.size:=Nat.lt_of_lt_of_le hb h.le.kle.size
  refine (h'.le.same b hlt fun hx=>?_).trans (h.le.same b hb hm)
  exact (hbase b hx).2.elim (fun h=>absurd hb (by omega)) hm
 ·rcases h'.le.shNew b hb with hS | hge | hx
  ·exact h.le.shNew b hS
  ·exact .inr (.inl (Nat.le_trans h.le.kle.size hge))
  exact .inr (hbase b hx).2
 ·intro r hr
  rcases List.mem_append.1 hr with hr | hr
  ·exact h'.own r hr
  exact Res.holds_of (h.own r (List.mem_append.2 (.inr hr))) fun b hb=>h'.le.same b (h2 r hr b hb).1 (hcross r hr b hb)
 ·intro r hr b hb
  rcases List.mem_append.1 hr with hr | hr
  ·obtain ⟨g1,g2,g3⟩:=h'.blk r hr b hb
   refine ⟨g1,g2,?_⟩
   rcases g3 with g3 | g3
   ·exact .inl (Nat.le_trans h.le.kle.size g3)
   exact (hbase b g3).2
  obtain ⟨g1,g2,g3⟩:=h2 r hr b hb
  refine ⟨Nat.lt_of_lt_of_le g1 hk.size,fun hS=>?_,g3⟩
  rcases h'.le.shNew b hS with hS | hge | hx
  ·exact g2 hS
  ·exact absurd g1 (by exact Nat.not_lt.2 hge)
  exact hcross r hr b hb hx
 refine List.pairwise_append.2 ⟨h'.nd,(List.pairwise_append.1 h.nd).2.1,fun r hr s hs b hb hb'=>?_⟩
 rcases (h'.blk r hr b hb).2.2 with g | g
 ·exact absurd (h2 s hs b hb').1 (by exact Nat.not_lt.2 g)
 exact hcross s hs b hb' g
def FnOk (f:Nat):Prop:=∃ fn,Tryz.prog.funcs[f]?=some fn∧(fn.name == "runtime.NumGoroutine")=false∧fn.body.isNone=false
def Call (f:Nat) (args:List Value) (ρ:List Res) (κ:Kr) (R:Value→List Res→Kr→Prop):Prop :=
 FnOk f∧(Zi ⟨κ,oS ρ,none⟩ ρ κ→Calls Tryz.prog f args.toArray κ.w fun e w'=>∃ v ρ' κ',e=.returned v∧w'=κ'.w∧Zi ⟨κ,oS ρ,none⟩ ρ' κ'∧R v ρ' κ')
theorem Call.mono {f:Nat} {args:List Value} {R R':Value→List Res→Kr→Prop} (h:Call f args ρ κ R) (hr:∀ v ρ' κ',Kle κ κ'→R v ρ' κ'→R' v ρ' κ'):Call f args ρ κ R' :=
 ⟨h.1,fun hi=>(h.2 hi).mono fun _ _ ⟨v,ρ',κ',h1,h2,h3,h4⟩=>⟨v,ρ',κ',h1,h2,h3,hr v ρ' κ' h3.le.kle h4⟩⟩
theorem iD {f:Nat} (h:FnOk f) (args:Array Value) (w:World):(callFunc f args).run Tryz.prog w=.ok (.enter f args) w:=by
 obtain ⟨fn,h1,h2,h3⟩:=h
 simp only [callFunc,Sem.run_bind,run_program,Result.andThen_ok,h1,h2,h3,Bool.false_eq_true,if_false,Sem.run_pure]
section
variable {o:Oper} {σ:Env} {K:Value→List Res→Kr→Prop}
theorem vk {f:Nat} {l:List Operand} {ts:Array Nat} {args:List Value} {ρ1 ρ2:List Res} {R:Value→List Res→Kr→Prop} (ho:o.op=.call { callee:=.value (.func f),args:=l.toArray,argTypes:=ts })
    (ha:l.map (ev σ)=args) (hp:ρ.Perm (ρ1++ρ2)) (hc:Call f args ρ1 κ R) (h:∀ v ρ' κ',Kle κ κ'→R v ρ' κ'→K v (ρ'++ρ2) κ'):OpL o σ ρ κ K:=fun β hi Nx hk=>by
  have hi2:=hi.perm hp
  unfold execOp
  simp only [ho,ev,resolve,Deferred.ofValue,Sem.run_bind,Sem.run_pure,Result.andThen_ok,invoke,List.map_toArray,ha,iD hc.1,OutV]
  simp only [Array.append_empty,Array.empty_append]
  exact (hc.2 hi2.split).mono fun e w' ⟨v,ρ',κ',h1,h2,h3,h4⟩=>by
    subst h2
    exact ⟨v,h1,hk v (ρ'++ρ2) κ' (hi2.join h3) h3.le.kle (h v ρ' κ' h3.le.kle h4)⟩
theorem xn {f:Nat} {l:List Operand} {ts:Array Nat} {args:List Value} {R:Value→List Res→Kr→Prop} (ho:o.op=.call { callee:=.value (.func f),args:=l.toArray,argTypes:=ts })
    (ha:l.map (ev σ)=args) (hc:Call f args [] κ R) (h:∀ v ρ' κ',Kle κ κ'→R v ρ' κ'→K v (ρ'++ρ) κ'):OpL o σ ρ κ K :=
  vk ho ha (List.Perm.refl _) hc h
theorem xo {f:Nat} {x:Operand} {l:List Operand} {ts:Array Nat} {first captured args:List Value} {ρ1 ρ2:List Res} {R:Value→List Res→Kr→Prop} (ho:o.op=.call { callee:=.value x,args:=l.toArray,argTypes:=ts })
    (hx:ev σ x=.func (.func f) first.toArray captured.toArray) (ha:first++(l.map (ev σ))++captured=args) (hp:ρ.Perm (ρ1++ρ2)) (hc:Call f args ρ1 κ R) (h:∀ v ρ' κ',Kle κ κ'→R v ρ' κ'→K v (ρ'++ρ2) κ'):OpL o σ ρ κ K:=fun β hi Nx hk=>by
  have hi2:=hi.perm hp
  unfold execOp
  simp only [ho,hx,resolve,Deferred.ofValue,Sem.run_bind,Sem.run_pure,Result.andThen_ok,invoke,List.map_toArray,List.append_toArray,ha,iD hc.1,OutV]
  exact (hc.2 hi2.split).mono fun e w' ⟨v,ρ',κ',h1,h2,h3,h4⟩=>by
    subst h2
    exact ⟨v,h1,hk v (ρ'++ρ2) κ' (hi2.join h3) h3.le.kle (h v ρ' κ' h3.le.kle h4)⟩
theorem ol_box {t:Nat} {x:Operand} {cs:List Value} (ho:o.op=.box t x) (hx:bI (ev σ x)=cs) (h:∀ b κ',Kle κ κ'→K (.pointer (some ⟨b,0,none⟩)) (Res.b b t cs::ρ) κ'):OpL o σ ρ κ K:=fun β hi Nx hk=>by
 have hcs:(ev σ x).cells=cs.toArray:=by rw [← hx,← fS]
 unfold execOp
 simp only [ho,Instr.box,newVar,newRow,Sem.run_bind,run_newObj_alloc,Result.andThen_ok,Sem.run_pure,OutV,hcs]
 exact hk _ _ _ (hi.alloc _ (Res.b κ.w.heap.size t cs) rfl rfl) (dQ hi.fin _) (h _ _ (dQ hi.fin _))
theorem qv {t:Nat} {cs:List Value} {sz by':Nat} (ho:o.op=.alloc t) (hz:dU t=some (.agg cs.toArray,sz,by')) (h:∀ b κ',Kle κ κ'→K (.pointer (some ⟨b,0,none⟩)) (Res.b b t cs::ρ) κ'):OpL o σ ρ κ K:=fun β hi Nx hk=>by
 unfold execOp
 simp only [ho,Instr.alloc,newVar,newRow,Sem.run_bind,dc hz,run_newObj_alloc,Result.andThen_ok,Sem.run_pure,OutV,Value.cells]
 exact hk _ _ _ (hi.alloc _ (Res.b κ.w.heap.size t cs) rfl rfl) (dQ hi.fin _) (h _ _ (dQ hi.fin _))
theorem xp {t:Nat} {z:Value} {sz by':Nat} {cs:List Value} (ho:o.op=.alloc t) (hz:dU t=some (z,sz,by')) (hx:bI z=cs) (h:∀ b κ',Kle κ κ'→K (.pointer (some ⟨b,0,none⟩)) (Res.b b t cs::ρ) κ'):OpL o σ ρ κ K:=fun β hi Nx hk=>by
 have hcs:z.cells=cs.toArray:=by rw [← hx,← fS]
 unfold execOp
 simp only [ho,Instr.alloc,newVar,newRow,Sem.run_bind,dc hz,run_newObj_alloc,Result.andThen_ok,Sem.run_pure,OutV,hcs]
 exact hk _ _ _ (hi.alloc _ (Res.b κ.w.heap.size t cs) rfl rfl) (dQ hi.fin _) (h _ _ (dQ hi.fin _))
def Upd (ρ:List Res) (r r':Res) (ρ':List Res):Prop:=∃ l1 l2,ρ=l1++r::l2∧ρ'=l1++r'::l2
theorem Upd.h {r r':Res} {l:List Res}:Upd (r::l) r r' (r'::l):=⟨[],l,rfl,rfl⟩
theorem Upd.t {r r' s:Res} {l l':List Res} (h:Upd l r r' l'):Upd (s::l) r r' (s::l'):=by
 obtain ⟨l1,l2,h1,h2⟩:=h
 exact ⟨s::l1,l2,by rw [h1];rfl,by rw [h2];rfl⟩
theorem rb {w:World} {g:Nat} {cs:Array Value} {i:Nat} (h:i≠g):(w.setRow g cs).heap[i]?=w.heap[i]?:=by
 simp only [World.setRow];rw [Array.getElem?_modify,if_neg (fun e=>h e.symm)]
theorem lF {w:World} {b off T:Nat} {cs vs:List Value} (hb:w.heap[b]?=some (.cells cs.toArray T (0,0))) (hl:off+vs.length≤cs.length) (h1:vs.all Value.oneCell'=true) :
    ∃ w',(storeCells ⟨b,off,none⟩ vs).run Tryz.prog w=.ok () w'∧(∀ i,i≠b→w'.heap[i]?=w.heap[i]?)∧w'.heap.size=w.heap.size∧w'.heap[b]?=some (.cells (cs.take off++vs++cs.drop (off+vs.length)).toArray T (0,0))∧w'.os=w.os∧w'.tape=w.tape∧w'.output=w.output:=by
  have h:=run_storeCells_at Tryz.prog b off T vs 0 cs.toArray w hb (by simpa using hl) (fun v hv=>List.all_eq_true.1 h1 v hv)
  simp only [Nat.add_zero] at h
  exact ⟨_,h,fun i hi=>rb hi,by simp [World.setRow],setRow_heap w b _ _ T _ hb,rfl,rfl,rfl⟩
theorem oT {t:Nat} {x y:Operand} {b off T sz by':Nat} {z:Value} {cs vs:List Value} {ρ':List Res} (ho:o.op=.store t x y) (hx:ev σ x=.pointer (some ⟨b,off,none⟩)) (hv:bI (ev σ y)=vs)
    (hz:dU t=some (z,sz,by')) (hsz:vs.length=sz) (h1:vs.all Value.oneCell'=true) (hl:Nat.ble (off+vs.length) cs.length=true) (hu:Upd ρ (Res.b b T cs) (Res.b b T (cs.take off++vs++cs.drop (off+vs.length))) ρ')
    (h:∀ κ',Kle κ κ'→K undef ρ' κ'):OpL o σ ρ κ K:=fun β hi Nx hk=>by
  obtain ⟨l1,l2,hρ,hρ'⟩:=hu
  have hb:κ.w.heap[b]?=some (.cells cs.toArray T (0,0)):=hi.own (Res.b b T cs) (by rw [hρ];simp)
  obtain ⟨w',hrun,g1,g2,g3,g4,g5,g6⟩:=lF hb (Nat.le_of_ble_eq_true hl) h1
  have hcs:(ev σ y).cells=vs.toArray:=by rw [← hv,← fS]
  have hsz':vs.toArray.size=sz:=by simpa using hsz
  unfold execOp
  simp only [ho,hx,Instr.storeAt,Instr.sureAddr,storeVar,Sem.run_bind,Sem.run_pure,Result.andThen_ok,cF hz,hcs,hsz',ne_eq,not_true_eq_false,if_false,hrun,OutV]
  obtain ⟨hi',hk'⟩:=hi.turn (r:=Res.b b T cs) (r':=Res.b b T (cs.take off++vs++cs.drop (off+vs.length))) hρ rfl rfl g1 g2 g3 g4 g5 g6 (nj _ _ _ _ _ hrun)
  rw [← hρ'] at hi'
  exact hk _ _ _ hi' hk' (h _ hk')
def SetAt (cs:List Value) (k:Nat) (v:Value) (cs':List Value):Prop:=cs'=cs.set k v∧k<cs.length
theorem SetAt.h {x v:Value} {l:List Value}:SetAt (x::l) 0 v (v::l):=⟨rfl,by simp⟩
theorem SetAt.t {x v:Value} {l l':List Value} {k:Nat} (h:SetAt l k v l'):SetAt (x::l) (k+1) v (x::l'):=⟨by rw [h.1];rfl,by have:=h.2;simp;omega⟩
theorem nU {cs:List Value} {k:Nat} {v:Value} (h:k<cs.length):cs.set k v=cs.take k++[v]++cs.drop (k+1):=by
 rw [List.set_eq_take_append_cons_drop,if_pos h];simp
theorem qw {t:Nat} {x y:Operand} {b T sz by':Nat} {z:Value} {cs vs:List Value} {ρ':List Res} (ho:o.op=.store t x y) (hx:ev σ x=.pointer (some ⟨b,0,none⟩)) (hv:ev σ y=.agg vs.toArray)
    (hz:dU t=some (z,sz,by')) (hsz:vs.length=sz) (h1:vs.all Value.oneCell'=true) (hu:Upd ρ (Res.b b T cs) (Res.b b T vs) ρ') (hl:vs.length=cs.length)
    (h:∀ κ',Kle κ κ'→K undef ρ' κ'):OpL o σ ρ κ K:=by
  refine oT (T:=T) ho hx (vs:=vs) (by rw [hv];rfl) hz hsz h1 (cs:=cs) (Nat.ble_eq_true_of_le (by omega)) ?_ h
  have:cs.take 0++vs++cs.drop (0+vs.length)=vs:=by simp [hl]
  rw [this];exact hu
end
def RV1 (rv:ResultVar) (σ:Env) (ρ:List Res) (v:Value):Prop:=match rv with
 | .tmp t=>σ t=v
 | .cell t T=>∃ b off Tb cs,σ t=.pointer (some ⟨b,off,none⟩)∧Res.b b Tb cs∈ρ∧gi T (cs.drop off) 0=some v
theorem RV1.cell {t T b off Tb:Nat} {σ:Env} {cs:List Value} {v:Value} (h1:σ t=.pointer (some ⟨b,off,none⟩)) (h2:Res.b b Tb cs∈ρ) (h3:gi T (cs.drop off) 0=some v):RV1 (.cell t T) σ ρ v:=⟨b,off,Tb,cs,h1,h2,h3⟩
def RV (rs:List ResultVar) (σ:Env) (ρ:List Res) (v:Value):Prop:=match rs with
 | []=>v=.tuple #[]
 | [r]=>RV1 r σ ρ v
 | [r,s]=>∃ v1 v2,RV1 r σ ρ v1∧RV1 s σ ρ v2∧v=.tuple #[v1,v2]
 | [r,s,t]=>∃ v1 v2 v3,RV1 r σ ρ v1∧RV1 s σ ρ v2∧RV1 t σ ρ v3∧v=.tuple #[v1,v2,v3]
 | _=>False
def xq (tmps:Array Value) (rv:ResultVar):Sem Value:=match rv with
 | .tmp t=>pure (tmps.getD t undef)
 | .cell x t=>do loadVar t (← asAddr (tmps.getD x undef))
theorem lf {df:List Deferred} {n:Nat} {a:Act} {σ:Env} {rv:ResultVar} {v:Value} (hr:Rel df n a σ) (hi:Zi β ρ κ) (h:RV1 rv σ ρ v) :
    (xq a.tmps rv).run Tryz.prog κ.w=.ok v κ.w:=by
  unfold xq
  cases rv with
  | tmp t=>simp only [RV1] at h;simp only [hr.2.2,h,Sem.run_pure]
  | cell t T =>
    obtain ⟨b,off,Tb,cs,h1,h2,h3⟩:=h
    have hb:κ.w.heap[b]?=some (.cells cs.toArray Tb (0,0)):=hi.own _ h2
    have:=j0 (w:=κ.w) (t:=T) (b:=b) (off:=off) (cs:=cs.drop off) (v:=v) (fun j u hu=>by rw [gV hb];rwa [List.getElem?_drop] at hu) h3
    simp only [hr.2.2,h1,asAddr,Sem.run_bind,Sem.run_pure,Result.andThen_ok,this]
theorem run_RV {df:List Deferred} {n:Nat} {a:Act} {σ:Env} {fn:Func} {rs:List ResultVar} {v:Value} (hfn:fn.results=rs.toArray) (hr:Rel df n a σ) (hi:Zi β ρ κ) (h:RV rs σ ρ v):(results fn a.tmps).run Tryz.prog κ.w=.ok v κ.w:=by
 have hres:results fn a.tmps=(do let vs ← fn.results.mapM (xq a.tmps);pure (if h:vs.size=1 then vs[0] else .tuple vs)):=rfl
 rw [hres,hfn]
 clear hres
 match rs,h with
 | [],h=>simp only [RV] at h;subst h;simp
 | [r],h=>have h1:=lf hr hi h;simp [h1]
 | [r,s],⟨v1,v2,h1,h2,h3⟩=>have g1:=lf hr hi h1;have g2:=lf hr hi h2;subst h3;simp [g1,g2]
 | [r,s,t],⟨v1,v2,v3,h1,h2,h3,h4⟩=>have g1:=lf hr hi h1;have g2:=lf hr hi h2;have g3:=lf hr hi h3;subst h4;simp [g1,g2,g3]
def Shift (ρ:List Res) (κ:Kr) (ρ':List Res) (κ':Kr):Prop:=κ'.w=κ.w∧∀ β,Zi β ρ κ→Zi β ρ' κ'∧Kle κ κ'
theorem Shift.drop {ρ':List Res} (h:ρ'.Sublist ρ):Shift ρ κ ρ' κ:=⟨rfl,fun _ hi=>⟨hi.sub h,.refl _⟩⟩
theorem Shift.none:Shift ρ κ [] κ:=.drop (List.nil_sublist _)
theorem Shift.pub {r:Res} {l:List Res} {b:Nat} (hp:ρ.Perm (r::l)) (hb:r.blk=some b):Shift ρ κ l ⟨κ.w,fun i=>κ.S i∨i=b⟩:=⟨rfl,fun _ hi=>(hi.perm hp).pub hb⟩
theorem Shift.trans {ρ' ρ'':List Res} {κ' κ'':Kr} (h:Shift ρ κ ρ' κ') (k:Shift ρ' κ' ρ'' κ''):Shift ρ κ ρ'' κ'' :=
 ⟨k.1.trans h.1,fun β hi=>⟨(k.2 β (h.2 β hi).1).1,(h.2 β hi).2.trans (k.2 β (h.2 β hi).1).2⟩⟩
def xr (rs:List ResultVar) (R:Value→List Res→Kr→Prop):Exit→Post:=fun e σ ρ κ=>match e with
 | .ret | .normal=>∀ β,Zi β ρ κ→∃ v ρ' κ',RV rs σ ρ v∧Shift ρ κ ρ' κ'∧R v ρ' κ'
 | _=>False
theorem j5 {f n:Nat} {fn:Func} {c:Code} {args:List Value} {rs:List ResultVar} {R:Value→List Res→Kr→Prop} (hf:Tryz.prog.funcs[f]?=some fn) (hok:FnOk f) (hb:fn.body=some c) (hn:fn.ntmps=n) (hres:fn.results=rs.toArray) (hsz:Nat.ble args.length n=true)
    (h:WC ⟨κ,oS ρ,none⟩ n c (xr rs R) (w6 args.toArray) ρ κ):Call f args ρ κ R :=
  ⟨hok,fun hi=>calls_of_wp hf hb (by
    have hr:=xa args.toArray n (by simpa using Nat.le_of_ble_eq_true hsz)
    rw [hn]
    refine h hi _ hr _ fun e a' σ' ρ' κ' g1 g2 g3 g4=>?_
    have key:(∃ v ρ'' κ'',RV rs σ' ρ' v∧Shift ρ' κ' ρ'' κ''∧R v ρ'' κ'')→∃ v,(results fn a'.tmps).run Tryz.prog κ'.w=.ok v κ'.w∧(fun e w'=>∃ v ρ' κ',e=Ending.returned v∧w'=κ'.w∧Zi ⟨κ,oS ρ,none⟩ ρ' κ'∧R v ρ' κ') (.returned v) κ'.w:=fun ⟨v,ρ'',κ'',k1,k2,k3⟩ =>
      ⟨v,run_RV hres g1 g2 k1,v,ρ'',κ'',rfl,k2.1.symm,(k2.2 _ g2).1,k3⟩
    cases e with
    | ret=>exact ⟨g1.2.1,key (g4 _ g2)⟩
    | normal=>exact ⟨g1.2.1,key (g4 _ g2)⟩
    | _=>exact g4.elim)⟩
end
theorem nog:(Tryz.prog.funcs.toList.all fun fn => !(fn.name == "runtime.NumGoroutine"))=true:=by kernel_rfl
theorem fnk {f:Nat} {fn:Func} {c:Code} (hf:Tryz.prog.funcs[f]?=some fn) (hb:fn.body=some c):FnOk f:=by
  refine ⟨fn,hf,?_,by rw [hb];rfl⟩
  have h:=List.all_eq_true.mp nog fn (Array.mem_toList_iff.mpr (Array.mem_of_getElem? hf))
  cases e:fn.name == "runtime.NumGoroutine"
  · rfl
  rw [e] at h;cases h
def CallP (f:Nat) (args:List Value) (κ:Kr) (R:Value→Kr→Prop):Prop:=Call f args [] κ fun v ρ' κ'=>ρ'=[]∧R v κ'
theorem CallP.mono {f:Nat} {args:List Value} {κ:Kr} {R R':Value→Kr→Prop} (h:CallP f args κ R) (hr:∀ v κ',Kle κ κ'→R v κ'→R' v κ'):CallP f args κ R' :=
 Call.mono h fun v _ κ' hk h=>⟨h.1,hr v κ' hk h.2⟩
def OpG (c:Bool) (o:Oper) (σ:Env) (ρ:List Res) (κ:Kr) (K:Value→Kr→Prop):Prop :=
 (c=true→OpL o σ ρ κ fun v ρ' κ'=>ρ'=ρ∧K v κ')∧(c=false→K undef κ)
section
variable {β:Base} {n:Nat} {ops:Array Oper} {o:Oper} {σ:Env} {ρ:List Res} {κ:Kr} {c:Bool}
theorem iV {K:Value→List Res→Kr→Prop} {f:Nat} {l:List Operand} {ts:Array Nat} {args:List Value} {R:Value→Kr→Prop} (ho:o.op=.call { callee:=.value (.func f),args:=l.toArray,argTypes:=ts })
    (ha:l.map (ev σ)=args) (hc:CallP f args κ R) (h:∀ v κ',Kle κ κ'→R v κ'→K v ρ κ'):OpL o σ ρ κ K :=
  xn ho ha hc fun v ρ' κ' hk hr=>by obtain ⟨rfl,hr⟩:=hr;exact h v κ' hk hr
theorem qy {K:Value→List Res→Kr→Prop} {f:Nat} {x:Operand} {l:List Operand} {ts:Array Nat} {first captured args:List Value} {R:Value→Kr→Prop} (ho:o.op=.call { callee:=.value x,args:=l.toArray,argTypes:=ts })
    (hx:ev σ x=.func (.func f) first.toArray captured.toArray) (ha:first++(l.map (ev σ))++captured=args) (hc:CallP f args κ R) (h:∀ v κ',Kle κ κ'→R v κ'→K v ρ κ'):OpL o σ ρ κ K :=
  xo ho hx ha (List.Perm.refl _) hc fun v ρ' κ' hk hr=>by obtain ⟨rfl,hr⟩:=hr;exact h v κ' hk hr
theorem sw {K:Value→Kr→Prop} {f:Nat} {l:List Operand} {ts:Array Nat} {args:List Value} {R:Value→Kr→Prop} (ho:o.op=.call { callee:=.value (.func f),args:=l.toArray,argTypes:=ts })
    (ha:c=true→l.map (ev σ)=args) (hc:c=true→CallP f args κ R) (h:∀ v κ',Kle κ κ'→(c=true→R v κ')→K v κ'):OpG c o σ ρ κ K :=
  ⟨fun hct=>iV ho (ha hct) (hc hct) fun v κ' hk hr=>⟨rfl,h v κ' hk fun _=>hr⟩,fun hcf=>h undef κ (.refl _) fun h=>by rw [hcf] at h;cases h⟩
theorem wl_g {rest:List Oper} {K:Post} {d:Nat} (hg:GuardIs ops σ o c) (hd':o.dst=some d) (hlt:Nat.blt d n=true) (h:OpG c o σ ρ κ fun v κ'=>WL β n ops rest K (upd σ d (gv c v)) ρ κ'):WL β n ops (o::rest) K σ ρ κ :=
 fun hi df a hr Q hk=>by
  simp only [← dP hd'] at h
  have hd:=eE hd' hlt
  unfold wpList
  rw [gE hr,hg]
  cases c with
  | false =>
   have h2:=h.2 rfl
   simp only [eZ] at h2
   exact h2 hi _ (hr.put hd undef) Q hk
  | true =>
   refine .inl (iO hr.eval (h.1 rfl β hi (fun v w=>wpList Tryz.prog ops Q rest (a.put o.dst v) w) fun v ρ' κ' hi' hle hw=>?_) fun _ _ h=>h)
   obtain ⟨rfl,hw⟩:=hw
   simp only [gU] at hw
   exact hw hi' _ (hr.put hd v) Q fun a' σ' ρ'' κ'' h1 h2 h3 h4=>hk a' σ' ρ'' κ'' h1 h2 (hle.trans h3) h4
end
theorem OpL.frame {β:Base} {o:Oper} {σ:Env} {ρ ρf:List Res} {κ:Kr} {K:Value→List Res→Kr→Prop} (h:OpL o σ ρ κ K) (hi:Zi β (ρ++ρf) κ) (Nx:Value→World→Prop) (hk:∀ v ρ' κ',Zi β (ρ'++ρf) κ'→Kle κ κ'→K v ρ' κ'→Nx v κ'.w):OutV Nx ((execOp (ev σ) o).run Tryz.prog κ.w) :=
 h ⟨κ,oS ρ,none⟩ hi.split Nx fun v ρ' κ' hi' hle hK=>hk v ρ' κ' (hi.join hi') hle hK
theorem nV:∀ (l:List Value) (k off:Nat) (cells:Array Value),off+k+l.length≤cells.size →
    ((l.zipIdx k).foldl (fun (cs:Array Value) (p:Value×Nat)=>cs.setIfInBounds (off+p.2) p.1) cells).toList=cells.toList.take (off+k)++l++cells.toList.drop (off+k+l.length)
  | [],k,off,cells,_=>by simp
  | v::l,k,off,cells,h=>by
    simp only [List.length_cons] at h
    have ih:=nV l (k+1) off (cells.setIfInBounds (off+k) v) (by simp;omega)
    simp only [List.zipIdx_cons,List.foldl_cons]
    rw [ih]
    have e:=list_seg_step cells.toList (off+k) v l (by simp;omega)
    simp only [Array.toList_setIfInBounds]
    have e1:off+(k+1)=off+k+1:=by omega
    rw [e1]
    simpa [Nat.add_assoc] using e
theorem rc (v:Value) (off:Nat) (cells:Array Value) (h:off+(bI v).length≤cells.size) :
    (v.cells.zipIdx.foldl (fun (cs:Array Value) (x:Value×Nat)=>match x with | (c,j)=>cs.setIfInBounds (off+j) c) cells).toList=cells.toList.take off++bI v++cells.toList.drop (off+(bI v).length):=by
  have:=nV (bI v) 0 off cells (by simpa using h)
  simp only [Nat.add_zero] at this
  rw [← this,← fS,← Array.foldl_toList,Array.toList_zipIdx]
theorem qz {place:Nat→Option (Nat×Nat)} {cells:List Value} {i off sz:Nat} {v:Value} {rest:List (Nat×Value)} (hp:place i=some (off,sz)) (hv:(bI v).length=sz) (hl:off+sz≤cells.length) :
    Instr.fill place cells.toArray ((i,v)::rest)=Instr.fill place (cells.take off++bI v++cells.drop (off+sz)).toArray rest:=by
  have hvs:v.cells.size=sz:=by rw [← hv,← fS];simp
  have h:=rc v off cells.toArray (by simp [hv];omega)
  simp only [hv] at h
  have h2:v.cells.zipIdx.foldl (fun (cs:Array Value) (x:Value×Nat)=>match x with | (c,j)=>cs.setIfInBounds (off+j) c) cells.toArray=(cells.take off++bI v++cells.drop (off+sz)).toArray:=Array.ext' h
  rw [Instr.fill]
  simp only [hp]
  rw [if_neg (by simp [hvs];omega),h2]
theorem oU {sz:Nat}:∀ (vs:List Value) (k:Nat) (pre zs:List Value),pre.length=k*sz→zs.length=vs.length*sz→(∀ v∈vs,(bI v).length=sz) →
    Instr.fill (fun i=>some (i*sz,sz)) (pre++zs).toArray ((vs.zipIdx k).map fun p=>(p.2,p.1))=some (pre++vs.flatMap bI).toArray
  | [],k,pre,zs,_,hz,_=>by
    have:zs=[]:=List.eq_nil_of_length_eq_zero (by simpa using hz)
    subst this;simp [Instr.fill]
  | v::vs,k,pre,zs,hp,hz,hw=>by
    have hv:=hw v (by simp)
    have hz':zs.length=vs.length*sz+sz:=by rw [hz,List.length_cons,Nat.add_mul];omega
    simp only [List.zipIdx_cons,List.map_cons]
    rw [qz (off:=k*sz) (sz:=sz) rfl hv (by simp;omega)]
    have e:(pre++zs).take (k*sz)++bI v++(pre++zs).drop (k*sz+sz)=(pre++bI v)++zs.drop sz:=by
      rw [← hp,List.take_left]
      simp [List.drop_append,Nat.add_sub_cancel_left,List.append_assoc]
    rw [e,oU vs (k+1) (pre++bI v) (zs.drop sz) (by simp [hp,hv,Nat.add_mul]) (by simp;omega) (fun u hu=>hw u (by simp [hu]))]
    simp
theorem oV {t E sz by':Nat} {z:Value} (hu:dv t=some (.slice E)) (hi:dU E=some (z,sz,by')) (hz:z.cells.size=sz) (vs:List Value) (hw:∀ v∈vs,(bI v).length=sz) (hb:vs.length*sz≤16777216) (w:World) :
    (Instr.buildSlice t vs.length ((vs.zipIdx).map fun p=>(p.2,p.1)).toArray).run Tryz.prog w=.ok (.slice (some ⟨w.heap.size,0,none⟩) vs.length vs.length) (w.alloc (.cells (vs.flatMap bI).toArray E)):=by
  have hf:∀ zs:List Value,zs.length=vs.length*sz→Instr.fill (fun i=>some (i*sz,sz)) zs.toArray ((vs.zipIdx).map fun p=>(p.2,p.1))=some (vs.flatMap bI).toArray:=fun zs hzs=>by
    have:=oU vs 0 [] zs (by simp) hzs hw;simpa using this
  simp only [Instr.buildSlice,Sem.run_bind,run_underlying (br hu),Result.andThen_ok,cF hi]
  have hb':¬ (vs.length*sz > 2 ^ 24):=by simp;omega
  rw [if_neg hb']
  by_cases h0:vs.length*sz=0
  · have h1:=hf [] (by simpa using h0.symm)
    have hr0:Array.range 0=#[]:=by decide
    simp only [h0,if_true,hr0]
    simp [h1,newRow]
  simp only [h0,if_false,dc hi,Sem.run_bind,Sem.run_pure,Result.andThen_ok]
  have h1:=hf (((Array.range (vs.length*sz)).map (z.cells[· % z.cells.size]!)).toList) (by simp)
  simp only [Array.toArray_toList] at h1
  simp [h1,newRow]
def re (o:Oper):Option (Nat×List Value×(Nat→Value)):=match o.op with
 | .alloc T=>match dU T with
  | some (z,_,_)=>some (T,bI z,fun b=>.pointer (some ⟨b,0,none⟩))
  | none=>none
 | .buildSlice t 0 ps=>match ps.toList,dv t with
  | [],some (.slice E)=>match dU E with
   | some _=>some (E,[],fun b=>.slice (some ⟨b,0,none⟩) 0 0)
   | none=>none
  | _,_=>none
 | _=>none
theorem sy {o:Oper} {T:Nat} {cs:List Value} {mk:Nat→Value} (h:re o=some (T,cs,mk)) (σ:Env) (w:World):(execOp (ev σ) o).run Tryz.prog w=.ok (.value (mk w.heap.size)) (w.alloc (.cells cs.toArray T)):=by
 unfold re at h
 split at h
 ·rename_i T' ho
  split at h
  ·rename_i z sz by' hz
   simp only [da,Prod.mk.injEq] at h
   obtain ⟨rfl,rfl,rfl⟩:=h
   have hcs:z.cells=(bI z).toArray:=by rw [← fS]
   simp only [execOp,ho,Instr.alloc,newVar,newRow,Sem.run_bind,dc hz,run_newObj_alloc,Result.andThen_ok,Sem.run_pure,hcs]
  cases h
 ·rename_i t ps ho
  split at h
  ·rename_i E hps hu
   split at h
   ·rename_i x hz
    obtain ⟨z,sz,by'⟩:=x
    simp only [da,Prod.mk.injEq] at h
    obtain ⟨rfl,rfl,rfl⟩:=h
    have hps':ps=#[]:=by apply Array.ext';simpa using hps
    subst hps'
    simp [execOp,ho,Instr.buildSlice,run_underlying (br hu),cF hz,newRow,Instr.fill]
    have hr0:Array.range 0=#[]:=by decide
    rw [hr0];simp
   cases h
  cases h
 cases h
def dL (ord:List (Nat×Nat)):List Nat:=(ord.filter fun p=>Nat.beq p.2 2).map (·.1)
def iW (L:Array Bool) (ps:List Nat):Array Bool:=ps.foldl (fun L i=>L.setIfInBounds i true) L
def LateRun (o:Oper) (σ:Env) (T:Nat) (cs:List Value) (mk:Nat→Value):Prop:=o.guard=none∧∀ w,(execOp (ev σ) o).run Tryz.prog w=.ok (.value (mk w.heap.size)) (w.alloc (.cells cs.toArray T))
theorem LateRun.det {o:Oper} {σ:Env} {T T':Nat} {cs cs':List Value} {mk mk':Nat→Value} (h:LateRun o σ T cs mk) (h':LateRun o σ T' cs' mk'):T=T'∧cs=cs'∧mk=mk':=by
 have h1:=(h.2 default).symm.trans (h'.2 default)
 injection h1 with _ h2
 have h3:=congrArg (fun w:World=>w.heap[(default:World).heap.size]?) h2
 simp only [lE,da] at h3
 injection h3 with h4 h5
 refine ⟨h5,by simpa using h4,funext fun n=>?_⟩
 have g1:=(h.2 { (default:World) with heap:=Array.replicate n default }).symm.trans (h'.2 { (default:World) with heap:=Array.replicate n default })
 injection g1 with g2 _
 injection g2 with g2
 simpa using g2
def mv (ops:Array Oper) (o:Oper) (p:Nat):Bool:=match (ops[p]?).bind (·.dst) with
 | some d => !(o.looksAt ops).contains d&&o.dst != some d
 | none=>false
def ri (ops:Array Oper) (o:Oper) (p:Nat):Bool:=match ops[p]?,o.dst with
 | some q,some d => !(q.looksAt ops).contains d
 | some _,none=>true
 | none,_=>false
def oW (n:Nat) (ops:Array Oper) (p:Nat):Bool:=match ops[p]? with
 | some o=>o.guard.isNone&&(match o.dst with | some d=>Nat.blt d n | none=>false)
 | none=>false
def lN (ops:Array Oper) (p:Nat):Bool:=match ops[p]? with
 | some o=>(re o).isSome&&o.guard.isNone
 | none=>false
def sA (ops:Array Oper) (A:List Nat) (o:Oper) (P:List Nat):Bool:=P.all fun p=>mv ops o p&&(!A.contains p||ri ops o p)
def xt (ops:Array Oper) (L:Array Bool) (A:List Nat) (P:List Nat):Bool:=P.all fun p=>A.contains p || !(Region.ready .any ops (iW L (P.filter fun q => !Nat.beq q p))).contains p
def fw (n:Nat) (ops:Array Oper):Array Bool→List Nat→List (Nat×Nat)→Bool
  | _,_,[]=>true
  | L,A,(i,k)::r=>match k,ops[i]? with
      | 0,some o=>(Region.ready .any ops L).contains i&&Region.free .any ops L i&&sA ops A o (dL r)&&fw n ops (L.setIfInBounds i true) A r
      | 1,some o=>(Region.ready .any ops L).contains i&&(Region.ready .any ops (iW L (dL r)) == [i])&&sA ops A o (dL r)&&xt ops L A (dL r)&&fw n ops (L.setIfInBounds i true) A r
      | 2,some o=>(Region.ready .any ops L).contains i&&(Region.ready .any ops (iW L (dL r)) == [i])&&A.contains i&&sA ops A o (dL r)&&xt ops L A (dL r)&&fw n ops (L.setIfInBounds i true) A r
      | 3,some _=>fw n ops L (i::A) r
      | 4,some _=>fw n ops L A r
      | _,_=>false
def j6 (ops:List Oper):List (Nat×Nat)→Option (List (Nat×Oper))
 | []=>some []
 | (i,q)::r=>match ops[i]?,j6 ops r with
  | some o,some l=>some ((q,o)::l)
  | _,_=>none
def WD (β:Base) (n:Nat) (ops:Array Oper) (K:Post):List (Nat×Oper)→Env→List Res→List Res→Kr→Prop
  | [],σ,ρd,ρs,κ=>∀ κ1,Kle κ κ1→K σ (ρd++ρs) κ1
  | (0,o)::r,σ,ρd,ρs,κ=>oM n o.dst=true∧((o.guard=none∧∃ v,OpQ true o σ ρs κ v∧WD β n ops K r (kA σ o.dst v) ρd ρs κ)∨(∃ c v,GuardIs ops σ o c∧OpQ c o σ ρs κ v∧WD β n ops K r (kA σ o.dst (gv c v)) ρd ρs κ))
  | (1,o)::r,σ,ρd,ρs,κ=>oM n o.dst=true∧((o.guard=none∧∀ κ1,Kle κ κ1→OpL o σ (ρd++ρs) κ1 fun v ρ' κ'=>∃ ρd',ρ'=ρd'++ρs∧WD β n ops K r (kA σ o.dst v) ρd' ρs κ') ∨
      (∃ c,GuardIs ops σ o c∧∀ κ1,Kle κ κ1→OpG c o σ (ρd++ρs) κ1 fun v κ'=>WD β n ops K r (kA σ o.dst (gv c v)) ρd ρs κ'))
  | (2,o)::r,σ,ρd,ρs,κ=>∃ T cs mk d,LateRun o σ T cs mk∧o.dst=some d∧∀ b κ',Kle κ κ'→WD β n ops K r (upd σ d (mk b)) (Res.b b T cs::ρd) ρs κ'
  | (3,o)::r,σ,ρd,ρs,κ=>(∃ T cs mk,LateRun o σ T cs mk)∧WD β n ops K r σ ρd ρs κ
  | (_,_)::r,σ,ρd,ρs,κ=>∃ r0 ρd',ρd.Perm (r0::ρd')∧WD β n ops K r σ ρd' (r0::ρs) κ
structure Early where
 op:Nat
 slot:Nat
 val:Value
 res:Res
def ov (E:List Early) (σ:Env):Env:=fun t=>((E.find? fun e=>Nat.beq e.slot t).map (·.val)).getD (σ t)
theorem xu (σ:Env):ov [] σ=σ:=rfl
theorem rj {E:List Early} {σ:Env} {t:Nat} (h:∀ e∈E,e.slot≠t):ov E σ t=σ t:=by
 unfold ov
 have:E.find? (fun e=>Nat.beq e.slot t)=none:=List.find?_eq_none.2 fun e he hb=>h e he (Nat.eq_of_beq_eq_true hb)
 rw [this];rfl
theorem xv {E:List Early} {σ:Env} {d:Nat} {v:Value} (h:∀ e∈E,e.slot≠d):ov E (upd σ d v)=upd (ov E σ) d v:=by
 funext t
 by_cases ht:t=d
 ·subst ht
  rw [rj h];simp [upd]
 have hb:Nat.beq t d=false:=by cases hb:Nat.beq t d;rfl;exact absurd (Nat.eq_of_beq_eq_true hb) ht
 unfold ov upd
 rw [hb];rfl
theorem mw {E:List Early} {σ:Env} {d:Option Nat} {v:Value} (h:∀ e∈E,d≠some e.slot):ov E (kA σ d v)=kA (ov E σ) d v:=by
 cases d with
 | none=>rfl
 | some d=>exact xv fun e he h'=>h e he (by rw [h'])
theorem oy {E:List Early} {e:Early} {σ:Env}:ov (e::E) σ=upd (ov E σ) e.slot e.val:=by
 funext t
 unfold ov upd
 simp only [List.find?_cons]
 by_cases ht:e.slot=t
 ·subst ht;simp
 have hb:Nat.beq e.slot t=false:=by cases hb:Nat.beq e.slot t;rfl;exact absurd (Nat.eq_of_beq_eq_true hb) ht
 have hb':Nat.beq t e.slot=false:=by cases hb:Nat.beq t e.slot;rfl;exact absurd (Nat.eq_of_beq_eq_true hb).symm ht
 rw [hb,hb'];rfl
theorem ov_mid {E1 E2:List Early} {e:Early} {σ:Env} (h:∀ f∈E1++E2,f.slot≠e.slot):ov (E1++e::E2) σ=ov (E1++E2) (upd σ e.slot e.val):=by
 induction E1 with
 | nil=>rw [List.nil_append,oy,List.nil_append,xv (by simpa using h)]
 | cons f E1 ih =>
  rw [List.cons_append,oy,ih (fun g hg=>h g (List.mem_cons_of_mem _ hg)),List.cons_append,oy]
theorem vl {ops:Array Oper} {E:List Early} {σ:Env} {o:Oper} (hs:∀ cs b,o.op≠.select cs b) (h:∀ e∈E,e.slot ∉ o.looksAt ops):execOp (ev (ov E σ)) o=execOp (ev σ) o :=
 execOp_congr o hs fun x hx=>by
  cases x with
  | tmp t=>exact rj fun e he h'=>h e he (List.mem_append_left _ (List.mem_filterMap.2 ⟨.tmp t,by simpa using hx,by rw [h']⟩))
  | _=>rfl
theorem sB {ops:Array Oper} {E:List Early} {σ:Env} {o:Oper} {c:Bool} (h:∀ e∈E,e.slot ∉ o.looksAt ops) (hg:GuardIs ops σ o c):GuardIs ops (ov E σ) o c:=by
 unfold GuardIs Region.wanted at *
 cases hgd:o.guard with
 | none=>rw [hgd] at hg;exact hg
 | some jw =>
  obtain ⟨j,want⟩:=jw
  rw [hgd] at hg
  simp only at hg ⊢
  rw [← hg]
  have:dO ops (ov E σ) j=dO ops σ j:=by
   unfold dO
   cases hd:(ops[j]?).bind (·.dst) with
   | none=>rfl
   | some d =>
    simp only [Option.map_some]
    rw [rj fun e he h'=>h e he (List.mem_append_right _ (by rw [hgd];simp [hd,h']))]
  rw [this]
theorem fT {P:Program} {md:Region.Mode} {ops:Array Oper} {Q:Exit→Act→World→Prop} {S S':World→Prop} (hS:∀ w,S' w→S w):∀ (fuel:Nat) (listed:Array Bool) (a:Act) (w:World),wpAnyH P md ops Q S' fuel listed a w→wpAnyH P md ops Q S fuel listed a w
 | 0,_,_,_,h=>h
 | fuel+1,_,_,_,h=>⟨h.1,fun i hi=>wpOp_mono (fun a' w' h'=>⟨hS w' h'.1,fT hS fuel _ a' w' h'.2⟩) (h.2 i hi)⟩
theorem cT {L:Array Bool} {j:Nat} (hj:j<L.size):L.getD j true=L.getD j false:=by
 simp [Array.getD_eq_getD_getElem?,Array.getElem?_eq_getElem hj]
theorem sC (L:Array Bool):∀ (ps:List Nat) ,(iW L ps).size=L.size:=by
 intro ps
 induction ps generalizing L with
 | nil=>rfl
 | cons p ps ih=>unfold iW at *;rw [List.foldl_cons,ih];simp
theorem oX {L:Array Bool} {j:Nat}:∀ {ps:List Nat},(iW L ps).getD j false=true↔L.getD j false=true∨(j∈ps∧j<L.size):=by
 intro ps
 induction ps generalizing L with
 | nil=>simp [iW]
 | cons p ps ih =>
  unfold iW at *
  rw [List.foldl_cons,ih]
  by_cases hj:p=j
  ·subst hj
   by_cases hlt:p<L.size
   ·simp [hlt]
   simp [hlt]
  rw [getD_set_ne false hj]
  have:j≠p:=fun e=>hj e.symm
  simp [this]
theorem OpQ.mono {c:Bool} {o:Oper} {σ:Env} {ρ:List Res} {κ κ':Kr} {v:Value} (h:OpQ c o σ ρ κ v) (k:Kle κ κ'):OpQ c o σ ρ κ' v :=
 fun hc w hs=>h hc w ⟨fun b hb=>(hs.keep b (k.sh b hb)).trans (k.keep b hb),hs.own⟩
theorem WD.mono {β:Base} {n:Nat} {ops:Array Oper} {K:Post} {κ κ':Kr} (k:Kle κ κ'):∀ {l:List (Nat×Oper)} {σ:Env} {ρd ρs:List Res},WD β n ops K l σ ρd ρs κ→WD β n ops K l σ ρd ρs κ'
 | [],_,_,_,h=>fun κ1 k1=>h κ1 (k.trans k1)
 | (0,o)::r,_,_,_,⟨h1,h2⟩=>⟨h1,h2.imp (fun ⟨g,v,g1,g2⟩=>⟨g,v,g1.mono k,WD.mono k g2⟩) (fun ⟨c,v,g,g1,g2⟩=>⟨c,v,g,g1.mono k,WD.mono k g2⟩)⟩
 | (1,o)::r,_,_,_,⟨h1,h2⟩=>⟨h1,h2.imp (fun ⟨g,g1⟩=>⟨g,fun κ1 k1=>g1 κ1 (k.trans k1)⟩) (fun ⟨c,g,g1⟩=>⟨c,g,fun κ1 k1=>g1 κ1 (k.trans k1)⟩)⟩
 | (2,o)::r,_,_,_,⟨T,cs,mk,d,h1,h2,h3⟩=>⟨T,cs,mk,d,h1,h2,fun b κ1 k1=>h3 b κ1 (k.trans k1)⟩
 | (3,o)::r,_,_,_,⟨h1,h2⟩=>⟨h1,WD.mono k h2⟩
 | (_+4,o)::r,_,_,_,⟨r0,ρd',h1,h2⟩=>⟨r0,ρd',h1,WD.mono k h2⟩
theorem np:∀ (l l':List Nat),l.Nodup→(∀ x∈l,x∈l')→l.length≤l'.length
 | [],_,_,_=>by simp
 | x::l,l',hn,hs=>by
  have hx:=hs x (by simp)
  have h:=np l (l'.erase x) (List.nodup_cons.1 hn).2 fun y hy=>(List.mem_erase_of_ne (fun (e:y=x)=>(List.nodup_cons.1 hn).1 (by rw [← e];exact hy))).2 (hs y (List.mem_cons_of_mem _ hy))
  rw [List.length_erase_of_mem hx] at h
  have:0<l'.length:=List.length_pos_of_mem hx
  simp only [List.length_cons];omega
section
variable {β:Base} {n:Nat} {ops:Array Oper} {K:Post} {ρs:List Res}
theorem jF {i k:Nat} {r:List (Nat×Nat)}:dL ((i,k)::r)=if k=2 then i::dL r else dL r:=by
 unfold dL
 by_cases hk:k=2
 ·subst hk;simp [List.filter_cons]
 have:Nat.beq k 2=false:=by cases hb:Nat.beq k 2;rfl;exact absurd (Nat.eq_of_beq_eq_true hb) hk
 simp [List.filter_cons,this,hk]
theorem LateRun.same {o:Oper} {σ σ':Env} {T:Nat} {cs:List Value} {mk:Nat→Value} (hs:∀ cs b,o.op≠.select cs b) (h:LateRun o σ T cs mk) (he:∀ t∈o.looksAt ops,σ' t=σ t):LateRun o σ' T cs mk :=
 ⟨h.1,fun w=>by
  rw [← h.2 w,execOp_congr o hs fun x hx=>?_]
  cases x with
  | tmp t=>exact he t (List.mem_append_left _ (List.mem_filterMap.2 ⟨.tmp t,by simpa using hx,rfl⟩))
  | _=>rfl⟩
theorem oY {σ:Env} {d:Option Nat} {v:Value} {t:Nat} (h:d≠some t):kA σ d v t=σ t:=by
 cases d with
 | none=>rfl
 | some d =>
  have hb:Nat.beq t d=false:=by cases hb:Nat.beq t d;rfl;exact absurd (by rw [Nat.eq_of_beq_eq_true hb]) h
  simp only [kA,upd,hb,eY]
structure EarlyOk (ops:Array Oper) (A P:List Nat) (L LE:Array Bool) (E:List Early) (σ:Env):Prop where
 sz:L.size=ops.size
 szE:LE.size=ops.size
 get:∀ j,LE.getD j false=true↔L.getD j false=true∨∃ e∈E,e.op=j
 pd:∀ e∈E,e.op∈P
 is:∀ e∈E,e.op∈A∧∃ o T cs mk b,ops[e.op]?=some o∧LateRun o σ T cs mk∧o.dst=some e.slot∧e.val=mk b∧e.res=Res.b b T cs
 nd:(E.map (·.op)).Nodup
section
variable {A P:List Nat} {L LE:Array Bool} {E:List Early} {σ:Env}
theorem EarlyOk.free {i:Nat} (h:EarlyOk ops A P L LE E σ) (hf:Region.free .any ops L i=true):Region.free .any ops LE i=true:=by
 unfold Region.free at *
 cases ho:ops[i]? with
 | none=>rw [ho] at hf;exact hf
 | some oi =>
  rw [ho] at hf
  simp only [List.all_eq_true,List.mem_range] at hf ⊢
  intro j hj
  have h1:=hf j hj
  simp only [Bool.or_eq_true] at h1 ⊢
  rcases h1 with (h1 | h1) | h1
  ·exact .inl (.inl h1)
  ·refine .inl (.inr ?_)
   rw [cT (by rw [h.szE];exact hj)]
   rw [cT (by rw [h.sz];exact hj)] at h1
   exact (h.get j).2 (.inl h1)
  exact .inr h1
theorem EarlyOk.ready {i:Nat} (h:EarlyOk ops A P L LE E σ) (hi:i∈Region.ready .any ops L) (hn:∀ e∈E,e.op≠i):i∈Region.ready .any ops LE:=by
 rw [mem_ready] at *
 obtain ⟨h0,o,ho,hall⟩:=hi
 have hlt:i<ops.size:=(Array.getElem?_eq_some_iff.1 ho).1
 refine ⟨?_,o,ho,fun e he hb=>(h.get _).2 (.inl (hall e he hb))⟩
 rw [cT (by rw [h.szE];exact hlt)]
 rw [cT (by rw [h.sz];exact hlt)] at h0
 cases hc:LE.getD i false with
 | false=>rfl
 | true =>
  rcases (h.get i).1 hc with h1 | ⟨e,he,h1⟩
  ·rw [h0] at h1;cases h1
  exact absurd h1 (hn e he)
theorem EarlyOk.ready_all {j:Nat} {P':List Nat} (h:EarlyOk ops A P L LE E σ) (hP:∀ e∈E,e.op∈P') (hj:j∈Region.ready .any ops LE) (hn:j ∉ P'):j∈Region.ready .any ops (iW L P'):=by
 rw [mem_ready] at *
 obtain ⟨h0,o,ho,hall⟩:=hj
 have hlt:j<ops.size:=(Array.getElem?_eq_some_iff.1 ho).1
 refine ⟨?_,o,ho,fun e he hb=>?_⟩
 ·rw [cT (by rw [sC,h.sz];exact hlt)]
  rw [cT (by rw [h.szE];exact hlt)] at h0
  cases hc:(iW L P').getD j false with
  | false=>rfl
  | true =>
   rcases oX.1 hc with h1 | ⟨h1,_⟩
   ·rw [(h.get j).2 (.inl h1)] at h0;cases h0
   exact absurd h1 hn
 refine oX.2 ?_
 have h1:=hall e he hb
 rcases (h.get _).1 h1 with h2 | ⟨f,hf,h2⟩
 ·exact .inl h2
 refine .inr ⟨h2 ▸ hP f hf,?_⟩
 rw [h.sz,← h.szE]
 rcases Nat.lt_or_ge e.on LE.size with h3 | h3
 ·exact h3
 simp [Array.getD_eq_getD_getElem?,Array.getElem?_eq_none h3] at h1
end
theorem oz {L:Array Bool} {i j:Nat} (hi:i<L.size):(L.setIfInBounds i true).getD j false=true↔L.getD j false=true∨i=j:=by
 by_cases hij:i=j
 ·subst hij;simp [hi]
 rw [getD_set_ne false hij];simp [hij]
theorem j7 {o:Oper} {p d:Nat} {o':Oper} (h:mv ops o p=true) (ho:ops[p]?=some o') (hd:o'.dst=some d):d ∉ o.looksAt ops∧o.dst≠some d:=by
 unfold mv at h
 rw [ho] at h
 simp only [ft,hd,Bool.and_eq_true,Bool.not_eq_true',bne_iff_ne,ne_eq] at h
 exact ⟨by simpa using h.1,h.2⟩
theorem nW {o:Oper} {p:Nat} {q:Oper} (h:ri ops o p=true) (hq:ops[p]?=some q):∀ t∈q.looksAt ops,o.dst≠some t:=fun t ht hd=>by
 unfold ri at h
 rw [hq,hd] at h
 simp only [Bool.not_eq_true'] at h
 simp [ht] at h
theorem oZ {A P:List Nat} {o:Oper} (h:sA ops A o P=true):∀ p∈P,mv ops o p=true∧(p∈A→ri ops o p=true):=fun p hp=>by
 have:=List.all_eq_true.1 h p hp
 simp only [Bool.and_eq_true,Bool.or_eq_true,Bool.not_eq_true'] at this
 refine ⟨this.1,fun ha=>?_⟩
 rcases this.2 with h1 | h1
 ·simp [ha] at h1
 exact h1
def jG (ops:Array Oper) (P:List Nat):Bool:=P.all fun p=>P.all fun q=>Nat.beq p q||(match ops[p]? with | some o=>mv ops o q | none=>false)
theorem o3 {P:List Nat} (h:jG ops P=true) {p q:Nat} {o o':Oper} {d:Nat} (hp:p∈P) (hq:q∈P) (hne:p≠q) (ho:ops[p]?=some o) (ho':ops[q]?=some o') (hd:o'.dst=some d):d ∉ o.looksAt ops∧o.dst≠some d:=by
 have:=List.all_eq_true.1 (List.all_eq_true.1 h p hp) q hq
 simp only [Bool.or_eq_true,ho] at this
 rcases this with h1 | h1
 ·exact absurd (Nat.eq_of_beq_eq_true h1) hne
 exact j7 h1 ho' hd
end
section
variable {β:Base} {n:Nat} {ops:Array Oper} {K:Post}
theorem EarlyOk.step {A P:List Nat} {L LE:Array Bool} {E:List Early} {σ σ':Env} {i:Nat} (hsel:Region.noSelect ops=true) (h:EarlyOk ops A P L LE E σ) (hi:i<ops.size) (hσ:∀ p∈P,p∈A→∀ o,ops[p]?=some o→∀ t∈o.looksAt ops,σ' t=σ t):EarlyOk ops A P (L.setIfInBounds i true) (LE.setIfInBounds i true) E σ' :=
 ⟨by simp [h.sz],by simp [h.szE],fun j=>by rw [oz (by rw [h.szE];exact hi),oz (by rw [h.sz];exact hi),h.get j];constructor <;> (rintro ((h | h) | h) <;> simp [h]),h.pd,fun e he=>by
  obtain ⟨h1,o,T,cs,mk,b,h2,h3,h4⟩:=h.is e he
  exact ⟨h1,o,T,cs,mk,b,h2,h3.same (ops:=ops) (fun cs b=>Region.noSelect_spec hsel _ o cs b h2) (hσ _ (h.pd e he) h1 o h2),h4⟩,h.nd⟩
theorem sD {p:Nat} (h:oW n ops p=true):∃ o d,ops[p]?=some o∧o.guard=none∧o.dst=some d∧Nat.blt d n=true:=by
 unfold oW at h
 cases ho:ops[p]? with
 | none=>rw [ho] at h;cases h
 | some o =>
  rw [ho] at h
  simp only [Bool.and_eq_true] at h
  obtain ⟨h2,h4⟩:=h
  cases hd:o.dst with
  | none=>rw [hd] at h4;cases h4
  | some d =>
   rw [hd] at h4
   exact ⟨o,d,rfl,by simpa using h2,hd,h4⟩
def vZ:Array Bool→List (Nat×Nat)→Array Bool
 | L,[]=>L
 | L,(i,k)::r=>vZ (cond (Nat.blt k 3) (L.setIfInBounds i true) L) r
theorem xw (hsel:Region.noSelect ops=true) (mf:Nat) (Lf:Array Bool):∀ (N m:Nat) (ord:List (Nat×Nat)) (l:List (Nat×Oper)) (L LE:Array Bool) (A:List Nat) (E:List Early) (σ:Env) (ρd ρs:List Res) (κ:Kr),N=m+ord.length→(ord.filter fun p=>Nat.blt p.2 3).length+mf=m+E.length→vZ L ord=Lf →
    EarlyOk ops A (dL ord) L LE E σ→((ord.filter fun p=>Nat.blt p.2 3).map (·.1)).Nodup→(∀ p∈dL ord,oW n ops p=true)→jG ops (dL ord)=true→(∀ p∈dL ord,p∈A→∃ o T cs mk,ops[p]?=some o∧LateRun o σ T cs mk) →
    fw n ops L A ord=true→j6 ops.toList ord=some l →
    WD β n ops K l σ ρd ρs κ→Zi β (ρd++(E.map (·.res)++ρs)) κ→∀ ⦃df⦄ a,Rel df n a (ov E σ)→∀ Q:Act→World→Prop,
    (∀ a' σ' ρd' ρs' κ',Rel df n a' σ'→Zi β (ρd'++ρs') κ'→Kle κ κ'→K σ' (ρd'++ρs') κ'→wpAnyH Tryz.prog .any ops (NP Q) (Stab ρs' κ') mf Lf a' κ'.w)→wpAnyH Tryz.prog .any ops (NP Q) (Stab ρs κ) m LE a κ.w:=by
  intro N
  induction N using Nat.strongRecOn with
  | _ N ih =>
  intro m ord l L LE A E σ ρd ρs κ hN hlen hLf hE hnd hlate hapart hann hok hp hw hi df a hr Q hk
  have hstab:Stab ρs κ κ.w:=⟨fun _ _=>rfl,fun r hr=>hi.own r (by simp [hr])⟩
  have early:∀ (m':Nat),m=m'+1→∀ j,j∈Region.ready .any ops LE→j∈dL ord→j∈A→wpOp Tryz.prog ops (NP Q) j (fun a' w'=>Stab ρs κ w'∧wpAnyH Tryz.prog .any ops (NP Q) (Stab ρs κ) m' (LE.setIfInBounds j true) a' w') a κ.w:=by
    intro m' hm j hj hjp hjA
    obtain ⟨o,d,ho,hg,hd,hdn⟩:=sD (hlate j hjp)
    obtain ⟨o',T,cs,mk,ho',hlo⟩:=hann j hjp hjA
    rw [ho] at ho';injection ho' with ho';subst ho'
    have hlt:j<ops.size:=(Array.getElem?_eq_some_iff.1 ho).1
    have hs:∀ cs b,o.op≠.select cs b:=fun cs b=>Region.noSelect_spec hsel j o cs b ho
    have hjE:∀ e∈E,e.op≠j:=fun e he h=>by
      have h1:=(mem_ready.1 hj).1
      rw [cT (by rw [hE.szE];exact hlt),(hE.get j).2 (.inr ⟨e,he,h⟩)] at h1
      cases h1
    have hslot:∀ e∈E,e.slot ∉ o.looksAt ops:=fun e he=>by
      obtain ⟨_,o',T',cs',mk',b',g1,_,g3,_⟩:=hE.is e he
      exact (o3 hapart hjp (hE.pd e he) (fun h=>hjE e he h.symm) ho g1 g3).1
    have hlo':=hlo.same (ops:=ops) (σ':=ov E σ) hs fun t ht=>rj fun e he h=>hslot e he (by rw [h];exact ht)
    unfold wpOp
    simp only [ho]
    rw [if_pos (by simp [Region.wanted,hg])]
    refine .inl ?_
    unfold Oper.wp
    rw [hr.eval,hlo'.2]
    simp only [Oper.upon_value]
    have hkl:=dQ hi.fin (.cells cs.toArray T)
    have hi':=hi.alloc (.cells cs.toArray T) (Res.b κ.w.heap.size T cs) rfl rfl
    have hst':Stab ρs κ (κ.w.alloc (.cells cs.toArray T)):=⟨hkl.keep,fun r hr=>hi'.own r (by simp [hr])⟩
    refine ⟨hst',fT (fun w hw=>⟨fun b hb=>(hw.keep b hb).trans (hkl.keep b hb),hw.own⟩) _ _ _ _ (ih (m'+ord.length) (by omega) m' ord l L (LE.setIfInBounds j true) A (⟨j,d,mk κ.w.heap.size,Res.b κ.w.heap.size T cs⟩::E) σ ρd ρs ⟨κ.w.alloc (.cells cs.toArray T),κ.S⟩ rfl (by simp only [List.length_cons];omega) hLf ?_ hnd hlate hapart hann hok hp (hw.mono hkl) ?_ _ ?_ Q fun a' σ' ρ' ρ'' κ' g1 g2 g3 g4=>hk a' σ' ρ' ρ'' κ' g1 g2 (hkl.trans g3) g4)⟩
    · refine ⟨hE.sz,by simp [hE.szE],fun j'=>?_,?_,?_,?_⟩
      · rw [oz (by rw [hE.szE];exact hlt),hE.get j']
        constructor
        · rintro ((h | ⟨e,he,h⟩) | h)
          · exact .inl h
          · exact .inr ⟨e,List.mem_cons_of_mem _ he,h⟩
          exact .inr ⟨_,List.mem_cons_self,h⟩
        rintro (h | ⟨e,he,h⟩)
        · exact .inl (.inl h)
        rcases List.mem_cons.1 he with rfl | he
        · exact .inr h
        exact .inl (.inr ⟨e,he,h⟩)
      · intro e he
        rcases List.mem_cons.1 he with rfl | he
        · exact hjp
        exact hE.pd e he
      · intro e he
        rcases List.mem_cons.1 he with rfl | he
        · exact ⟨hjA,o,T,cs,mk,_,ho,hlo,hd,rfl,rfl⟩
        exact hE.is e he
      simp only [List.map_cons]
      exact List.nodup_cons.2 ⟨fun h=>by obtain ⟨e,he,h⟩:=List.mem_map.1 h;exact hjE e he h,hE.nd⟩
    · refine hi'.perm ?_
      simp only [List.map_cons,List.cons_append]
      exact (List.perm_middle).symm
    rw [oy]
    have:=hr.put (d:=o.dst) (eE hd hdn) (mk κ.w.heap.size)
    rw [dP hd] at this
    exact this
  match ord,hN,hlen,hLf,hE,hnd,hlate,hapart,hann,hok,hp,early with
  | [],hN,hlen,hLf,hE,hnd,hlate,hapart,hann,hok,hp,early =>
    simp only [j6,da] at hp;subst hp
    simp only [List.filter_nil,List.length_nil] at hlen
    have hE0:E=[]:=by
      cases E with
      | nil=>rfl
      | cons e E=>exact absurd (hE.pd e (by simp)) (by simp [dL])
    subst hE0
    have hm:m=mf:=by simp at hlen;omega
    subst hm
    simp only [vZ] at hLf
    have hLE:LE=L:=by
      apply Array.ext (by rw [hE.szE,hE.sz])
      intro j h1 h2
      have:=hE.get j
      simp only [List.not_mem_nil,false_and,exists_false,or_false,Array.getD_eq_getD_getElem?,Array.getElem?_eq_getElem h1,Array.getElem?_eq_getElem h2,Option.getD_some] at this
      exact Bool.eq_iff_iff.2 this
    rw [hLE,hLf]
    exact hk a σ ρd ρs κ (by rw [xu] at hr;exact hr) (by simpa using hi) (.refl _) (hw κ (.refl _))
  | (i,k)::r,hN,hlen,hLf,hE,hnd,hlate,hapart,hann,hok,hp,early =>
    simp only [j6] at hp
    split at hp
    · rename_i o l' ho hl
      have ho:ops[i]?=some o:=by simpa using ho
      injection hp with hp;subst hp
      have hlt:i<ops.size:=(Array.getElem?_eq_some_iff.1 ho).1
      have hs:∀ cs b,o.op≠.select cs b:=fun cs b=>Region.noSelect_spec hsel i o cs b ho
      have hpf:(dL r).length≤(r.filter fun p=>Nat.blt p.2 3).length:=by
        unfold dL
        simp only [List.length_map]
        refine List.Sublist.length_le ?_
        have:(r.filter fun p=>Nat.beq p.2 2)=((r.filter fun p=>Nat.blt p.2 3).filter fun p=>Nat.beq p.2 2):=by
          rw [List.filter_filter]
          apply List.filter_congr
          intro x _
          cases hb:Nat.beq x.2 2
          · rfl
          rw [Nat.eq_of_beq_eq_true hb];rfl
        rw [this]
        exact List.filter_sublist
      simp only [List.length_cons] at hN
      have plain:k<2→sA ops A o (dL r)=true→(∀ e∈E,e.slot ∉ o.looksAt ops)∧(∀ e∈E,o.dst≠some e.slot)∧EarlyOk ops A (dL r) L LE E σ∧(∃ m',m=m'+1∧(r.filter fun p=>Nat.blt p.2 3).length+mf=m'+E.length)∧(∀ p∈dL r,oW n ops p=true)∧jG ops (dL r)=true∧((r.filter fun p=>Nat.blt p.2 3).map (·.1)).Nodup∧i ∉ dL r ∧
          (∀ v,∀ p∈dL r,p∈A→∀ o',ops[p]?=some o'→∀ t∈o'.looksAt ops,kA σ o.dst v t=σ t)∧(∀ v,∀ p∈dL r,p∈A→∃ o' T cs mk,ops[p]?=some o'∧LateRun o' (kA σ o.dst v) T cs mk):=by
        intro hk2 hind
        rw [jF,if_neg (by omega)] at hE hlate hapart hann
        have hb3:Nat.blt k 3=true:=by simp [Nat.blt];omega
        simp only [List.filter_cons,hb3,if_true,List.length_cons,List.map_cons,List.nodup_cons] at hlen hnd
        have hspec:=oZ hind
        have hsame:∀ v,∀ p∈dL r,p∈A→∀ o',ops[p]?=some o'→∀ t∈o'.looksAt ops,kA σ o.dst v t=σ t:=fun v p hp hA o' ho' t ht=>oY (nW ((hspec p hp).2 hA) ho' t ht)
        refine ⟨fun e he=>?_,fun e he=>?_,hE,?_,hlate,hapart,hnd.2,fun h=>?_,hsame,fun v p hp hA=>?_⟩
        · obtain ⟨_,o',T',cs',mk',b',g1,_,g3,_⟩:=hE.is e he
          exact (j7 (hspec _ (hE.pd e he)).1 g1 g3).1
        · obtain ⟨_,o',T',cs',mk',b',g1,_,g3,_⟩:=hE.is e he
          exact (j7 (hspec _ (hE.pd e he)).1 g1 g3).2
        · have:=np (E.map (·.op)) (dL r) hE.nd fun x hx=>by obtain ⟨e,he,rfl⟩:=List.mem_map.1 hx;exact hE.pd e he
          simp only [List.length_map] at this
          exact ⟨m - 1,by omega,by omega⟩
        · refine hnd.1 ?_
          obtain ⟨x,hx,hxi⟩:=List.mem_map.1 h
          obtain ⟨hx1,hx2⟩:=List.mem_filter.1 hx
          refine List.mem_map.2 ⟨x,List.mem_filter.2 ⟨hx1,?_⟩,hxi⟩
          rw [Nat.eq_of_beq_eq_true hx2];rfl
        obtain ⟨o',T,cs,mk,h1,h2⟩:=hann p hp hA
        exact ⟨o',T,cs,mk,h1,h2.same (ops:=ops) (fun cs b=>Region.noSelect_spec hsel _ o' cs b h1) (hsame v p hp hA o' h1)⟩
      have waitsA:∀ {P':List Nat},xt ops L A P'=true→(∀ e∈E,e.op∈P')→∀ j∈P',j∈Region.ready .any ops LE→j∈A:=by
        intro P' hwt hEP j hj hrd
        have:=List.all_eq_true.1 hwt j hj
        simp only [Bool.or_eq_true,Bool.not_eq_true'] at this
        rcases this with h | h
        · simpa using h
        exfalso
        have hjE:∀ e∈E,e.op≠j:=fun e he he'=>by
          obtain ⟨h0,o',ho',_⟩:=mem_ready.1 hrd
          rw [cT (by rw [hE.szE];exact (Array.getElem?_eq_some_iff.1 ho').1),(hE.get j).2 (.inr ⟨e,he,he'⟩)] at h0
          cases h0
        have hr2:=hE.ready_all (P':=P'.filter fun q => !Nat.beq q j) (fun e he=>List.mem_filter.2 ⟨hEP e he,by
          have hb:Nat.beq e.op j=false:=by cases hb:Nat.beq e.op j;rfl;exact absurd (Nat.eq_of_beq_eq_true hb) (hjE e he)
          rw [hb];rfl⟩) hrd (fun hm=>by have:=(List.mem_filter.1 hm).2;simp at this)
        simp [hr2] at h
      match k,hok,hw,early,hE,hlate,hapart,hann,hnd,hlen,hLf,plain with
      | 0,hok,hw,early,hE,hlate,hapart,hann,hnd,hlen,hLf,plain =>
        simp only [fw,ho,Bool.and_eq_true] at hok
        obtain ⟨⟨⟨h1,h2⟩,h3⟩,hok2⟩:=hok
        obtain ⟨g1,g2,g3,⟨m',rfl,glen⟩,g5,g6,g7,hir,g8,g9⟩:=plain (by omega) h3
        have hrdy:(Region.ready .any ops LE).contains i=true:=by simpa using g3.ready (by simpa using h1) (fun e he (h:e.op=i)=>hir (by rw [← h];exact g3.pd e he))
        obtain ⟨hd,hw⟩:=hw
        rcases hw with ⟨hg,v,hv,hw⟩ | ⟨c,v,hg,hv,hw⟩
        · refine wpAnyH_take ho hsel (g3.free h2) hrdy (fun _ _ _ h=>by cases h.1) (v:=v) (.inl ⟨by simp [Region.wanted,hg],fun w hw'=>by rw [hr.eval,vl hs g1];exact hv rfl w hw'⟩) hstab ?_
          exact ih (m'+r.length) (by omega) m' r l' _ _ A E _ ρd ρs κ rfl glen hLf (g3.step hsel hlt (g8 v)) g7 g5 g6 (g9 v) hok2 hl hw hi _ (by rw [mw g2];exact hr.put hd v) Q hk
        · refine wpAnyH_take ho hsel (g3.free h2) hrdy (fun _ _ _ h=>by cases h.1) (v:=gv c v) ?_ hstab (ih (m'+r.length) (by omega) m' r l' _ _ A E _ ρd ρs κ rfl glen hLf (g3.step hsel hlt (g8 _)) g7 g5 g6 (g9 _) hok2 hl hw hi _ (by rw [mw g2];exact hr.put hd _) Q hk)
          have hg':=sB g1 hg
          cases c with
          | true=>exact .inl ⟨by rw [gE hr];exact hg',fun w hw'=>by rw [hr.eval,gU,vl hs g1];exact hv rfl w hw'⟩
          | false=>exact .inr ⟨by rw [gE hr];exact hg',eZ v⟩
      | 1,hok,hw,early,hE,hlate,hapart,hann,hnd,hlen,hLf,plain =>
        simp only [fw,ho,Bool.and_eq_true,beq_iff_eq] at hok
        obtain ⟨⟨⟨⟨h1,h2⟩,h3⟩,h4⟩,hok2⟩:=hok
        obtain ⟨g1,g2,g3,⟨m',rfl,glen⟩,g5,g6,g7,hir,g8,g9⟩:=plain (by omega) h3
        have hrdy:=g3.ready (by simpa using h1) (fun e he (h:e.op=i)=>hir (by rw [← h];exact g3.pd e he))
        have hperm:(ρd++(E.map (·.res)++ρs)).Perm ((ρd++ρs)++E.map (·.res)):=by
          rw [List.append_assoc];exact List.Perm.append_left ρd List.perm_append_comm
        have hperm2:∀ ρ':List Res,((ρ'++ρs)++E.map (·.res)).Perm (ρ'++(E.map (·.res)++ρs)):=fun ρ'=>by
          rw [List.append_assoc];exact List.Perm.append_left ρ' List.perm_append_comm
        refine wpAnyH_all rfl (fun h=>by rw [h] at hrdy;cases hrdy) fun j hj=>?_
        by_cases hjp:j∈dL r
        · exact early m' rfl j hj (by rw [jF,if_neg (by omega)];exact hjp) (waitsA h4 g3.pd j hjp hj)
        · have hji:j=i:=by have:=g3.ready_all g3.pd hj hjp;rw [h2] at this;simpa using this
          subst hji
          unfold wpOp
          simp only [ho]
          obtain ⟨hd,hw⟩:=hw
          rcases hw with ⟨hg,hw⟩ | ⟨c,hg,hw⟩
          · rw [if_pos (by simp [Region.wanted,hg])]
            have hout:=(hw κ (.refl _)).frame (hi.perm hperm) (fun v w=>Stab ρs κ w∧wpAnyH Tryz.prog .any ops (NP Q) (Stab ρs κ) m' (LE.setIfInBounds j true) (a.put o.dst v) w) fun v ρ' κ' hi' hle' hw'=>by
              obtain ⟨ρd',rfl,hw'⟩:=hw'
              have hi2:=hi'.perm (hperm2 ρd')
              exact ⟨⟨hle'.keep,fun r hr=>hi2.own r (by simp [hr])⟩,fT (fun w hw=>⟨fun b hb=>(hw.keep b (hle'.sh b hb)).trans (hle'.keep b hb),hw.own⟩) _ _ _ _ (ih (m'+r.length) (by omega) m' r l' _ _ A E _ ρd' ρs κ' rfl glen hLf (g3.step hsel hlt (g8 v)) g7 g5 g6 (g9 v) hok2 hl hw' hi2 _ (by rw [mw g2];exact hr.put hd v) Q fun a' σ' ρ'' ρ3 κ'' h1 h2 h3 h4=>hk a' σ' ρ'' ρ3 κ'' h1 h2 (hle'.trans h3) h4)⟩
            rw [← vl hs g1] at hout
            exact .inl (iO hr.eval hout fun _ _ h=>h)
          · have hg':=sB g1 hg
            rw [gE hr,hg']
            have hw0:=hw κ (.refl _)
            cases c with
            | false =>
              have h2:=hw0.2 rfl
              simp only [eZ] at h2
              exact ⟨hstab,ih (m'+r.length) (by omega) m' r l' _ _ A E _ ρd ρs κ rfl glen hLf (g3.step hsel hlt (g8 _)) g7 g5 g6 (g9 _) hok2 hl h2 hi _ (by rw [mw g2];exact hr.put hd _) Q hk⟩
            | true =>
              have hout:=(hw0.1 rfl).frame (hi.perm hperm) (fun v w=>Stab ρs κ w∧wpAnyH Tryz.prog .any ops (NP Q) (Stab ρs κ) m' (LE.setIfInBounds j true) (a.put o.dst v) w) fun v ρ' κ' hi' hle' hw'=>by
                obtain ⟨rfl,hw'⟩:=hw'
                simp only [gU] at hw'
                have hi2:=hi'.perm (hperm2 ρd)
                exact ⟨⟨hle'.keep,fun r hr=>hi2.own r (by simp [hr])⟩,fT (fun w hw=>⟨fun b hb=>(hw.keep b (hle'.sh b hb)).trans (hle'.keep b hb),hw.own⟩) _ _ _ _ (ih (m'+r.length) (by omega) m' r l' _ _ A E _ ρd ρs κ' rfl glen hLf (g3.step hsel hlt (g8 v)) g7 g5 g6 (g9 v) hok2 hl hw' hi2 _ (by rw [mw g2];exact hr.put hd v) Q fun a' σ' ρ'' ρ3 κ'' h1 h2 h3 h4=>hk a' σ' ρ'' ρ3 κ'' h1 h2 (hle'.trans h3) h4)⟩
              rw [← vl hs g1] at hout
              exact .inl (iO hr.eval hout fun _ _ h=>h)
      | 2,hok,hw,early,hE,hlate,hapart,hann,hnd,hlen,hLf,plain =>
        simp only [fw,ho,Bool.and_eq_true] at hok
        obtain ⟨⟨⟨⟨⟨h1,h2⟩,hiA⟩,h3⟩,h4⟩,hok2⟩:=hok
        have hpc:dL ((i,2)::r)=i::dL r:=by rw [jF,if_pos rfl]
        have hf:((i,2)::r).filter (fun p=>Nat.blt p.2 3)=(i,2)::r.filter (fun p=>Nat.blt p.2 3):=by simp [List.filter_cons,Nat.blt]
        rw [hf] at hlen hnd
        simp only [List.length_cons,List.map_cons,List.nodup_cons] at hlen hnd
        have hspec:=oZ h3
        by_cases hiE:∃ e∈E,e.op=i
        · obtain ⟨e,he,hei⟩:=hiE
          obtain ⟨E1,E2,rfl⟩:=List.append_of_mem he
          obtain ⟨_,o',T,cs,mk,b,q1,q2,q3,q4,q5⟩:=hE.is e he
          rw [hei,ho] at q1;injection q1 with q1;subst q1
          obtain ⟨T2,cs2,mk2,d,w1,w2,w3⟩:=hw
          obtain ⟨rfl,rfl,rfl⟩:=q2.det w1
          rw [q3] at w2;injection w2 with w2;subst w2
          have hne:∀ f∈E1++E2,f.op≠i:=fun f hf h=>by
            have hnd':=hE.nd
            simp only [List.map_append,List.map_cons] at hnd'
            have:=(List.nodup_append.1 hnd')
            rcases List.mem_append.1 hf with hf | hf
            · exact this.2.2 f.op (List.mem_map_of_mem hf) e.op (by simp) (by rw [h,hei])
            exact (List.nodup_cons.1 this.2.1).1 (by rw [hei,← h];exact List.mem_map_of_mem hf)
          have hmem:∀ f∈E1++E2,f∈E1++e::E2:=fun f hf=>mem_mid' hf
          have hpd:∀ f∈E1++E2,f.op∈dL r:=fun f hf=>by
            have:=hE.pd f (hmem f hf)
            rw [hpc] at this
            rcases List.mem_cons.1 this with h | h
            · exact absurd h (hne f hf)
            exact h
          have hsl:∀ f∈E1++E2,f.slot≠e.slot:=fun f hf h=>by
            obtain ⟨_,o',T',cs',mk',b',g1,_,g3,_⟩:=hE.is f (hmem f hf)
            exact (j7 (hspec _ (hpd f hf)).1 g1 g3).2 (by rw [q3,h])
          have hsame:∀ v,∀ p∈dL r,p∈A→∀ o',ops[p]?=some o'→∀ t∈o'.looksAt ops,upd σ e.slot v t=σ t:=fun v p hp hA o' ho' t ht=>by
            have:=oY (σ:=σ) (v:=v) (nW ((hspec p hp).2 hA) ho' t ht)
            rwa [dP q3] at this
          refine ih (m+r.length) (by omega) m r l' (L.setIfInBounds i true) LE A (E1++E2) _ _ ρs κ rfl (by simp only [List.length_append,List.length_cons] at hlen ⊢;omega) hLf ?_ hnd.2 (fun p hp=>hlate p (by rw [hpc];exact List.mem_cons_of_mem _ hp)) ?_ (fun p hp hA=>?_) hok2 hl (w3 b κ (.refl _)) ?_ a ?_ Q hk
          · refine ⟨by simp [hE.sz],hE.szE,fun j=>?_,hpd,fun f hf=>?_,?_⟩
            · rw [oz (by rw [hE.sz];exact hlt),hE.get j]
              constructor
              · rintro (h | ⟨f,hf,h⟩)
                · exact .inl (.inl h)
                by_cases hfe:f=e
                · subst hfe;exact .inl (.inr (by rw [← hei];exact h))
                exact .inr ⟨f,ra hf hfe,h⟩
              rintro ((h | h) | ⟨f,hf,h⟩)
              · exact .inl h
              · exact .inr ⟨e,he,by rw [hei];exact h⟩
              exact .inr ⟨f,hmem f hf,h⟩
            · obtain ⟨k1,o',T',cs',mk',b',k2,k3,k4⟩:=hE.is f (hmem f hf)
              exact ⟨k1,o',T',cs',mk',b',k2,k3.same (ops:=ops) (fun cs b=>Region.noSelect_spec hsel _ o' cs b k2) (hsame _ _ (hpd f hf) k1 o' k2),k4⟩
            have hnd':=hE.nd
            simp only [List.map_append,List.map_cons] at hnd' ⊢
            exact List.Nodup.sublist (List.Sublist.append_left (List.sublist_cons_self _ _) _) hnd'
          · rw [hpc] at hapart
            unfold jG at *
            refine List.all_eq_true.2 fun p hp=>List.all_eq_true.2 fun q hq=>?_
            exact List.all_eq_true.1 (List.all_eq_true.1 hapart p (List.mem_cons_of_mem _ hp)) q (List.mem_cons_of_mem _ hq)
          · obtain ⟨o',T',cs',mk',k1,k2⟩:=hann p (by rw [hpc];exact List.mem_cons_of_mem _ hp) hA
            exact ⟨o',T',cs',mk',k1,k2.same (ops:=ops) (fun cs b=>Region.noSelect_spec hsel _ o' cs b k1) (hsame _ p hp hA o' k1)⟩
          · refine hi.perm ?_
            rw [← q5]
            simp only [List.map_append,List.map_cons,List.append_assoc,List.cons_append]
            refine (List.Perm.append_left ρd (List.perm_middle)).trans ?_
            exact List.perm_middle
          rw [ov_mid hsl,q4] at hr
          exact hr
        · have hsub:∀ x∈E.map (·.op),x∈dL r:=fun x hx=>by
              obtain ⟨e,he,rfl⟩:=List.mem_map.1 hx
              have:=hE.pd e he
              rw [hpc] at this
              rcases List.mem_cons.1 this with h | h
              · exact absurd ⟨e,he,h⟩ hiE
              exact h
          have hsub':∀ e∈E,e.op∈dL r:=fun e he=>hsub _ (List.mem_map_of_mem he)
          obtain ⟨m',rfl⟩:∃ m',m=m'+1:=by
            have:=np (E.map (·.op)) (dL r) hE.nd hsub
            simp only [List.length_map] at this
            exact ⟨m - 1,by omega⟩
          have hirdy:=hE.ready (by simpa using h1) (fun e he h=>hiE ⟨e,he,h⟩)
          refine wpAnyH_all rfl (fun h=>by rw [h] at hirdy;cases hirdy) fun j hj=>?_
          by_cases hjp:j∈dL r
          · exact early m' rfl j hj (by rw [hpc];exact List.mem_cons_of_mem _ hjp) (waitsA h4 hsub' j hjp hj)
          · have:=hE.ready_all hsub' hj hjp
            have h2':Region.ready .any ops (iW L (dL r))=[i]:=by simpa using h2
            rw [h2'] at this
            have hji:j=i:=by simpa using this
            subst hji
            exact early m' rfl j hj (by rw [hpc];exact List.mem_cons_self) (by simpa using hiA)
      | 3,hok,hw,early,hE,hlate,hapart,hann,hnd,hlen,hLf,plain =>
        simp only [fw,ho] at hok
        have hpc:dL ((i,3)::r)=dL r:=by rw [jF,if_neg (by omega)]
        have hf:((i,3)::r).filter (fun p=>Nat.blt p.2 3)=r.filter (fun p=>Nat.blt p.2 3):=by simp [List.filter_cons,Nat.blt]
        rw [hf] at hlen hnd
        rw [hpc] at hE hlate hapart hann
        obtain ⟨⟨T,cs,mk,hlr⟩,hw⟩:=hw
        refine ih (m+r.length) (by omega) m r l' L LE (i::A) E σ ρd ρs κ rfl hlen hLf ⟨hE.sz,hE.szE,hE.get,hE.pd,fun e he=>⟨List.mem_cons_of_mem _ (hE.is e he).1,(hE.is e he).2⟩,hE.nd⟩ hnd hlate hapart (fun p hp hA=>?_) hok hl hw hi a hr Q hk
        rcases List.mem_cons.1 hA with rfl | hA
        · exact ⟨o,T,cs,mk,ho,hlr⟩
        · exact hann p hp hA
      | 4,hok,hw,early,hE,hlate,hapart,hann,hnd,hlen,hLf,plain =>
        simp only [fw,ho] at hok
        have hpc:dL ((i,4)::r)=dL r:=by rw [jF,if_neg (by omega)]
        have hf:((i,4)::r).filter (fun p=>Nat.blt p.2 3)=r.filter (fun p=>Nat.blt p.2 3):=by simp [List.filter_cons,Nat.blt]
        rw [hf] at hlen hnd
        rw [hpc] at hE hlate hapart hann
        obtain ⟨r0,ρd',hpk,hw⟩:=hw
        have hperm:(ρd++(E.map (·.res)++ρs)).Perm (ρd'++(E.map (·.res)++(r0::ρs))):=by
          refine (hpk.append_right _).trans ?_
          rw [List.cons_append,← List.append_assoc,← List.append_assoc]
          exact (List.perm_middle).symm
        refine fT (fun w hw=>⟨hw.keep,fun r hr=>hw.own r (List.mem_cons_of_mem _ hr)⟩) _ _ _ _ (ih (m+r.length) (by omega) m r l' L LE A E σ ρd' (r0::ρs) κ rfl hlen hLf hE hnd hlate hapart hann hok hl hw (hi.perm hperm) a hr Q hk)
      | (k'+5),hok,hw,early,hE,hlate,hapart,hann,hnd,hlen,hLf,plain=>simp only [fw,Bool.false_eq_true] at hok
    cases hp
theorem mixed:Tryz.prog.follows .mixedOrders=true:=by kernel_rfl
def vm (ops:Array Oper) (ord:List (Nat×Nat)):List Nat:=(dL ord).filter (lN ops)
def uq (n:Nat) (l:List Oper) (L:Array Bool) (ord:List (Nat×Nat)):Bool :=
 decide (((ord.filter fun p=>Nat.blt p.2 3).map (·.1)).Nodup)&&(dL ord).all (oW n l.toArray)&&jG l.toArray (dL ord)&&fw n l.toArray L (vm l.toArray ord) ord
def xx (n:Nat) (l:List Oper) (ord:List (Nat×Nat)):Bool :=
 Region.noSelect l.toArray&&Nat.beq (ord.filter fun p=>Nat.blt p.2 3).length l.length&&uq n l (Array.replicate l.length false) ord&&(Region.ready .any l.toArray (vZ (Array.replicate l.length false) ord)).isEmpty
theorem sE {ops:Array Oper} {p:Nat} (h:lN ops p=true) (σ:Env):∃ o T cs mk,ops[p]?=some o∧LateRun o σ T cs mk:=by
 unfold lN at h
 cases ho:ops[p]? with
 | none=>rw [ho] at h;cases h
 | some o =>
  rw [ho] at h
  simp only [Bool.and_eq_true] at h
  obtain ⟨⟨T,cs,mk⟩,hx⟩:=Option.isSome_iff_exists.1 h.1
  exact ⟨o,T,cs,mk,rfl,by simpa using h.2,sy hx σ⟩
theorem wd_part {mf:Nat} {l:List Oper} {σ:Env} {ρd ρs:List Res} {κ:Kr} {L:Array Bool} {ord:List (Nat×Nat)} {lo:List (Nat×Oper)} (hsel:Region.noSelect l.toArray=true) (hL:L.size=l.length) (hok:uq n l L ord=true) (hl:j6 l ord=some lo)
    (h:WD β n l.toArray K lo σ ρd ρs κ) (hi:Zi β (ρd++ρs) κ) {df:List Deferred} (a:Act) (hr:Rel df n a σ) (Q:Act→World→Prop) (hk:∀ a' σ' ρd' ρs' κ',Rel df n a' σ'→Zi β (ρd'++ρs') κ'→Kle κ κ'→K σ' (ρd'++ρs') κ'→wpAnyH Tryz.prog .any l.toArray (NP Q) (Stab ρs' κ') mf (vZ L ord) a' κ'.w) :
    wpAnyH Tryz.prog .any l.toArray (NP Q) (Stab ρs κ) ((ord.filter fun p=>Nat.blt p.2 3).length+mf) L a κ.w:=by
  unfold uq at hok
  simp only [Bool.and_eq_true] at hok
  obtain ⟨⟨⟨h3,h4⟩,h4'⟩,h5⟩:=hok
  exact xw hsel mf (vZ L ord) _ ((ord.filter fun p=>Nat.blt p.2 3).length+mf) ord lo L L (vm l.toArray ord) [] σ ρd ρs κ rfl (by simp) rfl ⟨by simpa using hL,by simpa using hL,fun j=>by simp,by simp,by simp,by simp⟩ (by simpa using h3) (fun p hp=>List.all_eq_true.1 h4 p hp) h4' (fun p _ hA=>sE (List.mem_filter.1 hA).2 σ) h5 (by simpa using hl) h (by simpa using hi) a (by rw [xu];exact hr) Q hk
theorem wc_draw {K:Exit→Post} {id:Nat} {l:List Oper} {σ:Env} {ρ ρd:List Res} {κ:Kr} (ord:List (Nat×Nat)) {lo:List (Nat×Oper)} (ρs:List Res) (hp:ρ.Perm (ρd++ρs)) (hok:xx n l ord=true)
    (hl:j6 l ord=some lo) (h:∀ κ',Kle κ κ'→WD β n l.toArray (K .normal) lo σ ρd ρs κ'):WC β n (.region id l.toArray true) K σ ρ κ:=fun hi df a hr Q hq=>by
  unfold xx at hok
  simp only [Bool.and_eq_true] at hok
  obtain ⟨⟨⟨h1,h2⟩,h3⟩,h4⟩:=hok
  have hlen:=Nat.eq_of_beq_eq_true h2
  have hk1:Kle κ ⟨{ κ.w with drawn:=κ.w.drawn+1 },κ.S⟩:=⟨Nat.le_refl _,fun _ h=>h,fun _ _=>rfl⟩
  have hs:=wd_part (mf:=0) h1 (by simp) h3 hl (h _ hk1) (hi.perm hp).drew a hr (fun a w=>Q .normal a w) fun a' σ' ρd' ρs' κ' g1 g2 g3 g4=>⟨by simpa using h4,rfl,hq _ a' σ' _ κ' g1 g2 (hk1.trans g3) g4⟩
  have h6:=wpAny_of_held _ _ _ _ hs
  have hsz:l.toArray.size=l.length:=by simp
  rw [hlen,Nat.add_zero,← hsz] at h6
  exact oN (kC mixed (by simpa using h6)) fun e a w h=>by rw [h.1];exact h.2
end
section
variable {β:Base} {n:Nat} {ops:Array Oper} {K:Post} {ρs:List Res} {o:Oper} {r:List (Nat×Oper)} {σ:Env} {ρd:List Res} {κ:Kr}
theorem wd_nil (h:∀ κ1,Kle κ κ1→K σ (ρd++ρs) κ1):WD β n ops K [] σ ρd ρs κ:=h
theorem wd_q {v:Value} {d:Nat} (hg:o.guard=none) (hd:o.dst=some d) (hlt:Nat.blt d n=true) (h:OpQ true o σ ρs κ v) (hw:WD β n ops K r (upd σ d v) ρd ρs κ):WD β n ops K ((0,o)::r) σ ρd ρs κ:=⟨eE hd hlt,.inl ⟨hg,v,h,by rw [dP hd];exact hw⟩⟩
theorem wd_qg {v:Value} {c:Bool} {d:Nat} (hg:GuardIs ops σ o c) (hd:o.dst=some d) (hlt:Nat.blt d n=true) (h:OpQ c o σ ρs κ v) (hw:WD β n ops K r (upd σ d (gv c v)) ρd ρs κ):WD β n ops K ((0,o)::r) σ ρd ρs κ:=⟨eE hd hlt,.inr ⟨c,v,hg,h,by rw [dP hd];exact hw⟩⟩
theorem wd_l {d:Nat} (hg:o.guard=none) (hd:o.dst=some d) (hlt:Nat.blt d n=true) (h:∀ κ1,Kle κ κ1→OpL o σ (ρd++ρs) κ1 fun v ρ' κ'=>∃ ρd',ρ'=ρd'++ρs∧WD β n ops K r (upd σ d v) ρd' ρs κ'):WD β n ops K ((1,o)::r) σ ρd ρs κ:=⟨eE hd hlt,.inl ⟨hg,by simp only [dP hd];exact h⟩⟩
theorem wd_l0 (hg:o.guard=none) (hd:o.dst=none) (h:∀ κ1,Kle κ κ1→OpL o σ (ρd++ρs) κ1 fun _ ρ' κ'=>∃ ρd',ρ'=ρd'++ρs∧WD β n ops K r σ ρd' ρs κ'):WD β n ops K ((1,o)::r) σ ρd ρs κ:=⟨by rw [hd];rfl,.inl ⟨hg,by simp only [hd];exact h⟩⟩
theorem wd_g {c:Bool} {d:Nat} (hg:GuardIs ops σ o c) (hd:o.dst=some d) (hlt:Nat.blt d n=true) (h:∀ κ1,Kle κ κ1→OpG c o σ (ρd++ρs) κ1 fun v κ'=>WD β n ops K r (upd σ d (gv c v)) ρd ρs κ'):WD β n ops K ((1,o)::r) σ ρd ρs κ:=⟨eE hd hlt,.inr ⟨c,hg,by simp only [dP hd];exact h⟩⟩
theorem wd_late {T:Nat} {cs:List Value} {mk:Nat→Value} {d:Nat} (hlo:LateRun o σ T cs mk) (hd:o.dst=some d) (h:∀ b κ',Kle κ κ'→WD β n ops K r (upd σ d (mk b)) (Res.b b T cs::ρd) ρs κ'):WD β n ops K ((2,o)::r) σ ρd ρs κ:=⟨T,cs,mk,d,hlo,hd,h⟩
theorem wd_tell {T:Nat} {cs:List Value} {mk:Nat→Value} (hlo:LateRun o σ T cs mk) (h:WD β n ops K r σ ρd ρs κ):WD β n ops K ((3,o)::r) σ ρd ρs κ:=⟨⟨T,cs,mk,hlo⟩,h⟩
end
section
variable {β:Base} {n:Nat} {y:Code} {K:Exit→Post} {σ:Env} {ρ:List Res} {κ:Kr} {id id':Nat}
theorem cJ (h:WC β n y K σ ρ κ):um β n y K .normal σ ρ κ:=h
theorem nq (h:K .ret σ ρ κ):um β n y K .ret σ ρ κ:=h
theorem gG (h:K (.exit id) σ ρ κ):um β n y K (.exit id) σ ρ κ:=h
theorem lg (h:K .normal σ ρ κ):ii id K .normal σ ρ κ:=h
theorem sF (h:K .ret σ ρ κ):ii id K .ret σ ρ κ:=h
theorem gH (he:Nat.beq id' id=true) (h:K .normal σ ρ κ):ii id K (.exit id') σ ρ κ:=by simp only [ii,he];exact h
theorem o4 (he:Nat.beq id' id=false) (h:K (.exit id') σ ρ κ):ii id K (.exit id') σ ρ κ:=by simp only [ii,he];exact h
end
def Holds (σ:Env):List (Nat×Value)→Prop
 | []=>True
 | (d,v)::l=>σ d=v∧Holds σ l
theorem qA {σ:Env}:∀ {L:List (Nat×Value)},Holds σ L→oL σ L=σ
 | [],_=>rfl
 | (d,v)::l,⟨h1,h2⟩=>by rw [oL,qA h2,w7 h1]
def Pick (ρ:List Res) (r:Res) (l:List Res):Prop:=ρ.Perm (r::l)
theorem Pick.h {r:Res} {l:List Res}:Pick (r::l) r l:=List.Perm.refl _
theorem Pick.t {r s:Res} {l l':List Res} (h:Pick l r l'):Pick (s::l) r (s::l'):=(List.Perm.cons s h).trans (List.Perm.swap r s l')
def Sub (ρ' ρ:List Res):Prop:=∃ l,ρ.Perm (ρ'++l)
theorem Sub.nil {ρ:List Res}:Sub [] ρ:=⟨ρ,List.Perm.refl _⟩
theorem Sub.refl {ρ:List Res}:Sub ρ ρ:=⟨[],by simp⟩
theorem Sub.cons {r:Res} {ρ ρ' l:List Res} (h:Pick ρ r l) (h':Sub ρ' l):Sub (r::ρ') ρ:=by
 obtain ⟨m,hm⟩:=h'
 exact ⟨m,h.trans (List.Perm.cons r hm)⟩
theorem Zi.subm {β:Base} {ρ ρ':List Res} {κ:Kr} (h:Zi β ρ κ) (hs:Sub ρ' ρ):Zi β ρ' κ:=by
 obtain ⟨l,hl⟩:=hs
 exact (h.perm hl).sub (List.sublist_append_left _ _)
section
variable {β:Base} {n:Nat} {x y:Code} {K:Exit→Post} {σ:Env} {ρ:List Res} {κ:Kr} {X:Type}
theorem xy {ρ':List Res} (hs:Sub ρ' ρ) (h:WC β n x K σ ρ' κ):WC β n x K σ ρ κ:=fun hi=>h (hi.subm hs)
theorem wc_pub {r:Res} {l:List Res} {b:Nat} (hp:Pick ρ r l) (hb:r.blk=some b) (h:∀ κ',Kle κ κ'→κ'.S b→r.says κ'.w.heap[b]?→WC β n x K σ l κ'):WC β n x K σ ρ κ:=fun hi df a hr Q hq=>by
 have hi2:=hi.perm hp
 obtain ⟨h1,h2⟩:=hi2.pub hb
 have hs:=hi2.own r (by simp)
 unfold Res.holds at hs;rw [hb] at hs
 exact h _ h2 (.inr rfl) hs h1 a hr Q fun e a' σ' ρ' κ' g1 g2 g3 g4=>hq e a' σ' ρ' κ' g1 g2 (h2.trans g3) g4
def midK (L:X→List (Nat×Value)) (R:X→List Res) (J:X→Kr→Prop) (K:Exit→Post):Exit→Post:=fun e σ ρ κ=>match e with
 | .normal=>∃ z,Holds σ (L z)∧Sub (R z) ρ∧J z κ
 | e=>K e σ ρ κ
def o5 (L:X→List (Nat×Value)) (R:X→List Res) (J:X→Kr→Prop) (μ:X→Nat) (z:X) (K:Exit→Post):Exit→Post:=fun e σ ρ κ=>match e with
 | .normal=>∃ z',Holds σ (L z')∧Sub (R z') ρ∧J z' κ∧μ z'<μ z
 | e=>K e σ ρ κ
theorem my (L:X→List (Nat×Value)) (R:X→List Res) (J:X→Kr→Prop) (μ:X→Nat) (z0:X) (h1:Holds σ (L z0)) (h2:Sub (R z0) ρ) (h3:J z0 κ)
    (round:∀ z τ κ',Kle κ κ'→J z κ'→WC β n x (o5 L R J μ z K) (oL τ (L z)) (R z) κ'):WC β n (.loop x) K σ ρ κ :=
  vh (fun z σ' ρ' κ'=>Holds σ' (L z)∧Sub (R z) ρ'∧J z κ') μ z0 ⟨h1,h2,h3⟩ fun z σ' ρ' κ' hk ⟨g1,g2,g3⟩ =>
    xy g2 (by
      have h:=round z σ' κ' hk g3
      rw [qA g1] at h
      refine ld h fun e σ'' ρ'' κ'' _ g=>?_
      cases e with
      | normal=>obtain ⟨z',k1,k2,k3,k4⟩:=g;exact ⟨z',⟨k1,k2,k3⟩,k4⟩
      | _=>exact g)
theorem rk {L:X→List (Nat×Value)} {R:X→List Res} {J:X→Kr→Prop} {μ:X→Nat} {z:X} (z':X) (h1:Holds σ (L z')) (h2:Sub (R z') ρ) (h3:J z' κ) (h4:μ z'<μ z):o5 L R J μ z K .normal σ ρ κ:=⟨z',h1,h2,h3,h4⟩
theorem ur {L:X→List (Nat×Value)} {R:X→List Res} {J:X→Kr→Prop} {μ:X→Nat} {z:X} (h:K .ret σ ρ κ):o5 L R J μ z K .ret σ ρ κ:=h
theorem fU {L:X→List (Nat×Value)} {R:X→List Res} {J:X→Kr→Prop} {μ:X→Nat} {z:X} {id:Nat} (h:K (.exit id) σ ρ κ):o5 L R J μ z K (.exit id) σ ρ κ:=h
end
section
variable {σ:Env} {ρ:List Res} {κ:Kr} {R:Value→List Res→Kr→Prop}
theorem jx {rs:List ResultVar} {v:Value} {ρ':List Res} {κ':Kr} (hv:RV rs σ ρ v) (hs:Shift ρ κ ρ' κ') (h:R v ρ' κ'):xr rs R .ret σ ρ κ:=fun _ _=>⟨v,ρ',κ',hv,hs,h⟩
theorem rl {t:Nat} {v:Value} (h:σ t=v):RV [.tmp t] σ ρ v:=h
theorem rv_2 {r s:ResultVar} {v1 v2:Value} (h1:RV1 r σ ρ v1) (h2:RV1 s σ ρ v2):RV [r,s] σ ρ (.tuple #[v1,v2]):=⟨v1,v2,h1,h2,rfl⟩
theorem rv1_t {t:Nat} {v:Value} (h:σ t=v):RV1 (.tmp t) σ ρ v:=h
theorem Shift.sub {ρ':List Res} (h:Sub ρ' ρ):Shift ρ κ ρ' κ:=⟨rfl,fun _ hi=>⟨hi.subm h,.refl _⟩⟩
end
structure Sl (κ:Kr) (a:Option Addr) (n c sz:Nat) (css:List (List Value)):Prop where
 len:css.length=n
 cap:n≤c
 wid:∀ cs∈css,cs.length=sz
 at_:0<n→∃ b off,a=some ⟨b,off,none⟩∧∀ j cs,css[j]?=some cs→Sh κ b (off+j*sz) cs
theorem Sl.mono {κ κ':Kr} {a:Option Addr} {n c sz:Nat} {css:List (List Value)} (h:Sl κ a n c sz css) (k:Kle κ κ'):Sl κ' a n c sz css :=
 ⟨h.len,h.cap,h.wid,fun hn=>by obtain ⟨b,off,h1,h2⟩:=h.at_ hn;exact ⟨b,off,h1,fun j cs hj=>(h2 j cs hj).mono k⟩⟩
theorem Sl.get {κ:Kr} {a:Option Addr} {n c sz k:Nat} {css:List (List Value)} (h:Sl κ a n c sz css) (hk:k<n):∃ b off cs,a=some ⟨b,off,none⟩∧css[k]?=some cs∧cs.length=sz∧Sh κ b (off+k*sz) cs:=by
 obtain ⟨b,off,h1,h2⟩:=h.at_ (by omega)
 have hl:k<css.length:=by have:=h.len;omega
 exact ⟨b,off,css[k],h1,List.getElem?_eq_getElem hl,h.wid _ (List.getElem_mem hl),h2 k _ (List.getElem?_eq_getElem hl)⟩
theorem hC {sz:Nat}:∀ {css:List (List Value)},(∀ cs∈css,cs.length=sz)→∀ {j i:Nat} {cs:List Value},css[j]?=some cs→i<sz→css.flatten[j*sz+i]?=cs[i]?
 | [],_,j,i,cs,h,_=>by simp at h
 | c::css,hw,0,i,cs,h,hi=>by
  simp only [List.getElem?_cons_zero,da] at h;subst h
  have:=hw c (by simp)
  rw [Nat.zero_mul,Nat.zero_add,List.flatten_cons,List.getElem?_append_left (by omega)]
 | c::css,hw,j+1,i,cs,h,hi=>by
  have hc:=hw c (by simp)
  have e:(j+1)*sz+i=c.length+(j*sz+i):=by rw [hc,Nat.add_mul];omega
  rw [e,List.flatten_cons,List.getElem?_append_right (by omega),Nat.add_sub_cancel_left]
  exact hC (fun cs hcs=>hw cs (by simp [hcs])) (by simpa using h) hi
theorem dR {sz:Nat} {css:List (List Value)} (hw:∀ cs∈css,cs.length=sz):css.flatten.length=css.length*sz:=by
 induction css with
 | nil=>simp
 | cons c css ih=>rw [List.flatten_cons,List.length_append,ih (fun cs h=>hw cs (by simp [h])),hw c (by simp),List.length_cons,Nat.add_mul];omega
structure Rd (ρ:List Res) (κ:Kr) (a:Option Addr) (m sz:Nat) (css:List (List Value)):Prop where
 len:css.length=m
 wid:∀ cs∈css,cs.length=sz
 at_:0<m→∃ ad,a=some ad∧∀ w,Stab ρ κ w→∀ j u,css.flatten[j]?=some u→w.cell? (ad.add j)=some u
theorem rd_sl {ρ:List Res} {κ:Kr} {a:Option Addr} {n c sz:Nat} {css:List (List Value)} (h:Sl κ a n c sz css):Rd ρ κ a n sz css :=
 ⟨h.len,h.wid,fun hn=>by
  obtain ⟨b,off,h1,h2⟩:=h.at_ hn
  refine ⟨_,h1,fun w hs j u hu=>?_⟩
  have hj:j<css.flatten.length:=by rcases Nat.lt_or_ge j css.flatten.length with h | h;exact h;rw [List.getElem?_eq_none h] at hu;cases hu
  rw [dR h.wid] at hj
  have hsz:0<sz:=by rcases Nat.eq_zero_or_pos sz with h | h;(rw [h] at hj;omega);exact h
  have hq:j / sz<css.length:=Nat.div_lt_of_lt_mul (by rwa [Nat.mul_comm] at hj)
  have hm:j % sz<sz:=Nat.mod_lt _ hsz
  have hd:j / sz*sz+j % sz=j:=by have:=Nat.div_add_mod j sz;rw [Nat.mul_comm] at this;exact this
  have hg:=hC h.wid (List.getElem?_eq_getElem hq) hm
  rw [hd,hu] at hg
  have hsh:=h2 _ _ (List.getElem?_eq_getElem hq)
  have:=hsh.2 _ _ hg.symm
  rw [eF]
  unfold World.cell? at *
  rw [hs.keep b hsh.1,← hd,← Nat.add_assoc];exact this⟩
theorem rd_b {ρ:List Res} {κ:Kr} {b T sz:Nat} {cs:List Value} {css:List (List Value)} {m:Nat} (hm:Res.b b T cs∈ρ) (hl:css.length=m) (hw:∀ cs∈css,cs.length=sz) (hf:css.flatten=cs):Rd ρ κ (some ⟨b,0,none⟩) m sz css :=
 ⟨hl,hw,fun _=>⟨_,rfl,fun w hs j u hu=>by
  have hb:w.heap[b]?=some (.cells cs.toArray T (0,0)):=hs.own _ hm
  rw [eF,Nat.zero_add,gV hb,← hf];exact hu⟩⟩
def Res.row (a:Option Addr) (n c T sz:Nat) (css:List (List Value)):Res:=match a with
 | none=>⟨none,fun _=>n=0∧c=0∧css=[]⟩
 | some ad=>⟨some ad.block,fun o=>ad=⟨ad.block,0,none⟩∧css.length=n∧(∀ cs∈css,cs.length=sz)∧n≤c∧c≤maxLen∧∃ cur,o=some (.cells cur T (0,0))∧cur.size=c*sz∧cur.toList.take (n*sz)=css.flatten⟩
theorem iX {a:Option Addr} {n c T sz:Nat} {css:List (List Value)} {w:World} (h:(Res.row a n c T sz css).holds w):w.ownsRow 0 T sz (.slice a n c) n css.flatten∧css.length=n∧(∀ cs∈css,cs.length=sz):=by
 cases a with
 | none=>obtain ⟨rfl,rfl,rfl⟩:=h;exact ⟨⟨by simp,.inl ⟨rfl,rfl⟩⟩,rfl,by simp⟩
 | some ad =>
  obtain ⟨h1,h2,h3,h4,h5,cur,h6,h7,h8⟩:=h
  have hl:css.flatten.length=n*sz:=by rw [dR h3,h2]
  exact ⟨⟨hl,.inr ⟨ad.block,c,cur,by rw [h1],Nat.zero_le _,h6,h4,h5,h7,h8⟩⟩,h2,h3⟩
theorem xz {v:Value} {n T sz:Nat} {css:List (List Value)} {w:World} (hl:css.length=n) (hw:∀ cs∈css,cs.length=sz) (h:w.ownsRow 0 T sz v n css.flatten):∃ a c,v=.slice a n c∧(Res.row a n c T sz css).holds w∧(Res.row a n c T sz css).blk=v.ownBlock:=by
 rcases h.2 with ⟨rfl,rfl⟩ | ⟨g,cap,cur,rfl,_,h1,h2,h3,h4,h5⟩
 ·exact ⟨none,0,rfl,⟨rfl,rfl,List.eq_nil_of_length_eq_zero hl⟩,rfl⟩
 exact ⟨some ⟨g,0,none⟩,cap,rfl,⟨rfl,hl,hw,h2,h3,cur,h1,h4,h5⟩,rfl⟩
theorem Zi.growD {β:Base} {r r':Res} {l:List Res} {κ:Kr} {w':World} (h:Zi β (r::l) κ) (hg:κ.w.grownBy w' r.blk) (hb:r'.blk=none∨r'.blk=r.blk∨r'.blk=some κ.w.heap.size) (hs:r'.holds w') (hlt:∀ b,r'.blk=some b→b<w'.heap.size) (hdr:DrGo κ.w.drawn w'.drawn) :
    Zi β (r'::l) ⟨w',κ.S⟩∧Kle κ ⟨w',κ.S⟩:=by
  obtain ⟨hle,hfin,hown,hblk,hnd⟩:=h
  have hother:∀ i,i<κ.w.heap.size→r.blk≠some i→w'.heap[i]?=κ.w.heap[i]?:=fun i hi hne=>hg.block i hi (fun e=>hne e.symm)
  have hr:=hblk r (by simp)
  have hk:Kle κ ⟨w',κ.S⟩:=⟨hg.size,fun _ h=>h,fun i hi=>hother i (hfin i hi) fun e=>(hr i e).2.1 hi⟩
  have hr':∀ b,r'.blk=some b→(r.blk=some b∨κ.w.heap.size=b):=fun b e=>by
    rcases hb with h | h | h
    · rw [h] at e;cases e
    · rw [h] at e;exact .inl e
    rw [h] at e;injection e with e;exact .inr e
  refine ⟨⟨⟨hle.kle.trans hk,fun i hi hm=>(hother i (Nat.lt_of_lt_of_le hi hle.kle.size) fun e=>?_).trans (hle.same i hi hm),hle.shNew,hg.os.trans hle.os,hg.tape.trans hle.tape,hg.output.trans hle.output,hle.drawn.trans hdr⟩,fun i hi=>Nat.lt_of_lt_of_le (hfin i hi) hg.size,?_,?_,?_⟩,hk⟩
  · exact (hr i e).2.2.elim (fun h=>absurd hi (by omega)) hm
  · intro s hs'
    rcases List.mem_cons.1 hs' with rfl | hs'
    · exact hs
    exact Res.holds_of (hown s (List.mem_cons_of_mem _ hs')) fun i hi=>hother i (hblk s (List.mem_cons_of_mem _ hs') i hi).1 fun e=>(List.pairwise_cons.1 hnd).1 s hs' i e hi
  · intro s hs' i hi
    rcases List.mem_cons.1 hs' with rfl | hs'
    · refine ⟨hlt i hi,fun hS=>?_,?_⟩
      · rcases hr' i hi with h | h
        · exact (hr i h).2.1 hS
        exact absurd (hfin i hS) (by omega)
      rcases hr' i hi with h | h
      · exact (hr i h).2.2
      exact .inl (by have:=hle.kle.size;omega)
    obtain ⟨h1,h2,h3⟩:=hblk s (List.mem_cons_of_mem _ hs') i hi
    exact ⟨Nat.lt_of_lt_of_le h1 hg.size,h2,h3⟩
  refine List.Pairwise.cons (fun s hs' i hi hi'=>?_) (List.pairwise_cons.1 hnd).2
  rcases hr' i hi with h | h
  · exact (List.pairwise_cons.1 hnd).1 s hs' i h hi'
  have:=(hblk s (List.mem_cons_of_mem _ hs') i hi').1;omega
theorem Zi.grow {β:Base} {r r':Res} {l:List Res} {κ:Kr} {w':World} (h:Zi β (r::l) κ) (hg:κ.w.grownBy w' r.blk) (hb:r'.blk=none∨r'.blk=r.blk∨r'.blk=some κ.w.heap.size) (hs:r'.holds w') (hlt:∀ b,r'.blk=some b→b<w'.heap.size) (hdr:κ.w.drawn≤w'.drawn) :
    Zi β (r'::l) ⟨w',κ.S⟩∧Kle κ ⟨w',κ.S⟩ :=
  h.growD hg hb hs hlt (.of hdr)
theorem Zi.nilrow {β:Base} {ρ:List Res} {κ:Kr} (h:Zi β ρ κ) (T sz:Nat):Zi β (Res.row none 0 0 T sz []::ρ) κ :=
 ⟨h.le,h.fin,fun r hr=>by rcases List.mem_cons.1 hr with rfl | hr;exact ⟨rfl,rfl,rfl⟩;exact h.own r hr,fun r hr=>by rcases List.mem_cons.1 hr with rfl | hr;(intro b hb;cases hb);exact h.blk r hr,List.Pairwise.cons (fun _ _ b hb=>by cases hb) h.nd⟩
section
variable {β:Base} {o:Oper} {σ:Env} {ρ:List Res} {κ:Kr} {K:Value→List Res→Kr→Prop}
theorem wa {n:Nat} {x:Code} {K:Exit→Post} (T sz:Nat) (h:WC β n x K σ (Res.row none 0 0 T sz []::ρ) κ):WC β n x K σ ρ κ:=fun hi=>h (hi.nilrow T sz)
theorem j8 {w:World} {b:Nat} {o:Obj} (h:w.heap[b]?=some o):b<w.heap.size:=by
 rcases Nat.lt_or_ge b w.heap.size with h' | h'
 ·exact h'
 rw [Array.getElem?_eq_none h'] at h;cases h
theorem xA {a:Option Addr} {n c T sz:Nat} {css:List (List Value)} {w:World} (h:(Res.row a n c T sz css).holds w) (b:Nat) (hb:(Res.row a n c T sz css).blk=some b):b<w.heap.size:=by
 cases a with
 | none=>cases hb
 | some ad =>
  obtain ⟨h1,h2,h3,h4,h5,cur,h6,h7,h8⟩:=h
  injection hb with hb;subst hb
  exact j8 h6
theorem om {t ty T:Nat} {a:Option Addr} {n c c2:Nat} {z:Value} {sz by':Nat} (hu:dv t=some (.slice T)) (hi:dU T=some (z,sz,by')) (hc:n≤c) (w:World):(Builtin.append_ #[t,t] ty #[.slice a n c,.slice none 0 c2]).run Tryz.prog w=.ok (.slice a n c) w:=by
 have hnc:n+0≤c:=by omega
 cases a <;> simp [Builtin.append_,run_underlying (br hu),cF hi,Builtin.lenOf,Builtin.firstCells,hc,storeCells]
theorem wb {s x:Operand} {t T:Nat} {a a2:Option Addr} {n c m c2 sz by':Nat} {z:Value} {css css2:List (List Value)} {l:List Res}
    (ho:o.op=.call { callee:=.builtin .append,args:=#[s,x],argTypes:=#[t,t] }) (hu:dv t=some (.slice T)) (hi:dU T=some (z,sz,by')) (hz:Nat.beq z.cells.size sz=true) (h0:Nat.blt 0 sz=true)
    (hs:ev σ s=.slice a n c) (hx:ev σ x=.slice a2 m c2) (hp:Pick ρ (Res.row a n c T sz css) l) (hr:Rd ρ κ a2 m sz css2) (h1:∀ cs∈css2,∀ u∈cs,u.oneCell'=true)
    (hb:(n+m)*by'≤140737488355328∧n+m≤140737488355328) (h:∀ a' c' κ',Kle κ κ'→K (.slice a' (n+m) c') (Res.row a' (n+m) c' T sz (css++css2)::l) κ'):OpL o σ ρ κ K:=fun β hinv Nx hk=>by
  have hi2:=hinv.perm hp
  have hrow:=hi2.own _ (List.mem_cons_self)
  obtain ⟨hown,hl1,hw1⟩:=iX hrow
  obtain ⟨i,hinf,hz0,hsz,hby⟩:=mr hi
  have hsz0:0<sz:=by have h:=h0;simp [Nat.blt] at h;omega
  have hcl:(css++css2).length=n+m:=by rw [List.length_append,hl1,hr.len]
  have hcw:∀ cs∈css++css2,cs.length=sz:=fun cs hcs=>(List.mem_append.1 hcs).elim (hw1 cs) (hr.wid cs)
  have key:∃ v' w',(Builtin.append_ #[t,t] o.type #[.slice a n c,.slice a2 m c2]).run Tryz.prog κ.w=.ok v' w'∧w'.ownsRow 0 T sz v' (n+m) (css++css2).flatten∧κ.w.grownBy w' (Value.slice a n c).ownBlock∧(v'.ownBlock=(Value.slice a n c).ownBlock∨v'.ownBlock=some κ.w.heap.size):=by
    rw [List.flatten_append]
    cases a2 with
    | none =>
      have hm0:m=0:=by
        rcases Nat.eq_zero_or_pos m with h | h
        · exact h
        obtain ⟨ad,e,_⟩:=hr.at_ h;cases e
      subst hm0
      have hc2:css2=[]:=List.eq_nil_of_length_eq_zero hr.len
      subst hc2
      have hnc:n≤c:=by
        rcases hown.2 with ⟨e,rfl⟩ | ⟨g,cap,cur,e,_,_,e2,_⟩
        · omega
        injection e with _ _ e;omega
      exact ⟨_,κ.w,om hu hi hnc κ.w,by simpa using hown,World.grownBy.refl _ _,.inl rfl⟩
    | some ad =>
      have hnews:∀ j u,css2.flatten[j]?=some u→κ.w.cell? (ad.add j)=some u:=fun j u hu'=>by
        rcases Nat.eq_zero_or_pos m with h | h
        · have hc2:css2=[]:=List.eq_nil_of_length_eq_zero (by rw [hr.len,h])
          subst hc2;simp at hu'
        obtain ⟨ad',e,hcell⟩:=hr.at_ h
        injection e with e;subst e
        exact hcell _ hinv.stab j u hu'
      obtain ⟨v',w',g1,g2,g3,_,g5⟩:=run_append_own_at (P:=Tryz.prog) κ.w 0 t o.type T i z sz by' (br hu) hinf hz0 hsz hby (Nat.eq_of_beq_eq_true hz) hsz0 (.slice a n c) n css.flatten hown ad m c2 css2.flatten (by rw [dR hr.wid,hr.len]) hnews (fun u hu'=>by obtain ⟨cs,h3,h4⟩:=List.mem_flatten.1 hu';exact h1 cs h3 u h4) (by have:=hb.2;unfold maxLen;omega) hb.1 (Nat.zero_le _)
      exact ⟨v',w',g1,g2,g3,g5⟩
  obtain ⟨v',w',g1,g2,g3,g4⟩:=key
  obtain ⟨a',c',rfl,k1,k2⟩:=xz hcl hcw g2
  have hblk:(Res.row a n c T sz css).blk=(Value.slice a n c).ownBlock:=by cases a <;> rfl
  obtain ⟨hi3,hk3⟩:=hi2.grow (r':=Res.row a' (n+m) c' T sz (css++css2)) (by rw [hblk];exact g3) (by rw [hblk,k2];exact .inr g4) k1 (xA k1) (nj _ _ _ _ _ g1)
  unfold execOp
  simp only [ho,resolve,invoke,builtin,Sem.run_bind,Sem.run_pure,Result.andThen_ok,List.map_toArray,List.map_cons,List.map_nil,hs,hx,g1,OutV]
  exact hk _ _ _ hi3 hk3 (h _ _ _ hk3)
end
def SpliceAt (cs:List Value) (k:Nat) (vs cs':List Value):Prop:=cs'=cs.take k++vs++cs.drop (k+vs.length)∧k+vs.length≤cs.length
theorem SpliceAt.nil {cs:List Value}:SpliceAt cs 0 [] cs:=⟨by simp,by simp⟩
theorem SpliceAt.c {x v:Value} {l l' vs:List Value} (h:SpliceAt l 0 vs l'):SpliceAt (x::l) 0 (v::vs) (v::l'):=by
 obtain ⟨h1,h2⟩:=h
 refine ⟨?_,by simp at h2 ⊢;omega⟩
 rw [h1];simp [Nat.add_comm]
theorem SpliceAt.t {x:Value} {l l' vs:List Value} {k:Nat} (h:SpliceAt l k vs l'):SpliceAt (x::l) (k+1) vs (x::l'):=by
 obtain ⟨h1,h2⟩:=h
 refine ⟨?_,by simp at h2 ⊢;omega⟩
 rw [h1,show k+1+vs.length=(k+vs.length)+1 by omega];simp
def FillR (σ:Env) (fl:List (Nat×Nat)):List Value→List (Nat×Operand)→List Value→Prop
 | zs,[],cs=>zs=cs
 | zs,(i,x)::r,cs=>∃ k ty vs zs' z by',fl[i]?=some (k,ty)∧dU ty=some (z,vs.length,by')∧bI (ev σ x)=vs∧SpliceAt zs k vs zs'∧FillR σ fl zs' r cs
theorem FillR.nil {σ:Env} {fl:List (Nat×Nat)} {zs:List Value}:FillR σ fl zs [] zs:=rfl
theorem FillR.one {σ:Env} {fl:List (Nat×Nat)} {zs zs' cs:List Value} {i k ty by':Nat} {z v:Value} {x:Operand} {r:List (Nat×Operand)} (h1:fl[i]?=some (k,ty)) (h2:dU ty=some (z,1,by')) (h3:ev σ x=v) (h3':bI v=[v]) (h4:SetAt zs k v zs') (h5:FillR σ fl zs' r cs):FillR σ fl zs ((i,x)::r) cs :=
 ⟨k,ty,[v],zs',z,by',h1,h2,by rw [h3];exact h3',⟨by rw [h4.1,nU h4.2];rfl,by have:=h4.2;simp;omega⟩,h5⟩
theorem FillR.agg {σ:Env} {fl:List (Nat×Nat)} {zs zs' cs vs:List Value} {i k ty sz by':Nat} {z:Value} {x:Operand} {r:List (Nat×Operand)} (h1:fl[i]?=some (k,ty)) (h2:dU ty=some (z,sz,by')) (h3:ev σ x=.agg vs.toArray) (h3':vs.length=sz) (h4:SpliceAt zs k vs zs') (h5:FillR σ fl zs' r cs):FillR σ fl zs ((i,x)::r) cs :=
 ⟨k,ty,vs,zs',z,by',h1,by rw [h3'];exact h2,by rw [h3];rfl,h4,h5⟩
theorem nX {σ:Env} {fl:List (Nat×Nat)} {place:Nat→Option (Nat×Nat)} (hpl:∀ i k ty z sz by',fl[i]?=some (k,ty)→dU ty=some (z,sz,by')→place i=some (k,sz)) :
    ∀ (parts:List (Nat×Operand)) (zs cs:List Value),FillR σ fl zs parts cs→Instr.fill place zs.toArray (parts.map fun p=>(p.1,ev σ p.2))=some cs.toArray
  | [],zs,cs,h=>by cases h;simp [Instr.fill]
  | (i,x)::r,zs,cs,⟨k,ty,vs,zs',z,by',h1,h2,h3,h4,h5⟩=>by
    simp only [List.map_cons]
    rw [qz (hpl i k ty z vs.length by' h1 h2) (by rw [h3]) h4.2,h3,← h4.1]
    exact nX hpl r zs' cs h5
def mz (f:Field):Sem (Nat×Nat):=do pure (f.offset,← sizeOf f.type)
theorem o6 (w:World):∀ (fs:List Field),(∀ f∈fs,∃ z sz by',dU f.type=some (z,sz,by'))→∃ ps:List (Nat×Nat),(fs.mapM mz).run Tryz.prog w=.ok ps w∧∀ (i:Nat) (f:Field) z sz by',fs[i]?=some f→dU f.type=some (z,sz,by')→ps[i]?=some (f.offset,sz)
 | [],_=>⟨[],by simp,by simp⟩
 | f::fs,h=>by
  obtain ⟨ps,h1,h2⟩:=o6 w fs fun g hg=>h g (by simp [hg])
  obtain ⟨z,sz,by',hf⟩:=h f (by simp)
  refine ⟨(f.offset,sz)::ps,?_,?_⟩
  ·have h0:(mz f).run Tryz.prog w=.ok (f.offset,sz) w:=by unfold mz;simp [cF hf]
   simp only [List.mapM_cons,Sem.run_bind,h0,Result.andThen_ok,h1,Sem.run_pure]
  intro i g z' sz' by'' hi hz
  cases i with
  | zero=>simp only [List.getElem?_cons_zero,da] at hi;subst hi;rw [hf] at hz;simp only [da,Prod.mk.injEq] at hz;simp [hz.2.1]
  | succ i=>simp only [List.getElem?_cons_succ] at hi ⊢;exact h2 i g z' sz' by'' hi hz
section
variable {o:Oper} {σ:Env} {ρ:List Res} {κ:Kr} {c:Bool} {x y:Operand}
theorem sG {t sz by':Nat} {parts:List (Nat×Operand)} {fl:List (Nat×Nat)} {zs cs:List Value} (ho:o.op=.build t parts.toArray) (hz:dU t=some (.agg zs.toArray,sz,by')) (hf:mn t=some fl) (hall:(fl.all fun p=>(dU p.2).isSome)=true) (h:FillR σ fl zs parts cs):OpQ true o σ ρ κ (.agg cs.toArray):=fun _ w _=>by
 obtain ⟨fs,hu,hfl⟩:=vd hf
 have hin:∀ f∈fs.toList,∃ z sz by',dU f.type=some (z,sz,by'):=fun f hf=>by
  have:=List.all_eq_true.1 hall (f.offset,f.type) (by rw [← hfl];exact List.mem_map.2 ⟨f,hf,rfl⟩)
  obtain ⟨⟨z,sz,by'⟩,h⟩:=Option.isSome_iff_exists.1 this
  exact ⟨z,sz,by',h⟩
 obtain ⟨ps,hp1,hp2⟩:=o6 w fs.toList hin
 have hm:(fs.mapM mz).run Tryz.prog w=.ok ps.toArray w:=by
  have:fs=fs.toList.toArray:=by simp
  rw [this,List.mapM_toArray,Sem.run_map,hp1];rfl
 have hfill:=nX (σ:=σ) (fl:=fl) (place:=(ps.toArray[·]?)) (fun i k ty z sz by' h1 h2=>by
  rw [← hfl,List.getElem?_map] at h1
  cases hfi:fs.toList[i]? with
  | none=>rw [hfi] at h1;cases h1
  | some f =>
   rw [hfi] at h1;simp only [Option.map_some,da,Prod.mk.injEq] at h1
   obtain ⟨rfl,rfl⟩:=h1
   simpa using hp2 i f z sz by' hfi h2) parts zs cs h
 have hb:(Instr.build t (parts.map fun p=>(p.1,ev σ p.2)).toArray).run Tryz.prog w=.ok (.agg cs.toArray) w:=by
  unfold Instr.build
  simp only [Sem.run_bind,dc hz,Result.andThen_ok,run_underlying (br hu)]
  have hm':Sem.run Tryz.prog (fs.mapM fun f=>do pure (f.offset,← sizeOf f.type)) w=.ok ps.toArray w:=hm
  rw [hm']
  simp only [Result.andThen_ok,Value.cells,hfill,Sem.run_pure]
 simp only [execOp,ho,Sem.run_bind,List.map_toArray]
 have:(parts.map fun (p:Nat×Operand)=>match p with | (i,x)=>(i,ev σ x))=parts.map fun p=>(p.1,ev σ p.2):=rfl
 rw [this,hb]
 simp
theorem bs_map (parts:List (Nat×Operand)) (vs:List Value) (h:parts.map (fun p=>(p.1,ev σ p.2))=vs.zipIdx.map fun p=>(p.2,p.1)):(parts.toArray.map fun (p:Nat×Operand)=>match p with | (i,x)=>(i,ev σ x))=(vs.zipIdx.map fun p=>(p.2,p.1)).toArray:=by
 rw [List.map_toArray,← h]
theorem late_bs {t E len sz by':Nat} {z:Value} {parts:List (Nat×Operand)} (vs:List Value) (hg:o.guard=none) (ho:o.op=.buildSlice t len parts.toArray) (hu:dv t=some (.slice E)) (hi:dU E=some (z,sz,by')) (hz:Nat.beq z.cells.size sz=true)
    (hp:parts.map (fun p=>(p.1,ev σ p.2))=vs.zipIdx.map fun p=>(p.2,p.1)) (hl:vs.length=len) (hw:∀ v∈vs,(bI v).length=sz) (hb:len*sz≤16777216):LateRun o σ E (vs.flatMap bI) (fun b=>.slice (some ⟨b,0,none⟩) len len) :=
  ⟨hg,fun w=>by
    subst hl
    have h:=oV hu hi (Nat.eq_of_beq_eq_true hz) vs hw hb w
    simp only [execOp,ho,bs_map parts vs hp,Sem.run_bind,h,Result.andThen_ok,Sem.run_pure]⟩
theorem us {T:Nat} {z:Value} {sz by':Nat} {cs:List Value} (hg:o.guard=none) (ho:o.op=.alloc T) (hz:dU T=some (z,sz,by')) (hc:bI z=cs):LateRun o σ T cs (fun b=>.pointer (some ⟨b,0,none⟩)):=by
 subst hc
 exact ⟨hg,fun w=>sy (T:=T) (cs:=bI z) (mk:=fun b=>.pointer (some ⟨b,0,none⟩)) (by unfold re;rw [ho];simp only [hz]) σ w⟩
theorem made_eq {z:Array Value} {n:Nat} (h:0<z.size):madeCells z (n*z.size)=((List.replicate n z.toList).flatten).toArray:=by
 have hw:∀ cs∈List.replicate n z.toList,cs.length=z.size:=fun cs hcs=>by rw [(List.mem_replicate.1 hcs).2];simp
 apply Array.ext'
 apply List.ext_getElem?
 intro i
 unfold madeCells
 simp only [Array.toList_map,Array.toList_range,List.getElem?_map]
 by_cases hi:i<n*z.size
 ·have hq:i / z.size<n:=Nat.div_lt_of_lt_mul (by rwa [Nat.mul_comm] at hi)
  have hm:i % z.size<z.size:=Nat.mod_lt _ h
  have hd:i / z.size*z.size+i % z.size=i:=by have:=Nat.div_add_mod i z.size;rw [Nat.mul_comm] at this;exact this
  have hg:=hC hw (j:=i / z.size) (i:=i % z.size) (cs:=z.toList) (by simp [hq]) hm
  rw [hd] at hg
  rw [hg,List.getElem?_range hi]
  simp [hm]
 rw [List.getElem?_eq_none (by simpa using hi),List.getElem?_eq_none (by rw [dR hw];simpa using hi)];rfl
theorem wc {t E sz by' n:Nat} {z:Value} {zs:List Value} (hg:o.guard=none) (ho:o.op=.makeSlice t x x) (hx:ev σ x=.int .i64 (n:Int)) (hu:dv t=some (.slice E)) (hi:dU E=some (z,sz,by')) (hz:bI z=zs) (hzl:zs.length=sz) (h0:Nat.blt 0 sz=true) (hb:by'*n≤281474976710656∧n≤281474976710656):LateRun o σ E (List.replicate n zs).flatten (fun b=>.slice (some ⟨b,0,none⟩) n n) :=
 ⟨hg,fun w=>by
  obtain ⟨i,hinf,hz0,hsz,hby⟩:=mr hi
  have hr:=run_make (P:=Tryz.prog) w t E i z (br hu) hinf hz0 .i64 .i64 n n (by omega) (by omega) (by rw [hby];have:=hb.1;omega) (by omega)
  simp only [Int.toNat_natCast] at hr
  have hcs:z.cells=zs.toArray:=by rw [← hz,← fS]
  have hsz':z.cells.size=sz:=by rw [hcs];simpa using hzl
  have h0':0<z.cells.size:=by rw [hsz'];have h:=h0;simp [Nat.blt] at h;omega
  rw [hsz,← hsz',made_eq h0',hcs] at hr
  simp only [execOp,ho,hx,Sem.run_bind,hr,Result.andThen_ok,Sem.run_pure]⟩
theorem vn {T:Nat} {cs:List Value} {mk:Nat→Value} {K:Value→List Res→Kr→Prop} (h:LateRun o σ T cs mk) (hk:∀ b κ',Kle κ κ'→K (mk b) (Res.b b T cs::ρ) κ'):OpL o σ ρ κ K:=fun β hi Nx hn=>by
 rw [h.2]
 exact hn _ _ ⟨κ.w.alloc (.cells cs.toArray T),κ.S⟩ (hi.alloc _ (Res.b κ.w.heap.size T cs) rfl rfl) (dQ hi.fin _) (hk _ _ (dQ hi.fin _))
end
section
variable {o:Oper} {σ:Env} {ρ:List Res} {κ:Kr} {c:Bool} {x y y2:Operand}
theorem xB (a:Option Addr):a.map (·.add 0)=a:=by cases a <;> simp [Addr.add]
theorem iP {i:Int} {k m:Nat} {code:BoundsCode} (h:i=(k:Int)) (hk:k≤m) (kd:IntKind) (w:World):(Instr.sliceBound (.int kd i) m code).run Tryz.prog w=.ok k w:=by
 subst h
 simp [Instr.sliceBound,asIntOf,hk]
theorem ut {t E sz by' n cp k:Nat} {z:Value} {a:Option Addr} {kd:IntKind} {i:Int} (ho:o.op=.slice t x none (some y) none) (hu:dv t=some (.slice E)) (hi:dU E=some (z,sz,by')) (hx:Ev σ c x (.slice a n cp)) (hy:Ev σ c y (.int kd i)) (hik:c=true→i=(k:Int)) (hk:c=true→k≤cp):OpQ c o σ ρ κ (.slice a k cp):=fun hc w _=>by
 simp only [execOp,ho,Option.map_none,Option.map_some,hx hc,hy hc,Instr.sliceAt,Instr.slice,Instr.sliceBounds,Sem.run_bind,run_underlying (br hu),Result.andThen_ok,Sem.run_pure,iP (hik hc) (hk hc),cF hi]
 simp [xB]
theorem uu {t E sz by' n cp k:Nat} {z:Value} {a:Option Addr} {kd:IntKind} {i:Int} (ho:o.op=.slice t x (some y) none none) (hu:dv t=some (.slice E)) (hi:dU E=some (z,sz,by')) (hx:Ev σ c x (.slice a n cp)) (hy:Ev σ c y (.int kd i)) (hik:c=true→i=(k:Int)) (hk:c=true→k≤n):OpQ c o σ ρ κ (.slice (if cp=k then a else a.map (·.add (k*sz))) (n - k) (cp - k)):=fun hc w _=>by
 simp only [execOp,ho,Option.map_none,Option.map_some,hx hc,hy hc,Instr.sliceAt,Instr.slice,Instr.sliceBounds,Sem.run_bind,run_underlying (br hu),Result.andThen_ok,Sem.run_pure,iP (hik hc) (hk hc),cF hi]
theorem wd {t l h:Nat} {s:ByteArray} {kd kd2:IntKind} {i j:Int} (ho:o.op=.slice t x (some y) (some y2) none) (hu:dv t=some .string) (hx:Ev σ c x (.string s)) (hy:Ev σ c y (.int kd i)) (hy2:Ev σ c y2 (.int kd2 j)) (hil:c=true→i=(l:Int)) (hjh:c=true→j=(h:Int)) (hlh:c=true→l≤h) (hk:c=true→h≤s.size):OpQ c o σ ρ κ (.string (s.extract l h)):=fun hc w _=>by
 simp only [execOp,ho,Option.map_none,Option.map_some,hx hc,hy hc,hy2 hc,Instr.sliceAt,Instr.slice,Instr.sliceBounds,Sem.run_bind,run_underlying (br hu),Result.andThen_ok,Sem.run_pure]
 simp [iP (code:=.sliceAlen) (hjh hc) (hk hc),iP (code:=.sliceB) (hil hc) (hlh hc)]
theorem nY {t h:Nat} {s:ByteArray} {kd2:IntKind} {j:Int} (ho:o.op=.slice t x none (some y2) none) (hu:dv t=some .string) (hx:Ev σ c x (.string s)) (hy2:Ev σ c y2 (.int kd2 j)) (hjh:c=true→j=(h:Int)) (hk:c=true→h≤s.size):OpQ c o σ ρ κ (.string (s.extract 0 h)):=fun hc w _=>by
 simp only [execOp,ho,Option.map_none,Option.map_some,hx hc,hy2 hc,Instr.sliceAt,Instr.slice,Instr.sliceBounds,Sem.run_bind,run_underlying (br hu),Result.andThen_ok,Sem.run_pure]
 simp [iP (code:=.sliceAlen) (hjh hc) (hk hc)]
theorem nZ {t l:Nat} {s:ByteArray} {kd:IntKind} {i:Int} (ho:o.op=.slice t x (some y) none none) (hu:dv t=some .string) (hx:Ev σ c x (.string s)) (hy:Ev σ c y (.int kd i)) (hil:c=true→i=(l:Int)) (hk:c=true→l≤s.size):OpQ c o σ ρ κ (.string (s.extract l s.size)):=fun hc w _=>by
 simp only [execOp,ho,Option.map_none,Option.map_some,hx hc,hy hc,Instr.sliceAt,Instr.slice,Instr.sliceBounds,Sem.run_bind,run_underlying (br hu),Result.andThen_ok,Sem.run_pure]
 simp [iP (code:=.sliceB) (hil hc) (hk hc)]
theorem sH {α:Type} (f:α→Value):∀ (bs:List α),(bs.map fun b=>[f b]).flatten=bs.map f
 | []=>rfl
 | b::bs=>by rw [List.map_cons,List.flatten_cons,sH f bs];rfl
theorem xC {s d e n cp:Nat} {a:Option Addr} {xs:List Int} (ho:o.op=.convert s d x) (hs:dv s=some (.slice e)) (he:dv e=some (.int .u8)) (hd:dv d=some .string) (hx:Ev σ c x (.slice a n cp)) (hr:c=true→Rd ρ κ a n 1 (xs.map fun b=>[.int .u8 b])):OpQ c o σ ρ κ (.string (strOfNums xs)):=fun hc w hst=>by
 have hrd:=hr hc
 have hlen:xs.length=n:=by have:=hrd.len;simpa using this
 have hrun:(convert s d (.slice a n cp)).run Tryz.prog w=.ok (.string (strOfNums xs)) w:=by
  rw [run_convert_bytes_string w s d e a n cp (br hs) (br he) (br hd)]
  cases a with
  | none =>
   have hn:n=0:=by
    rcases Nat.eq_zero_or_pos n with h | h
    ·exact h
    obtain ⟨ad,e,_⟩:=hrd.at_ h;cases e
   have hb:xs=[]:=List.eq_nil_of_length_eq_zero (by omega)
   subst hb
   simp [Conv.bytesToString];rfl
  | some ad =>
   have hcells:∀ j u,(xs.map (Value.int .u8))[j]?=some u→w.cell? (ad.add j)=some u:=fun j u hu=>by
    have hpos:0<n:=by
     rcases Nat.eq_zero_or_pos n with h | h
     ·have hb:xs=[]:=List.eq_nil_of_length_eq_zero (by omega)
      subst hb;simp at hu
     exact h
    obtain ⟨ad',e,h2⟩:=hrd.at_ hpos
    injection e with e;subst e
    refine h2 w hst j u ?_
    rw [sH];exact hu
   have hl:=run_loadCells_list (P:=Tryz.prog) w ad (xs.map (Value.int .u8)) hcells
   simp only [List.length_map,hlen] at hl
   rw [run_bytesToString w _ n cp xs hl,foldl_push_bytes]
   simp [strOfNums,ByteArray.empty,ByteArray.emptyWithCapacity]
   rfl
 simp [execOp,ho,hx hc,hrun]
end
section
variable {β:Base} {n:Nat} {x y:Code} {K:Exit→Post} {σ:Env} {ρ:List Res} {κ:Kr} {c:Operand}
theorem rm {P:Prop} [Decidable P] (hc:ev σ c=.bool (decide P)) (ht:P→WC β n x K σ ρ κ) (hf:¬ P→WC β n y K σ ρ κ):WC β n (.cond c x y) K σ ρ κ :=
 iC hc (fun h=>ht (of_decide_eq_true h)) (fun h=>hf (of_decide_eq_false h))
theorem Sl.take {κ:Kr} {a:Option Addr} {n c sz m:Nat} {css:List (List Value)} (h:Sl κ a n c sz css) (hm:m≤n):Sl κ a m c sz (css.take m) :=
 ⟨by rw [List.length_take,h.len];omega,Nat.le_trans hm h.cap,fun cs hcs=>h.wid cs (List.mem_of_mem_take hcs),fun h0=>by
  obtain ⟨b,off,h1,h2⟩:=h.at_ (by omega)
  exact ⟨b,off,h1,fun j cs hj=>h2 j cs (by rw [List.getElem?_take] at hj;split at hj;exact hj;cases hj)⟩⟩
theorem Sl.nil {κ:Kr} {sz:Nat}:Sl κ none 0 0 sz []:=⟨rfl,Nat.le_refl _,by simp,fun h=>absurd h (by omega)⟩
def ints (xs:List Int):List (List Value):=xs.map fun x=>[.int .i64 x]
theorem xD {xs:List Int} {k:Nat} {cs:List Value} (h:(ints xs)[k]?=some cs):∃ x,xs[k]?=some x∧cs=[.int .i64 x]:=by
 simp only [ints,List.getElem?_map] at h
 cases hx:xs[k]? with
 | none=>rw [hx] at h;cases h
 | some x=>rw [hx] at h;simp at h;exact ⟨x,rfl,h.symm⟩
theorem Sl.int {κ:Kr} {a:Option Addr} {n c k:Nat} {xs:List Int} (h:Sl κ a n c 1 (ints xs)) (hk:k<n):∃ b off x,a=some ⟨b,off,none⟩∧xs[k]?=some x∧Sh κ b (off+k*1) [.int .i64 x]:=by
 obtain ⟨b,off,cs,h1,h2,_,h4⟩:=h.get hk
 obtain ⟨x,h5,rfl⟩:=xD h2
 exact ⟨b,off,x,h1,h5,h4⟩
theorem Holds.nil:Holds σ []:=trivial
theorem Holds.cons {d:Nat} {v:Value} {l:List (Nat×Value)} (h:σ d=v) (h':Holds σ l):Holds σ ((d,v)::l):=⟨h,h'⟩
theorem Pick.perm {ρ l:List Res} {r:Res} (h:Pick ρ r l):ρ.Perm ([r]++l):=h
theorem Zi.view {l:List Res} {r r':Res} (h:Zi β ρ κ) (hp:Pick ρ r l) (hb:r'.blk=r.blk) (hs:∀ o,r.says o→r'.says o):Zi β (r'::l) κ:=by
 have h2:=h.perm hp
 refine ⟨h2.le,h2.fin,fun s hs'=>?_,fun s hs' b hb'=>?_,List.Pairwise.cons (fun s hs' b hb'=>?_) (List.pairwise_cons.1 h2.nd).2⟩
 ·rcases List.mem_cons.1 hs' with rfl | hs'
  ·have:=h2.own r (by simp);unfold Res.holds at *;rw [hb];cases e:r.blk <;> rw [e] at this <;> exact hs _ this
  exact h2.own s (by simp [hs'])
 ·rcases List.mem_cons.1 hs' with rfl | hs'
  ·exact h2.blk r (by simp) b (hb ▸ hb')
  exact h2.blk s (by simp [hs']) b hb'
 exact (List.pairwise_cons.1 h2.nd).1 s hs' b (hb ▸ hb')
theorem sI {b T sz m:Nat} {cs:List Value} {css:List (List Value)} (hf:css.flatten=cs) (hl:css.length=m) (hw:∀ c∈css,c.length=sz) (hm:m≤140737488355328):∀ o,(Res.b b T cs).says o→(Res.row (some ⟨b,0,none⟩) m m T sz css).says o:=fun o h=>by
 have ho:o=some (.cells cs.toArray T (0,0)):=h
 refine ⟨rfl,hl,hw,Nat.le_refl _,by unfold maxLen;omega,cs.toArray,ho,?_,?_⟩
 ·have:=dR hw;rw [hf,hl] at this;simpa using this
 have:=dR hw;rw [hf,hl] at this;rw [hf,← this];simp
theorem xE {a:Option Addr} {m c' T sz:Nat} {css:List (List Value)} (hm:Res.row a m c' T sz css∈ρ) (ha:0<m→a≠none) (hl:css.length=m) (hw:∀ c∈css,c.length=sz):Rd ρ κ a m sz css :=
  ⟨hl,hw,fun h0=>by
    cases a with
    | none=>exact absurd rfl (ha h0)
    | some ad=>exact ⟨ad,rfl,fun w hs j u hu=>by
        obtain ⟨h1,h2,h3,h4,h5,cur,h6,h7,h8⟩:(Res.row (some ad) m c' T sz css).holds w:=hs.own _ hm
        have hj:j<css.flatten.length:=by rcases Nat.lt_or_ge j css.flatten.length with h | h;exact h;rw [List.getElem?_eq_none h] at hu;cases hu
        rw [dR h3,h2] at hj
        rw [h1,eF,Nat.zero_add]
        have hc2:w.cell? ⟨ad.block,j,none⟩=cur.toList[j]?:=by simp [World.cell?,h6]
        rw [hc2]
        rw [← h8,List.getElem?_take,if_pos hj] at hu;exact hu⟩⟩
theorem sJ {a:Option Addr} {m c' T sz:Nat} {css:List (List Value)} (hm:Res.row a m c' T sz css∈ρ):∀ β,Zi β ρ κ→(css.length=m∧m≤c')∧(0<m→∃ b,a=some ⟨b,0,none⟩):=fun β hi=>by
 have h:=hi.own _ hm
 cases a with
 | none=>obtain ⟨rfl,rfl,rfl⟩:=h;exact ⟨⟨rfl,Nat.le_refl _⟩,fun h=>absurd h (by omega)⟩
 | some ad=>obtain ⟨h1,h2,h3,h4,h5,cur,h6,h7,h8⟩:=h;exact ⟨⟨h2,h4⟩,fun _=>⟨ad.block,by rw [h1]⟩⟩
theorem xF {b T:Nat} {cs:List Value} (hS:κ.S b) (h:(Res.b b T cs).says κ.w.heap[b]?):Sh κ b 0 cs:=⟨hS,fun j u hu=>by
 have hb:κ.w.heap[b]?=some (.cells cs.toArray T (0,0)):=h
 rw [Nat.zero_add,gV hb];exact hu⟩
theorem sl_row {b m c' T sz:Nat} {css:List (List Value)} (hS:κ.S b) (h:(Res.row (some ⟨b,0,none⟩) m c' T sz css).says κ.w.heap[b]?):Sl κ (some ⟨b,0,none⟩) m c' sz css:=by
 obtain ⟨h1,h2,h3,h4,h5,cur,h6,h7,h8⟩:=h
 refine ⟨h2,h4,h3,fun h0=>⟨b,0,rfl,fun j cs hj=>⟨hS,fun i u hu=>?_⟩⟩⟩
 have hi:i<sz:=by
  have:=h3 cs (List.mem_of_getElem? hj)
  rcases Nat.lt_or_ge i cs.length with h | h
  ·omega
  rw [List.getElem?_eq_none h] at hu;cases hu
 have hg:=hC h3 hj hi
 have hjm:j<m:=by rw [← h2];exact (List.getElem?_eq_some_iff.1 hj).1
 have hlt:j*sz+i<m*sz:=by
  have:(j+1)*sz≤m*sz:=Nat.mul_le_mul_right _ hjm
  rw [Nat.add_mul] at this;omega
 have hc2:κ.w.cell? ⟨b,0+j*sz+i,none⟩=cur.toList[j*sz+i]?:=by simp [World.cell?,h6]
 rw [hc2]
 rw [← h8,List.getElem?_take,if_pos hlt] at hg
 rw [hg];exact hu
def we (κ:Kr):Option Addr→Kr
 | none=>κ
 | some ad=>⟨κ.w,fun i=>κ.S i∨i=ad.block⟩
theorem uv (κ:Kr) (a:Option Addr):(we κ a).w=κ.w:=by cases a <;> rfl
theorem rn {a:Option Addr} {m c' T sz:Nat} {css:List (List Value)} {l:List Res} (hi:Zi β (Res.row a m c' T sz css::l) κ):Zi β l (we κ a)∧Kle κ (we κ a)∧Sl (we κ a) a m c' sz css:=by
 have ho:=hi.own _ (List.mem_cons_self)
 cases a with
 | none =>
  obtain ⟨rfl,rfl,rfl⟩:=ho
  exact ⟨hi.sub (List.sublist_cons_self _ _),.refl _,.nil⟩
 | some ad =>
  obtain ⟨h1,h2⟩:=hi.pub (r:=Res.row (some ad) m c' T sz css) (b:=ad.block) rfl
  have e:ad=⟨ad.block,0,none⟩:=ho.1
  refine ⟨h1,h2,?_⟩
  have ho':(Res.row (some ad) m c' T sz css).says κ.w.heap[ad.block]?:=ho
  unfold we
  rw [e] at ho' ⊢
  exact sl_row (κ:=⟨κ.w,fun i=>κ.S i∨i=ad.block⟩) (.inr rfl) ho'
theorem RV1.sub {rv:ResultVar} {v:Value} {ρ':List Res} (hs:∀ r∈ρ',r∈ρ) (h:RV1 rv σ ρ' v):RV1 rv σ ρ v:=by
 cases rv with
 | tmp t=>exact h
 | cell t T=>obtain ⟨b,off,Tb,cs,h1,h2,h3⟩:=h;exact ⟨b,off,Tb,cs,h1,hs _ h2,h3⟩
theorem RV.sub {rs:List ResultVar} {v:Value} {ρ':List Res} (hs:∀ r∈ρ',r∈ρ) (h:RV rs σ ρ' v):RV rs σ ρ v:=by
 match rs,h with
 | [],h=>exact h
 | [r],h=>exact RV1.sub hs h
 | [r,s],⟨v1,v2,h1,h2,h3⟩=>exact ⟨v1,v2,h1.sub hs,h2.sub hs,h3⟩
 | [r,s,t],⟨v1,v2,v3,h1,h2,h3,h4⟩=>exact ⟨v1,v2,v3,h1.sub hs,h2.sub hs,h3.sub hs,h4⟩
theorem wf {a:Option Addr} {m c' T sz:Nat} {css:List (List Value)} {l:List Res} (hp:Pick ρ (Res.row a m c' T sz css) l) (h:∀ κ',Kle κ κ'→Sl κ' a m c' sz css→WC β n x K σ l κ'):WC β n x K σ ρ κ:=fun hi df A hr Q hq=>by
 obtain ⟨h2,h3,h4⟩:=rn (hi.perm hp)
 have h1:=uv κ a
 have:=h _ h3 h4 h2 A hr Q fun e a' σ' ρ' κ'' g1 g2 g3 g4=>hq e a' σ' ρ' κ'' g1 g2 (h3.trans g3) g4
 rwa [h1] at this
theorem wh {ops:Array Oper} {lo:List Oper} {K:Post} {a:Option Addr} {m c' T sz:Nat} {css:List (List Value)} {l:List Res} (hp:Pick ρ (Res.row a m c' T sz css) l) (h:∀ κ',Kle κ κ'→Sl κ' a m c' sz css→WL β n ops lo K σ l κ'):WL β n ops lo K σ ρ κ:=fun hi df A hr Q hq=>by
 obtain ⟨h2,h3,h4⟩:=rn (hi.perm hp)
 have h1:=uv κ a
 have:=h _ h3 h4 h2 A hr Q fun a' σ' ρ' κ'' g1 g2 g3 g4=>hq a' σ' ρ' κ'' g1 g2 (h3.trans g3) g4
 rwa [h1] at this
theorem wl_pub {ops:Array Oper} {lo:List Oper} {K:Post} {r:Res} {l:List Res} {b:Nat} (hp:Pick ρ r l) (hb:r.blk=some b) (h:∀ κ',Kle κ κ'→κ'.S b→r.says κ'.w.heap[b]?→WL β n ops lo K σ l κ'):WL β n ops lo K σ ρ κ:=fun hi df a hr Q hq=>by
 have hi2:=hi.perm hp
 obtain ⟨h1,h2⟩:=hi2.pub hb
 have hs:=hi2.own r (by simp)
 unfold Res.holds at hs;rw [hb] at hs
 exact h _ h2 (.inr rfl) hs h1 a hr Q fun a' σ' ρ' κ' g1 g2 g3 g4=>hq a' σ' ρ' κ' g1 g2 (h2.trans g3) g4
theorem oA {r:Int} (h:0≤r∧r≤255):IntKind.u8.wrap r=r:=by
 have e:IntKind.u8.wrap r=r % 256:=rfl
 rw [e];omega
variable {o:Oper} {x y:Operand} {c:Bool} {t t':Nat} {a b:Int}
def Lit (σ:Env):Nat→List (Nat×Operand)→List (List Value)→Prop
 | _,[],css=>css=[]
 | k,(i,x)::r,css=>∃ cs css',css=cs::css'∧i=k∧bI (ev σ x)=cs∧Lit σ (k+1) r css'
theorem Lit.nil {k:Nat}:Lit σ k [] []:=rfl
theorem Lit.one {k:Nat} {x:Operand} {v:Value} {r:List (Nat×Operand)} {css:List (List Value)} (h1:ev σ x=v) (h2:bI v=[v]) (h:Lit σ (k+1) r css):Lit σ k ((k,x)::r) ([v]::css):=⟨_,_,rfl,rfl,by rw [h1];exact h2,h⟩
theorem Lit.agg {k:Nat} {x:Operand} {cs:List Value} {r:List (Nat×Operand)} {css:List (List Value)} (h1:ev σ x=.agg cs.toArray) (h:Lit σ (k+1) r css):Lit σ k ((k,x)::r) (cs::css):=⟨_,_,rfl,rfl,by rw [h1];rfl,h⟩
theorem Lit.spec:∀ {k:Nat} {parts:List (Nat×Operand)} {css:List (List Value)},Lit σ k parts css→parts.map (fun p=>(p.1,ev σ p.2))=((parts.map fun p=>ev σ p.2).zipIdx k).map (fun p=>(p.2,p.1))∧(parts.map fun p=>ev σ p.2).map bI=css
 | _,[],_,h=>by subst h;exact ⟨rfl,rfl⟩
 | k,(i,x)::r,_,⟨cs,css',e1,e2,h1,h2⟩=>by
  subst e1;subst e2
  obtain ⟨h3,h4⟩:=h2.spec
  refine ⟨?_,?_⟩
  ·simp only [List.map_cons,List.zipIdx_cons,h3]
  simp only [List.map_cons,h4,h1]
theorem sK {t E len sz by':Nat} {z:Value} {parts:List (Nat×Operand)} {css:List (List Value)} (hg:o.guard=none) (ho:o.op=.buildSlice t len parts.toArray) (hu:dv t=some (.slice E)) (hi:dU E=some (z,sz,by')) (hz:Nat.beq z.cells.size sz=true)
    (hp:Lit σ 0 parts css) (hl:Nat.beq css.length len=true) (hw:(css.all fun cs=>Nat.beq cs.length sz)=true) (hb:Nat.ble (len*sz) 16777216=true):LateRun o σ E css.flatten (fun b=>.slice (some ⟨b,0,none⟩) len len):=by
  obtain ⟨h1,h2⟩:=hp.spec
  have h3:=late_bs (o:=o) (σ:=σ) (parts.map fun p=>ev σ p.2) hg ho hu hi hz h1 (by have:=congrArg List.length h2;have h4:=Nat.eq_of_beq_eq_true hl;simp at this ⊢;omega) (fun v hv=>by
    have:bI v∈css:=by rw [← h2];exact List.mem_map_of_mem hv
    exact Nat.eq_of_beq_eq_true (List.all_eq_true.1 hw _ this)) (Nat.le_of_ble_eq_true hb)
  rwa [List.flatMap_def,h2] at h3
theorem ol_lit {K:Value→List Res→Kr→Prop} {t E len sz by':Nat} {z:Value} {parts:List (Nat×Operand)} {css:List (List Value)} (hg:o.guard=none) (ho:o.op=.buildSlice t len parts.toArray) (hu:dv t=some (.slice E)) (hi:dU E=some (z,sz,by')) (hz:Nat.beq z.cells.size sz=true)
    (hp:Lit σ 0 parts css) (hl:Nat.beq css.length len=true) (hw:(css.all fun cs=>Nat.beq cs.length sz)=true) (hb:Nat.ble (len*sz) 16777216=true) (hb2:Nat.ble len 16777216=true) (h:∀ b κ',Kle κ κ'→K (.slice (some ⟨b,0,none⟩) len len) (Res.row (some ⟨b,0,none⟩) len len E sz css::ρ) κ'):OpL o σ ρ κ K:=fun β hinv Nx hk=>by
  refine vn (sK hg ho hu hi hz hp hl hw hb) (K:=fun v ρ' κ'=>∃ b,v=.slice (some ⟨b,0,none⟩) len len∧ρ'=Res.b b E css.flatten::ρ∧K v (Res.row (some ⟨b,0,none⟩) len len E sz css::ρ) κ') (fun b κ' hk=>⟨b,rfl,rfl,h b κ' hk⟩) β hinv Nx fun v ρ' κ' h1 h2 h3=>?_
  obtain ⟨b,rfl,rfl,h4⟩:=h3
  have hbb:=Nat.le_of_ble_eq_true hb2
  exact hk _ _ κ' (h1.view (r':=Res.row (some ⟨b,0,none⟩) len len E sz css) Pick.h rfl (sI rfl (Nat.eq_of_beq_eq_true hl) (fun c hc=>Nat.eq_of_beq_eq_true (List.all_eq_true.1 hw c hc)) (by omega))) h2 h4
end
def WS (β:Base) (n:Nat) (ops:Array Oper) (K:Post) (m:Nat) (L:Array Bool) (σ:Env) (ρd ρs:List Res) (κ:Kr):Prop :=
 Zi β (ρd++ρs) κ→∀ ⦃df⦄ a,Rel df n a σ→∀ Q:Act→World→Prop,(∀ a' σ' ρ' κ',Rel df n a' σ'→Zi β ρ' κ'→Kle κ κ'→K σ' ρ' κ'→Q a' κ'.w)→wpAnyH Tryz.prog .any ops (NP Q) (Stab ρs κ) m L a κ.w
section
variable {β:Base} {n m:Nat} {ops:Array Oper} {K:Post} {L:Array Bool} {σ:Env} {ρ ρd ρs:List Res} {κ:Kr} {o:Oper} {i d:Nat} {v:Value}
theorem Stab.of {κ':Kr} (h:Zi β (ρd++ρs) κ') (hk:Kle κ κ'):Stab ρs κ κ'.w:=⟨hk.keep,fun r hr=>h.own r (List.mem_append.2 (.inr hr))⟩
theorem xG {K:Exit→Post} {id:Nat} {l:List Oper} (hp:ρ.Perm (ρd++ρs)) (h:∀ κ',Kle κ κ'→WS β n l.toArray (K .normal) l.length (Array.replicate l.length false) σ ρd ρs κ'):WC β n (.region id l.toArray true) K σ ρ κ:=fun hi df a hr Q hq=>by
 have hk1:Kle κ ⟨{ κ.w with drawn:=κ.w.drawn+1 },κ.S⟩:=⟨Nat.le_refl _,fun _ h=>h,fun _ _=>rfl⟩
 have hs:=h _ hk1 (hi.perm hp).drew a hr (fun a w=>Q .normal a w) fun a' σ' ρ' κ' g1 g2 g3 g4=>hq _ a' σ' ρ' κ' g1 g2 (hk1.trans g3) g4
 exact oN (ol mixed (by simpa using hs)) fun e a w h=>by rw [h.1];exact h.2
theorem ws_done (hr:(Region.ready .any ops L).isEmpty=true) (h:K σ (ρd++ρs) κ):WS β n ops K m L σ ρd ρs κ:=fun hi df a hra Q hq =>
 wpAnyH_done (by simpa using hr) ⟨rfl,hq a σ _ κ hra hi (.refl _) h⟩ m
def okQ (ops:Array Oper) (L:Array Bool) (i:Nat):Bool:=Region.noSelect ops&&Region.free .any ops L i&&(Region.ready .any ops L).contains i
theorem ws_q (i:Nat) (hok:okQ ops L i=true) (ho:ops[i]?=some o) (hg:o.guard=none) (hd:o.dst=some d) (hlt:Nat.blt d n=true) (h:OpQ true o σ ρs κ v) (hw:WS β n ops K m (L.setIfInBounds i true) (upd σ d v) ρd ρs κ):WS β n ops K (m+1) L σ ρd ρs κ:=fun hi df a hr Q hq=>by
 unfold okQ at hok
 simp only [Bool.and_eq_true] at hok
 refine wpAnyH_take ho hok.1.1 hok.1.2 hok.2 (fun _ _ _ h=>by cases h.1) (v:=v) (.inl ⟨by simp [Region.wanted,hg],fun w hw'=>by rw [hr.eval];exact h rfl w hw'⟩) (Stab.of hi (.refl _)) ?_
 rw [← dP hd] at hw
 exact hw hi _ (hr.put (eE hd hlt) v) Q hq
def Step (β:Base) (n:Nat) (ops:Array Oper) (K:Post) (m:Nat) (L:Array Bool) (σ:Env) (ρd ρs:List Res) (κ:Kr) (i:Nat):Prop :=
 ∃ o,ops[i]?=some o∧oM n o.dst=true∧((o.guard=none∧OpL o σ (ρd++ρs) κ fun v ρ' κ'=>∃ ρd',ρ'=ρd'++ρs∧WS β n ops K m (L.setIfInBounds i true) (kA σ o.dst v) ρd' ρs κ') ∨
  (∃ c,GuardIs ops σ o c∧OpG c o σ (ρd++ρs) κ fun v κ'=>WS β n ops K m (L.setIfInBounds i true) (kA σ o.dst (gv c v)) ρd ρs κ'))
theorem step_l (ho:ops[i]?=some o) (hg:o.guard=none) (hd:o.dst=some d) (hlt:Nat.blt d n=true) (h:OpL o σ (ρd++ρs) κ fun v ρ' κ'=>∃ ρd',ρ'=ρd'++ρs∧WS β n ops K m (L.setIfInBounds i true) (upd σ d v) ρd' ρs κ'):Step β n ops K m L σ ρd ρs κ i :=
 ⟨o,ho,eE hd hlt,.inl ⟨hg,by simp only [dP hd];exact h⟩⟩
theorem step_l0 (ho:ops[i]?=some o) (hg:o.guard=none) (hd:o.dst=none) (h:OpL o σ (ρd++ρs) κ fun _ ρ' κ'=>∃ ρd',ρ'=ρd'++ρs∧WS β n ops K m (L.setIfInBounds i true) σ ρd' ρs κ'):Step β n ops K m L σ ρd ρs κ i :=
 ⟨o,ho,by rw [hd];rfl,.inl ⟨hg,by simp only [hd];exact h⟩⟩
theorem Step.op (h:Step β n ops K m L σ ρd ρs κ i) (hi:Zi β (ρd++ρs) κ) {df:List Deferred} (a:Act) (hr:Rel df n a σ) (Q:Act→World→Prop) (hq:∀ a' σ' ρ' κ',Rel df n a' σ'→Zi β ρ' κ'→Kle κ κ'→K σ' ρ' κ'→Q a' κ'.w) :
    wpOp Tryz.prog ops (NP Q) i (fun a' w'=>Stab ρs κ w'∧wpAnyH Tryz.prog .any ops (NP Q) (Stab ρs κ) m (L.setIfInBounds i true) a' w') a κ.w:=by
  obtain ⟨o,ho,hd,h⟩:=h
  unfold wpOp
  simp only [ho]
  have fin:∀ (σ':Env) (ρ':List Res) (κ':Kr) (a':Act),Rel df n a' σ'→Zi β (ρ'++ρs) κ'→Kle κ κ'→WS β n ops K m (L.setIfInBounds i true) σ' ρ' ρs κ'→Stab ρs κ κ'.w∧wpAnyH Tryz.prog .any ops (NP Q) (Stab ρs κ) m (L.setIfInBounds i true) a' κ'.w:=fun σ' ρ' κ' a' k1 k2 k3 k4 =>
    ⟨Stab.of k2 k3,fT (fun w hw=>⟨fun b hb=>(hw.keep b (k3.sh b hb)).trans (k3.keep b hb),hw.own⟩) _ _ _ _ (k4 k2 a' k1 Q fun a'' σ'' ρ'' κ'' g1 g2 g3 g4=>hq a'' σ'' ρ'' κ'' g1 g2 (k3.trans g3) g4)⟩
  rcases h with ⟨hg,hw⟩ | ⟨c,hg,hw⟩
  · rw [if_pos (by simp [Region.wanted,hg])]
    refine .inl (iO hr.eval (hw β hi (fun v w=>Stab ρs κ w∧wpAnyH Tryz.prog .any ops (NP Q) (Stab ρs κ) m (L.setIfInBounds i true) (a.put o.dst v) w) fun v ρ' κ' hi' hle' hw'=>?_) fun _ _ h=>h)
    obtain ⟨ρd',rfl,hw'⟩:=hw'
    exact fin _ ρd' κ' _ (hr.put hd v) hi' hle' hw'
  rw [gE hr,hg]
  cases c with
  | false =>
    have h2:=hw.2 rfl
    simp only [eZ] at h2
    exact fin _ ρd κ _ (hr.put hd _) hi (.refl _) h2
  | true =>
    refine .inl (iO hr.eval ((hw.1 rfl) β hi (fun v w=>Stab ρs κ w∧wpAnyH Tryz.prog .any ops (NP Q) (Stab ρs κ) m (L.setIfInBounds i true) (a.put o.dst v) w) fun v ρ' κ' hi' hle' hw'=>?_) fun _ _ h=>h)
    obtain ⟨rfl,hw'⟩:=hw'
    simp only [gU] at hw'
    exact fin _ ρd κ' _ (hr.put hd v) hi' hle' hw'
theorem ws_one (i:Nat) (hr:(Region.ready .any ops L == [i])=true) (h:Step β n ops K m L σ ρd ρs κ i):WS β n ops K (m+1) L σ ρd ρs κ:=fun hi df a hra Q hq =>
 wpAnyH_all (by simpa using hr) (by simp) fun j hj=>by
  simp only [List.mem_cons,List.not_mem_nil,or_false] at hj
  subst hj;exact h.op hi a hra Q hq
theorem ws_two (i j:Nat) (hr:(Region.ready .any ops L == [i,j])=true) (h:Step β n ops K m L σ ρd ρs κ i) (h2:Step β n ops K m L σ ρd ρs κ j):WS β n ops K (m+1) L σ ρd ρs κ:=fun hi df a hra Q hq =>
 wpAnyH_all (by simpa using hr) (by simp) fun k hk=>by
  simp only [List.mem_cons,List.not_mem_nil,or_false] at hk
  rcases hk with rfl | rfl
  ·exact h.op hi a hra Q hq
  exact h2.op hi a hra Q hq
end
section
variable {β:Base} {n:Nat} {ops:Array Oper} {K:Post} {o:Oper} {r:List (Nat×Oper)} {σ:Env} {ρd:List Res} {κ:Kr}
theorem ol_q {K:Value→List Res→Kr→Prop} {v:Value} {ρ:List Res} (h:OpQ true o σ ρ κ v) (hk:K v ρ κ):OpL o σ ρ κ K:=fun _ hi Nx hn=>by
 rw [h rfl κ.w hi.stab]
 exact hn v ρ κ hi (.refl _) hk
end
section
variable {o:Oper} {σ:Env} {ρ:List Res} {κ:Kr} {c:Bool} {x y:Operand} {K:Value→List Res→Kr→Prop}
theorem wi {t E len by':Nat} {cs:List Value} {v z:Value} {k:IntKind} {i:Int} {j:Nat} {d:TypeDesc} (ho:o.op=.index t x y) (hu:dv t=some (.array len E)) (hE:dv E=some d) (hd:ij d=false) (hi:dU E=some (z,1,by'))
    (hx:Ev σ c x (.agg cs.toArray)) (hy:Ev σ c y (.int k i)) (hj:c=true→i=(j:Int)) (hlt:c=true→j<len) (hv:c=true→cs[j]?=some v):OpQ c o σ ρ κ v:=fun hc w _=>by
  have h1:=hj hc;have h2:=hlt hc;have h3:=hv hc
  simp only [execOp,ho,hx hc,hy hc,Instr.index,asIntOf,Sem.run_bind,Sem.run_pure,Result.andThen_ok,run_underlying (br hu),cF hi,part,gF hE,hd]
  simp [h1,h2,h3,cF hi,gF hE,hd,part]
theorem qB {t E len b off sz by':Nat} {z:Value} {k:IntKind} {i:Int} {j:Nat} (ho:o.op=.indexAddr t x y) (hu:dv t=some (.array len E)) (hi:dU E=some (z,sz,by'))
    (hx:Ev σ c x (.pointer (some ⟨b,off,none⟩))) (hy:Ev σ c y (.int k i)) (hj:c=true→i=(j:Int)) (hlt:c=true→j<len):OpQ c o σ ρ κ (.pointer (some ⟨b,off+j*sz,none⟩)):=fun hc w _=>by
  have h1:=hj hc;have h2:=hlt hc
  simp only [execOp,ho,hx hc,hy hc,Instr.indexAt,asIntOf,Instr.sureAddr,Sem.run_bind,Sem.run_pure,Result.andThen_ok,run_underlying (br hu)]
  simp [h1,h2,cF hi,eF]
theorem wj {t:Nat} {b off T by':Nat} {z v:Value} {cs:List Value} {ρ':List Res} (ho:o.op=.store t x y) (hx:ev σ x=.pointer (some ⟨b,off,none⟩)) (hv:ev σ y=v) (hv1:bI v=[v])
    (hz:dU t=some (z,1,by')) (h1:v.oneCell'=true) (hu:Upd ρ (Res.b b T cs) (Res.b b T (cs.set off v)) ρ') (hl:off<cs.length)
    (h:∀ κ',Kle κ κ'→K undef ρ' κ'):OpL o σ ρ κ K:=by
  rw [nU hl] at hu
  exact oT ho hx (by rw [hv];exact hv1) hz rfl (by simp [h1]) (Nat.ble_eq_true_of_le (by simp only [List.length_cons,List.length_nil];omega)) hu h
theorem xH {sz:Nat} {css:List (List Value)} {k j:Nat} {cs vs:List Value} (hw:∀ cs∈css,cs.length=sz) (hk:css[k]?=some cs) (hj:j+vs.length≤sz) :
    css.flatten.take (k*sz+j)++vs++css.flatten.drop (k*sz+j+vs.length)=(css.set k (cs.take j++vs++cs.drop (j+vs.length))).flatten:=by
  have hlt:k<css.length:=(List.getElem?_eq_some_iff.1 hk).1
  have hcs:css[k]=cs:=(List.getElem?_eq_some_iff.1 hk).2
  have hcl:cs.length=sz:=hw cs (List.mem_of_getElem? hk)
  have hsplit:css=css.take k++cs::css.drop (k+1):=by
    rw [← hcs,← List.drop_eq_getElem_cons hlt,List.take_append_drop]
  have hpre:(css.take k).flatten.length=k*sz:=by rw [dR (fun c h=>hw c (List.mem_of_mem_take h)),List.length_take,Nat.min_eq_left (by omega)]
  rw [List.set_eq_take_append_cons_drop,if_pos hlt]
  have hf:css.flatten=(css.take k).flatten++(cs++(css.drop (k+1)).flatten):=by
    conv=>lhs;rw [hsplit]
    simp
  rw [hf]
  have t1:List.take (k*sz+j) ((css.take k).flatten++(cs++(css.drop (k+1)).flatten))=(css.take k).flatten++cs.take j:=by
    rw [List.take_append,hpre,List.take_of_length_le (by omega),Nat.add_sub_cancel_left,List.take_append_of_le_length (by omega)]
  have t2:List.drop (k*sz+j+vs.length) ((css.take k).flatten++(cs++(css.drop (k+1)).flatten))=cs.drop (j+vs.length)++(css.drop (k+1)).flatten:=by
    rw [List.drop_append,hpre,List.drop_of_length_le (by omega),show k*sz+j+vs.length - k*sz=j+vs.length by omega,List.drop_append_of_le_length (by omega)];rfl
  rw [t1,t2]
  simp
theorem xI {A V D:List Value} {N:Nat} (h:A.length+V.length≤N):(A++V++D).take N=A++V++D.take (N - (A.length+V.length)):=by
 rw [List.take_append,List.take_of_length_le (by rw [List.length_append];exact h),List.length_append]
theorem sL {t b n c' T sz sz2 by' off k j:Nat} {z:Value} {css:List (List Value)} {cs vs:List Value} {ρ':List Res} (ho:o.op=.store t x y) (hx:ev σ x=.pointer (some ⟨b,off,none⟩)) (hoff:off=k*sz+j) (hv:bI (ev σ y)=vs)
    (hz:dU t=some (z,sz2,by')) (hsz:vs.length=sz2) (h1:vs.all Value.oneCell'=true) (hk:css[k]?=some cs) (hj:j+vs.length≤sz) (hu:Upd ρ (Res.row (some ⟨b,0,none⟩) n c' T sz css) (Res.row (some ⟨b,0,none⟩) n c' T sz (css.set k (cs.take j++vs++cs.drop (j+vs.length)))) ρ')
    (h:∀ κ',Kle κ κ'→K undef ρ' κ'):OpL o σ ρ κ K:=fun β hi Nx hkk=>by
  obtain ⟨l1,l2,hρ,hρ'⟩:=hu
  obtain ⟨g0,g1,g2,g3,g4,cur,g5,g6,g7⟩:(Res.row (some ⟨b,0,none⟩) n c' T sz css).holds κ.w:=hi.own _ (by rw [hρ];simp)
  have hlt:k<css.length:=(List.getElem?_eq_some_iff.1 hk).1
  have hb:κ.w.heap[b]?=some (.cells cur.toList.toArray T (0,0)):=by simpa using g5
  have hkn:k*sz+sz≤n*sz:=by rw [← Nat.succ_mul];exact Nat.mul_le_mul_right _ (by omega)
  have hnc:n*sz≤c'*sz:=Nat.mul_le_mul_right _ g3
  have hl:off+vs.length≤cur.toList.length:=by simp only [Array.length_toList,g6,hoff];omega
  obtain ⟨w',hrun,e1,e2,e3,e4,e5,e6⟩:=lF hb hl h1
  have hcs:(ev σ y).cells=vs.toArray:=by rw [← hv,← fS]
  have hsz':vs.toArray.size=sz2:=by simpa using hsz
  unfold execOp
  simp only [ho,hx,Instr.storeAt,Instr.sureAddr,storeVar,Sem.run_bind,Sem.run_pure,Result.andThen_ok,cF hz,hcs,hsz',ne_eq,not_true_eq_false,if_false,hrun,OutV]
  have hlen:(css.set k (cs.take j++vs++cs.drop (j+vs.length))).length=n:=by simp [g1]
  have hcl:cs.length=sz:=g2 cs (List.mem_of_getElem? hk)
  have hsays:(Res.row (some ⟨b,0,none⟩) n c' T sz (css.set k (cs.take j++vs++cs.drop (j+vs.length)))).says w'.heap[b]?:=by
    refine ⟨rfl,hlen,fun d hd=>?_,g3,g4,_,e3,?_,?_⟩
    · rcases List.mem_or_eq_of_mem_set hd with hd | hd
      · exact g2 d hd
      rw [hd];simp only [List.length_append,List.length_take,List.length_drop];omega
    · have:=hl;simp only [Array.length_toList,g6] at this
      simp only [List.size_toArray,List.length_append,List.length_take,List.length_drop,Array.length_toList,g6];omega
    rw [← xH g2 hk hj,← g7,hoff]
    have hcl2:cur.toList.length=c'*sz:=by simp [g6]
    have hA:(List.take (k*sz+j) cur.toList).length=k*sz+j:=by rw [List.length_take,hcl2];omega
    rw [xI (by rw [hA];omega),hA]
    have a1:List.take (k*sz+j) (List.take (n*sz) cur.toList)=List.take (k*sz+j) cur.toList:=by rw [List.take_take,Nat.min_eq_left (by omega)]
    have a2:List.drop (k*sz+j+vs.length) (List.take (n*sz) cur.toList)=List.take (n*sz - (k*sz+j+vs.length)) (List.drop (k*sz+j+vs.length) cur.toList):=by rw [List.drop_take]
    rw [a1,a2]
  obtain ⟨hi',hk'⟩:=hi.turn (r:=Res.row (some ⟨b,0,none⟩) n c' T sz css) (r':=Res.row (some ⟨b,0,none⟩) n c' T sz (css.set k (cs.take j++vs++cs.drop (j+vs.length)))) hρ rfl rfl e1 e2 hsays e4 e5 e6 (nj _ _ _ _ _ hrun)
  rw [← hρ'] at hi'
  exact hkk _ _ _ hi' hk' (h _ hk')
end
section
variable {β:Base} {n:Nat} {ops:Array Oper} {o:Oper} {σ:Env} {ρ:List Res} {κ:Kr} {c:Bool} {K:Post} {rest:List Oper} {f d:Nat} {l:List Operand} {ts:Array Nat} {args:List Value} {u:Value}
theorem wl_fun (hg:o.guard=none) (hd:o.dst=some d) (hlt:Nat.blt d n=true) (ho:o.op=.call { callee:=.value (.func f),args:=l.toArray,argTypes:=ts })
    (ha:l.map (ev σ)=args) (hc:CallP f args κ fun v _=>v=u) (h:∀ κ',Kle κ κ'→WL β n ops rest K (upd σ d u) ρ κ'):WL β n ops (o::rest) K σ ρ κ :=
  sq hg hd hlt (iV ho ha hc fun v κ' hk hv=>by subst hv;exact h κ' hk)
theorem ar2 {x y:Operand} {v u:Value} (h:Ev σ c x v) (h2:Ev σ c y u):c=true→[x,y].map (ev σ)=[v,u]:=fun hc=>by simp [h hc,h2 hc]
end
def GOK (κ:Kr):Prop:=Sh κ 0 0 [.int .i64 2,.int .i64 4,.int .i64 6,.int .i64 8]
theorem GOK.mono {κ κ':Kr} (h:GOK κ) (k:Kle κ κ'):GOK κ':=Sh.mono h k
theorem gok_len {κ:Kr} (h:GOK κ):Sh κ 0 0 [.int .i64 2,.int .i64 4,.int .i64 6,.int .i64 8]:=h
def sM:Value→Bool
 | .string s=>Nat.ble s.size 140737488355328
 | _=>true
inductive PV where
 | any:PV
 | v (x:Value):PV
 | agg (cs:List PV):PV
 | slc (n:Nat) (xs:List (List PV)):PV
 | tup (vs:List PV):PV
 | ref (cs:List PV) (off:Nat):PV
 | fn (f:Nat) (caps:List PV):PV
 | ifc (t:Nat) (p:PV):PV
def One (ds:List Value):Prop:=∀ u∈ds,u.oneCell'=true
def Ones (dss:List (List Value)):Prop:=∀ ds∈dss,One ds
mutual
inductive Rp (κ:Kr):PV→Value→Prop
 | any {x:Value}:Rp κ .any x
 | v {x:Value} (h:sM x=true):Rp κ (.v x) x
 | agg {cs:List PV} {ds:List Value} (h1:One ds) (h:Rps κ cs ds):Rp κ (.agg cs) (.agg ds.toArray)
 | slc {xs:List (List PV)} {a:Option Addr} {n c sz:Nat} {css:List (List Value)} (h:Sl κ a n c sz css) (hb:n≤140737488355328) (h1:Ones css) (hs:Rpss κ xs css):Rp κ (.slc n xs) (.slice a n c)
 | tup {vs:List PV} {ws:List Value} (h:Rps κ vs ws):Rp κ (.tup vs) (.tuple ws.toArray)
 | ref {cs:List PV} {ds:List Value} {b off k:Nat} (h:Sh κ b off ds) (h1:One ds) (hs:Rps κ cs ds):Rp κ (.ref cs k) (.pointer (some ⟨b,off+k,none⟩))
 | fn {f:Nat} {caps:List PV} {ds:List Value} (h:Rps κ caps ds):Rp κ (.fn f caps) (.func (.func f) #[] ds.toArray)
 | ifc {t:Nat} {p:PV} {v:Value} (h:Rp κ p v):Rp κ (.ifc t p) (.iface t v)
inductive Rps (κ:Kr):List PV→List Value→Prop
 | nil:Rps κ [] []
 | cons {p:PV} {v:Value} {ps:List PV} {vs:List Value} (h:Rp κ p v) (hs:Rps κ ps vs):Rps κ (p::ps) (v::vs)
inductive Rpss (κ:Kr):List (List PV)→List (List Value)→Prop
 | nil:Rpss κ [] []
 | cons {p:List PV} {v:List Value} {ps:List (List PV)} {vs:List (List Value)} (h:Rps κ p v) (hs:Rpss κ ps vs):Rpss κ (p::ps) (v::vs)
end
mutual
theorem Rp.mono {κ κ':Kr} (k:Kle κ κ'):∀ {p:PV} {v:Value},Rp κ p v→Rp κ' p v
 | _,_,.any=>.any
 | _,_,.v h=>.v h
 | _,_,.agg h1 h=>.agg h1 (Rps.mono k h)
 | _,_,.slc h hb h1 hs=>.slc (h.mono k) hb h1 (Rpss.mono k hs)
 | _,_,.tup h=>.tup (Rps.mono k h)
 | _,_,.ref h h1 hs=>.ref (h.mono k) h1 (Rps.mono k hs)
 | _,_,.fn h=>.fn (Rps.mono k h)
 | _,_,.ifc h=>.ifc (Rp.mono k h)
theorem Rps.mono {κ κ':Kr} (k:Kle κ κ'):∀ {p:List PV} {v:List Value},Rps κ p v→Rps κ' p v
 | _,_,.nil=>.nil
 | _,_,.cons h hs=>.cons (Rp.mono k h) (Rps.mono k hs)
theorem Rpss.mono {κ κ':Kr} (k:Kle κ κ'):∀ {p:List (List PV)} {v:List (List Value)},Rpss κ p v→Rpss κ' p v
 | _,_,.nil=>.nil
 | _,_,.cons h hs=>.cons (Rps.mono k h) (Rpss.mono k hs)
end
section
variable {κ:Kr}
theorem Rp.val {x v:Value} (h:Rp κ (.v x) v):v=x:=by cases h;rfl
theorem Rp.ok {x v:Value} (h:Rp κ (.v x) v):sM x=true:=by cases h;assumption
theorem Rps.len:∀ {ps:List PV} {vs:List Value},Rps κ ps vs→ps.length=vs.length
 | _,_,.nil=>rfl
 | _,_,.cons _ hs=>by simp [hs.len]
theorem Rpss.len:∀ {ps:List (List PV)} {vs:List (List Value)},Rpss κ ps vs→ps.length=vs.length
 | _,_,.nil=>rfl
 | _,_,.cons _ hs=>by simp [hs.len]
theorem Rps.get:∀ {ps:List PV} {vs:List Value} {k:Nat} {p:PV},Rps κ ps vs→ps[k]?=some p→∃ v,vs[k]?=some v∧Rp κ p v
 | _,_,0,_,.cons h _,e=>by simp only [List.getElem?_cons_zero,da] at e;subst e;exact ⟨_,rfl,h⟩
 | _,_,_+1,_,.cons _ hs,e=>by simp only [List.getElem?_cons_succ] at e ⊢;exact hs.get e
theorem Rpss.get:∀ {ps:List (List PV)} {vs:List (List Value)} {k:Nat} {p:List PV},Rpss κ ps vs→ps[k]?=some p→∃ v,vs[k]?=some v∧Rps κ p v
 | _,_,0,_,.cons h _,e=>by simp only [List.getElem?_cons_zero,da] at e;subst e;exact ⟨_,rfl,h⟩
 | _,_,_+1,_,.cons _ hs,e=>by simp only [List.getElem?_cons_succ] at e ⊢;exact hs.get e
theorem Rps.app:∀ {ps qs:List PV} {vs ws:List Value},Rps κ ps vs→Rps κ qs ws→Rps κ (ps++qs) (vs++ws)
 | _,_,_,_,.nil,h=>h
 | _,_,_,_,.cons h hs,g=>.cons h (hs.app g)
theorem Rpss.app:∀ {ps qs:List (List PV)} {vs ws:List (List Value)},Rpss κ ps vs→Rpss κ qs ws→Rpss κ (ps++qs) (vs++ws)
 | _,_,_,_,.nil,h=>h
 | _,_,_,_,.cons h hs,g=>.cons h (hs.app g)
theorem Rps.drop:∀ {ps:List PV} {vs:List Value} (k:Nat),Rps κ ps vs→Rps κ (ps.drop k) (vs.drop k)
 | _,_,0,h=>h
 | _,_,_+1,.nil=>.nil
 | _,_,k+1,.cons _ hs=>hs.drop k
theorem Rps.take:∀ {ps:List PV} {vs:List Value} (k:Nat),Rps κ ps vs→Rps κ (ps.take k) (vs.take k)
 | _,_,0,_=>.nil
 | _,_,_+1,.nil=>.nil
 | _,_,k+1,.cons h hs=>.cons h (hs.take k)
theorem Rpss.drop:∀ {ps:List (List PV)} {vs:List (List Value)} (k:Nat),Rpss κ ps vs→Rpss κ (ps.drop k) (vs.drop k)
 | _,_,0,h=>h
 | _,_,_+1,.nil=>.nil
 | _,_,k+1,.cons _ hs=>hs.drop k
theorem Rpss.take:∀ {ps:List (List PV)} {vs:List (List Value)} (k:Nat),Rpss κ ps vs→Rpss κ (ps.take k) (vs.take k)
 | _,_,0,_=>.nil
 | _,_,_+1,.nil=>.nil
 | _,_,k+1,.cons h hs=>.cons h (hs.take k)
theorem Rps.set:∀ {ps:List PV} {vs:List Value} {k:Nat} {p:PV} {v:Value},Rps κ ps vs→Rp κ p v→Rps κ (ps.set k p) (vs.set k v)
 | _,_,_,_,_,.nil,_=>.nil
 | _,_,0,_,_,.cons _ hs,g=>.cons g hs
 | _,_,_+1,_,_,.cons h hs,g=>.cons h (hs.set g)
theorem Rpss.set:∀ {ps:List (List PV)} {vs:List (List Value)} {k:Nat} {p:List PV} {v:List Value},Rpss κ ps vs→Rps κ p v→Rpss κ (ps.set k p) (vs.set k v)
 | _,_,_,_,_,.nil,_=>.nil
 | _,_,0,_,_,.cons _ hs,g=>.cons g hs
 | _,_,_+1,_,_,.cons h hs,g=>.cons h (hs.set g)
theorem Rpss.flat:∀ {ps:List (List PV)} {vs:List (List Value)},Rpss κ ps vs→Rps κ ps.flatten vs.flatten
 | _,_,.nil=>.nil
 | _,_,.cons h hs=>by simp only [List.flatten_cons];exact h.app hs.flat
theorem Rps.nil_inv {vs:List Value} (h:Rps κ [] vs):vs=[]:=by cases h;rfl
theorem Rpss.nil_inv {vs:List (List Value)} (h:Rpss κ [] vs):vs=[]:=by cases h;rfl
theorem Rps.cons_inv {p:PV} {ps:List PV} {vs:List Value} (h:Rps κ (p::ps) vs):∃ v ws,vs=v::ws∧Rp κ p v∧Rps κ ps ws:=by cases h;exact ⟨_,_,rfl,by assumption,by assumption⟩
theorem Rpss.cons_inv {p:List PV} {ps:List (List PV)} {vs:List (List Value)} (h:Rpss κ (p::ps) vs):∃ v ws,vs=v::ws∧Rps κ p v∧Rpss κ ps ws:=by cases h;exact ⟨_,_,rfl,by assumption,by assumption⟩
end
def oc:PV→Bool
 | .v x=>x.oneCell'
 | .slc _ _ | .ref _ _ | .fn _ _ | .ifc _ _=>true
 | _=>false
theorem Rp.one {κ:Kr} {p:PV} {v:Value} (h:Rp κ p v) (ho:oc p=true):v.oneCell'=true:=by
 cases h with
 | v _=>exact ho
 | slc=>rfl
 | ref=>rfl
 | fn=>rfl
 | ifc=>rfl
 | _=>cases ho
theorem Rps.one {κ:Kr}:∀ {ps:List PV} {vs:List Value},Rps κ ps vs→ps.all oc=true→One vs
 | _,_,.nil,_=>fun _ h=>by cases h
 | _,_,.cons h hs,ho=>by
  simp only [List.all_cons,Bool.and_eq_true] at ho
  intro u hu
  rcases List.mem_cons.1 hu with rfl | hu
  ·exact h.one ho.1
  exact hs.one ho.2 u hu
def fM:PV→Option (List PV)
 | .agg cs=>some cs
 | .v x=>cond (x.oneCell') (some [.v x]) none
 | .slc n xs=>some [.slc n xs]
 | .ref cs k=>some [.ref cs k]
 | .fn f cs=>some [.fn f cs]
 | .ifc t p=>some [.ifc t p]
 | _=>none
theorem Rp.cells {κ:Kr} {p:PV} {v:Value} {cs:List PV} (h:Rp κ p v) (hc:fM p=some cs):∃ ds,bI v=ds∧Rps κ cs ds∧One ds:=by
 cases h with
 | any=>cases hc
 | v hx =>
  simp only [fM] at hc
  cases ho:v.oneCell' with
  | false=>rw [ho] at hc;cases hc
  | true =>
   rw [ho] at hc;simp only [cZ,da] at hc;subst hc
   refine ⟨[v],?_,.cons (.v hx) .nil,?_⟩
   ·cases v <;> first | rfl | cases ho
   ·intro u hu;rw [List.mem_singleton.1 hu];exact ho
 | agg h1 h=>simp only [fM,da] at hc;subst hc;exact ⟨_,rfl,h,h1⟩
 | slc h hb h1 hs=>simp only [fM,da] at hc;subst hc;exact ⟨_,rfl,.cons (.slc h hb h1 hs) .nil,fun u hu=>by have e:=List.mem_singleton.1 hu;rw [e];rfl⟩
 | tup=>cases hc
 | ref h h1 hs=>simp only [fM,da] at hc;subst hc;exact ⟨_,rfl,.cons (.ref h h1 hs) .nil,fun u hu=>by have e:=List.mem_singleton.1 hu;rw [e];rfl⟩
 | fn h=>simp only [fM,da] at hc;subst hc;exact ⟨_,rfl,.cons (.fn h) .nil,fun u hu=>by have e:=List.mem_singleton.1 hu;rw [e];rfl⟩
 | ifc h=>simp only [fM,da] at hc;subst hc;exact ⟨_,rfl,.cons (.ifc h) .nil,fun u hu=>by have e:=List.mem_singleton.1 hu;rw [e];rfl⟩
def gj (t:Nat) (cs:List PV):Option PV :=
 match dv t,dU t with
 | some d,some (_,sz,_)=>cond (ij d) (cond (Nat.ble sz cs.length) (some (.agg (cs.take sz))) none) cs[0]?
 | _,_=>none
theorem sN {κ:Kr} {t:Nat} {cs:List PV} {ds:List Value} {pv:PV} (h:Rps κ cs ds) (h1:One ds) (hr:gj t cs=some pv):∃ v,gi t ds 0=some v∧Rp κ pv v:=by
 unfold gj at hr;unfold gi
 split at hr
 ·rename_i d z sz b hd hi
  try rw [hd,hi]
  try simp only
  cases hag:ij d
  ·rw [hag] at hr;simp only [eY] at hr ⊢
   obtain ⟨v,hv,hp⟩:=h.get hr
   exact ⟨v,hv,hp⟩
  rw [hag] at hr;simp only [cZ] at hr ⊢
  cases hle:Nat.ble sz cs.length
  ·rw [hle] at hr;cases hr
  rw [hle] at hr;simp only [cZ,da] at hr;subst hr
  have hl:=h.len
  rw [Nat.zero_add,← hl,hle]
  simp only [cZ,List.drop_zero]
  exact ⟨_,rfl,.agg (fun u hu=>h1 u (List.mem_of_mem_take hu)) (h.take sz)⟩
 cases hr
abbrev PEnv:=Nat→PV
def eb (σ:PEnv) (d:Nat) (v:PV):PEnv:=fun t=>cond (Nat.beq t d) v (σ t)
def aF (σ:PEnv):List (Nat×PV)→PEnv
 | []=>σ
 | (d,v)::l=>eb (aF σ l) d v
def pc (x:Value):PV:=match x with
 | .agg cs=>.agg (cs.toList.map fun x=>cond (sM x) (.v x) .any)
 | x=>cond (sM x) (.v x) .any
def sO (args:List PV):PEnv:=fun t=>args.getD t .any
def Sim (κ:Kr) (σp:PEnv) (σ:Env):Prop:=∀ t,Rp κ (σp t) (σ t)
section
variable {κ κ':Kr} {σp:PEnv} {σ:Env}
theorem Sim.mono (h:Sim κ σp σ) (k:Kle κ κ'):Sim κ' σp σ:=fun t=>(h t).mono k
theorem Sim.upd {d:Nat} {p:PV} {v:Value} (h:Sim κ σp σ) (hp:Rp κ p v):Sim κ (eb σp d p) (upd σ d v):=fun t=>by
 unfold eb SX.upd;cases Nat.beq t d
 ·exact h t
 exact hp
theorem wk {d:Nat} {v:PV} (h:σp d=v):eb σp d v=σp:=by
 funext t;unfold eb;cases e:Nat.beq t d
 ·rfl
 rw [Nat.eq_of_beq_eq_true e,h];rfl
theorem rp {x:Value}:Rp κ (cond (sM x) (.v x) .any) x:=by cases e:sM x;exact .any;exact .v e
theorem gI:∀ (l:List Value),Rps κ (l.map fun x=>cond (sM x) (.v x) .any) l
 | []=>.nil
 | _::l=>.cons rp (gI l)
end
def rq:Value→Bool
 | .agg cs=>cs.toList.all Value.oneCell'
 | _=>true
def pc' (x:Value):PV:=cond (rq x) (pc x) .any
theorem rp_pc {κ:Kr} (x:Value):Rp κ (pc' x) x:=by
 unfold pc'
 cases e:rq x
 ·exact .any
 simp only [cZ]
 unfold pc
 split
 ·rename_i cs
  have h:=gI (κ:=κ) cs.toList
  have:(Value.agg cs)=.agg cs.toList.toArray:=by simp
  rw [this]
  refine .agg (fun u hu=>?_) (by simpa using h)
  simp only [rq] at e
  exact List.all_eq_true.1 e u (by simpa using hu)
 exact rp
def bg (σ:PEnv):Operand→PV
 | .tmp t=>σ t
 | .const x=>pc' x
 | .global g=>.v (.pointer (some ⟨g,0,none⟩))
 | .func f=>.fn f []
theorem Sim.ev {κ:Kr} {σp:PEnv} {σ:Env} (h:Sim κ σp σ) (x:Operand):Rp κ (bg σp x) (ev σ x):=by
 cases x with
 | tmp t=>exact h t
 | const x=>exact rp_pc x
 | global g=>exact .v rfl
 | func f=>exact .fn (ds:=[]) .nil
theorem gm {κ:Kr} {σp:PEnv} {σ:Env} (h:Sim κ σp σ):∀ (l:List Operand),Rps κ (l.map (bg σp)) (l.map (SX.ev σ))
 | []=>.nil
 | x::l=>.cons (h.ev x) (gm h l)
theorem sim0 {κ:Kr} {pargs:List PV} {args:List Value} (h:Rps κ pargs args):Sim κ (sO pargs) (w6 args.toArray):=fun t=>by
 unfold sO w6
 simp only [List.getD_eq_getElem?_getD]
 cases e:pargs[t]? with
 | none=>exact .any
 | some p =>
  obtain ⟨v,hv,hp⟩:=h.get e
  simp only [hv,Option.getD_some];exact hp
inductive KVs (κ:Kr):List (Value×PV)→List MapEntry→Prop
 | nil:KVs κ [] []
 | cons {p:PV} {e:MapEntry} {ps:List (Value×PV)} {es:List MapEntry} (h:Rp κ p e.val) (hs:KVs κ ps es):KVs κ ((e.key,p)::ps) (e::es)
theorem KVs.mono {κ κ':Kr} (k:Kle κ κ'):∀ {ps:List (Value×PV)} {es:List MapEntry},KVs κ ps es→KVs κ' ps es
 | _,_,.nil=>.nil
 | _,_,.cons h hs=>.cons (h.mono k) (hs.mono k)
structure MapWf (es:List MapEntry) (clock:Nat):Prop where
 nd:es.Pairwise fun a b=>a.key≠b.key
 bn:es.Pairwise fun a b=>a.born≠b.born
 lt:∀ e∈es,e.born<clock
def Res.mp (mo:Option Nat) (es:List MapEntry) (clock:Nat):Res:=⟨mo,fun o=>match mo with | none=>True | some _=>o=some (.map es.toArray clock)⟩
inductive PRes where
 | mp (mo:Option Nat) (kvs:List (Value×PV)):PRes
 | mpo (b:Nat) (kvs:List (Value×PV)) (i n:Nat):PRes
 | b (b T:Nat) (cs:List PV):PRes
 | row (a:Option Addr) (n c T sz:Nat) (css:List (List PV)):PRes
 | frz (a:Option Addr) (n c:Nat) (css:List (List PV)):PRes
 | frb (b:Nat) (cs:List PV):PRes
 | raw (r:Res):PRes
def qC:Res:=⟨none,fun _=>True⟩
inductive RRel (κ:Kr):PRes→Res→Prop
 | mp {mo:Option Nat} {kvs:List (Value×PV)} {es:List MapEntry} {clock:Nat} (hn:mo=none→es=[]) (hw:MapWf es clock) (h:KVs κ kvs es):RRel κ (.mp mo kvs) (Res.mp mo es clock)
 | mpo {b i n:Nat} {kvs:List (Value×PV)} {es:List MapEntry} {clock:Nat} (hw:MapWf es clock) (h:KVs κ kvs es) (hi:(es[i]?).map (·.born)=some n):RRel κ (.mpo b kvs i n) (Res.mp (some b) es clock)
 | b {b T:Nat} {cs:List PV} {ds:List Value} (h1:One ds) (h:Rps κ cs ds):RRel κ (.b b T cs) (Res.b b T ds)
 | row {a:Option Addr} {n c T sz:Nat} {css:List (List PV)} {dss:List (List Value)} (hb:n≤140737488355328) (h1:Ones dss) (h:Rpss κ css dss):RRel κ (.row a n c T sz css) (Res.row a n c T sz dss)
 | frz {a:Option Addr} {n c sz:Nat} {css:List (List PV)} {dss:List (List Value)} (hs:Sl κ a n c sz dss) (hb:n≤140737488355328) (h1:Ones dss) (h:Rpss κ css dss):RRel κ (.frz a n c css) qC
 | frb {b:Nat} {cs:List PV} {ds:List Value} (hs:Sh κ b 0 ds) (h1:One ds) (h:Rps κ cs ds):RRel κ (.frb b cs) qC
 | raw {r:Res}:RRel κ (.raw r) r
inductive RRels (κ:Kr):List PRes→List Res→Prop
 | nil:RRels κ [] []
 | cons {p:PRes} {r:Res} {ps:List PRes} {rs:List Res} (h:RRel κ p r) (hs:RRels κ ps rs):RRels κ (p::ps) (r::rs)
section
variable {κ κ':Kr}
theorem RRel.mono {p:PRes} {r:Res} (h:RRel κ p r) (k:Kle κ κ'):RRel κ' p r:=by
 cases h with
 | mp hn hw h=>exact .mp hn hw (h.mono k)
 | mpo hw h hi=>exact .mpo hw (h.mono k) hi
 | b h1 h=>exact .b h1 (h.mono k)
 | row hb h1 h=>exact .row hb h1 (h.mono k)
 | frz hs hb h1 h=>exact .frz (hs.mono k) hb h1 (h.mono k)
 | frb hs h1 h=>exact .frb (hs.mono k) h1 (h.mono k)
 | raw=>exact .raw
theorem RRels.mono (k:Kle κ κ'):∀ {ps:List PRes} {rs:List Res},RRels κ ps rs→RRels κ' ps rs
 | _,_,.nil=>.nil
 | _,_,.cons h hs=>.cons (h.mono k) (hs.mono k)
theorem RRels.app:∀ {ps qs:List PRes} {vs ws:List Res},RRels κ ps vs→RRels κ qs ws→RRels κ (ps++qs) (vs++ws)
 | _,_,_,_,.nil,h=>h
 | _,_,_,_,.cons h hs,g=>.cons h (hs.app g)
theorem RRels.split:∀ {ps qs:List PRes} {rs:List Res},RRels κ (ps++qs) rs→∃ r1 r2,rs=r1++r2∧RRels κ ps r1∧RRels κ qs r2
 | [],_,rs,h=>⟨[],rs,rfl,.nil,h⟩
 | _::ps,_,_,.cons h hs=>by
  obtain ⟨r1,r2,rfl,h1,h2⟩:=RRels.split (ps:=ps) hs
  exact ⟨_::r1,r2,rfl,.cons h h1,h2⟩
theorem RRels.perm {ps qs:List PRes} (hp:ps.Perm qs):∀ {rs:List Res},RRels κ ps rs→∃ rs',rs.Perm rs'∧RRels κ qs rs':=by
 induction hp with
 | nil=>exact fun h=>⟨_,List.Perm.refl _,h⟩
 | cons x _ ih =>
  intro rs h;cases h with
  | cons h hs=>obtain ⟨rs',h1,h2⟩:=ih hs;exact ⟨_::rs',List.Perm.cons _ h1,.cons h h2⟩
 | swap x y l =>
  intro rs h;cases h with
  | cons h hs=>cases hs with
   | cons h' hs=>exact ⟨_,List.Perm.swap _ _ _,.cons h' (.cons h hs)⟩
 | trans _ _ ih1 ih2 =>
  intro rs h
  obtain ⟨r1,h1,h2⟩:=ih1 h
  obtain ⟨r2,h3,h4⟩:=ih2 h2
  exact ⟨r2,h1.trans h3,h4⟩
theorem RRels.mem:∀ {ps:List PRes} {rs:List Res} {p:PRes},RRels κ ps rs→p∈ps→∃ r∈rs,RRel κ p r
 | _,_,_,.cons h hs,hm=>by
  rcases List.mem_cons.1 hm with rfl | hm
  ·exact ⟨_,by simp,h⟩
  obtain ⟨r,h1,h2⟩:=hs.mem hm;exact ⟨r,by simp [h1],h2⟩
theorem RRels.nil_inv {rs:List Res} (h:RRels κ [] rs):rs=[]:=by cases h;rfl
theorem RRels.cons_inv {p:PRes} {ps:List PRes} {rs:List Res} (h:RRels κ (p::ps) rs):∃ r rs',rs=r::rs'∧RRel κ p r∧RRels κ ps rs':=by cases h;exact ⟨_,_,rfl,by assumption,by assumption⟩
end
def PPick (ρ:List PRes) (r:PRes) (l:List PRes):Prop:=ρ.Perm (r::l)
theorem aZ {r:PRes} {l:List PRes}:PPick (r::l) r l:=List.Perm.refl _
theorem aR {r s:PRes} {l l':List PRes} (h:PPick l r l'):PPick (s::l) r (s::l'):=(List.Perm.cons s h).trans (List.Perm.swap r s l')
def PSub (ρ' ρ:List PRes):Prop:=∃ l,ρ.Perm (ρ'++l)
theorem bD {ρ:List PRes}:PSub [] ρ:=⟨ρ,List.Perm.refl _⟩
theorem PSub.refl {ρ:List PRes}:PSub ρ ρ:=⟨[],by simp⟩
theorem bv {r:PRes} {ρ ρ' l:List PRes} (h:PPick ρ r l) (h':PSub ρ' l):PSub (r::ρ') ρ:=by
 obtain ⟨m,hm⟩:=h'
 exact ⟨m,h.trans (List.Perm.cons r hm)⟩
theorem RRels.pick {κ:Kr} {ps l:List PRes} {p:PRes} {rs:List Res} (h:RRels κ ps rs) (hp:PPick ps p l):∃ r l',Pick rs r l'∧RRel κ p r∧RRels κ l l':=by
 obtain ⟨rs',h1,h2⟩:=h.perm hp
 obtain ⟨r,l',rfl,h3,h4⟩:=h2.cons_inv
 exact ⟨r,l',h1,h3,h4⟩
theorem RRels.sub {κ:Kr} {ps ps':List PRes} {rs:List Res} (h:RRels κ ps rs) (hp:PSub ps' ps):∃ rs',Sub rs' rs∧RRels κ ps' rs':=by
 obtain ⟨l,hl⟩:=hp
 obtain ⟨rs',h1,h2⟩:=h.perm hl
 obtain ⟨r1,r2,rfl,h3,h4⟩:=h2.split
 exact ⟨r1,⟨r2,h1⟩,h3⟩
theorem PSub.trans {a b c:List PRes} (h:PSub a b) (k:PSub b c):PSub a c:=by
 obtain ⟨l,hl⟩:=h;obtain ⟨m,hm⟩:=k
 exact ⟨l++m,hm.trans (by rw [← List.append_assoc];exact List.Perm.append_right m hl)⟩
def PUpd (ρ:List PRes) (r r':PRes) (ρ':List PRes):Prop:=∃ l1 l2,ρ=l1++r::l2∧ρ'=l1++r'::l2
theorem cn {r r':PRes} {l:List PRes}:PUpd (r::l) r r' (r'::l):=⟨[],l,rfl,rfl⟩
theorem cA {r r' s:PRes} {l l':List PRes} (h:PUpd l r r' l'):PUpd (s::l) r r' (s::l'):=by
 obtain ⟨l1,l2,h1,h2⟩:=h
 exact ⟨s::l1,l2,by rw [h1];rfl,by rw [h2];rfl⟩
theorem RRels.upd {κ:Kr} {ps ps':List PRes} {p p':PRes} {rs:List Res} (h:RRels κ ps rs) (hu:PUpd ps p p' ps'):∃ r l1 l2,rs=l1++r::l2∧RRel κ p r∧∀ κ' r',Kle κ κ'→RRel κ' p' r'→RRels κ' ps' (l1++r'::l2):=by
 obtain ⟨m1,m2,rfl,rfl⟩:=hu
 obtain ⟨r1,r2,rfl,h1,h2⟩:=h.split
 obtain ⟨r,r3,rfl,h3,h4⟩:=h2.cons_inv
 exact ⟨r,r1,r3,rfl,h3,fun κ' r' k hr=>(h1.mono k).app (.cons hr (h4.mono k))⟩
abbrev PPost:=PEnv→List PRes→Prop
def lft (K:PPost):Post:=fun σ ρ κ=>∃ σp ρp,Sim κ σp σ∧RRels κ ρp ρ∧K σp ρp
def PWL (n:Nat) (ops:Array Oper) (l:List Oper) (K:PPost) (σp:PEnv) (ρp:List PRes):Prop :=
 ∀ β κ σ ρ,GOK κ→Sim κ σp σ→RRels κ ρp ρ→WL β n ops l (lft K) σ ρ κ
def PWC (n:Nat) (c:Code) (K:Exit→PPost) (σp:PEnv) (ρp:List PRes):Prop :=
 ∀ β κ σ ρ,GOK κ→Sim κ σp σ→RRels κ ρp ρ→WC β n c (fun e=>lft (K e)) σ ρ κ
def PWD (n:Nat) (ops:Array Oper) (K:PPost) (lo:List (Nat×Oper)) (σp:PEnv) (ρd ρs:List PRes):Prop :=
 ∀ β κ σ rd rs,GOK κ→Sim κ σp σ→RRels κ ρd rd→RRels κ ρs rs→WD β n ops (lft K) lo σ rd rs κ
def POpL (o:Oper) (σp:PEnv) (ρp:List PRes) (K:PV→List PRes→Prop):Prop :=
 ∀ κ σ ρ,GOK κ→Sim κ σp σ→RRels κ ρp ρ→OpL o σ ρ κ fun v ρ' κ'=>∃ pv ρp',Rp κ' pv v∧RRels κ' ρp' ρ'∧K pv ρp'
def POpQ (c:Bool) (o:Oper) (σp:PEnv) (ρp:List PRes) (pv:PV):Prop :=
 ∀ κ σ ρ,GOK κ→Sim κ σp σ→RRels κ ρp ρ→∃ v,(c=true→Rp κ pv v)∧OpQ c o σ ρ κ v
@[irreducible] def pgv (c:Bool) (p:PV):PV:=cond c p (.v undef)
theorem jH (p:PV):pgv true p=p:=by unfold pgv;rfl
theorem qD (p:PV):pgv false p=.v undef:=by unfold pgv;rfl
theorem sP {κ:Kr} {c:Bool} {p:PV} {v:Value} (h:c=true→Rp κ p v):Rp κ (pgv c p) (gv c v):=by
 cases c
 ·rw [qD,eZ];exact .v rfl
 rw [jH,gU];exact h rfl
def PGuardIs (ops:Array Oper) (σp:PEnv) (o:Oper) (c:Bool):Prop:=∀ κ σ,Sim κ σp σ→GuardIs ops σ o c
section
variable {ops:Array Oper} {σ:PEnv} {o:Oper} {j d:Nat} {p c:Bool}
theorem ec (h:o.guard=some (j,true)) (hd:(ops[j]?).bind (·.dst)=some d) (hs:σ d=.v (.bool p)):PGuardIs ops σ o p:=fun κ σ' hm=>jW h hd (by have:=hm d;rw [hs] at this;exact this.val)
theorem gn (h:o.guard=some (j,false)) (hd:(ops[j]?).bind (·.dst)=some d) (hs:σ d=.v (.bool p)):PGuardIs ops σ o (!p):=fun κ σ' hm=>vf h hd (by have:=hm d;rw [hs] at this;exact this.val)
theorem xJ {κ:Kr} {x w:Value} (h:Rp κ (pgv c (.v x)) w):w=gv c x:=by
 cases c
 ·rw [qD] at h;rw [eZ];exact h.val
 rw [jH] at h;rw [gU];exact h.val
theorem fx (h:o.guard=some (j,true)) (hd:(ops[j]?).bind (·.dst)=some d) (hs:σ d=pgv c (.v (.bool p))):PGuardIs ops σ o (c&&p):=fun κ σ' hm=>xf h hd (by have:=hm d;rw [hs] at this;exact xJ this)
theorem ed (h:o.guard=some (j,false)) (hd:(ops[j]?).bind (·.dst)=some d) (hs:σ d=pgv c (.v (.bool p))):PGuardIs ops σ o (c && !p):=fun κ σ' hm=>xg h hd (by have:=hm d;rw [hs] at this;exact xJ this)
end
def PEv (σ:PEnv) (c:Bool) (x:Operand) (p:PV):Prop:=c=true→bg σ x=p
theorem PEv.p {σ:PEnv} {c:Bool} {x:Operand} {v:PV} (h:bg σ x=v):PEv σ c x v:=fun _=>h
theorem PEv.g {σ:PEnv} {c:Bool} {x:Operand} {v:PV} (h:bg σ x=pgv c v):PEv σ c x v:=fun hc=>by rw [h,hc,jH]
theorem Sim.pe {κ:Kr} {σp:PEnv} {σ:Env} {c:Bool} {x:Operand} {p:PV} (h:Sim κ σp σ) (hx:PEv σp c x p):c=true→Rp κ p (SX.ev σ x):=fun hc=>by have:=h.ev x;rwa [hx hc] at this
theorem Sim.ve {κ:Kr} {σp:PEnv} {σ:Env} {c:Bool} {x:Operand} {y:Value} (h:Sim κ σp σ) (hx:PEv σp c x (.v y)):Ev σ c x y:=fun hc=>(h.pe hx hc).val
theorem Sim.v1 {κ:Kr} {σp:PEnv} {σ:Env} {x:Operand} {y:Value} (h:Sim κ σp σ) (hx:bg σp x=.v y):SX.ev σ x=y:=by have:=h.ev x;rw [hx] at this;exact this.val
theorem OpL.mono {o:Oper} {σ:Env} {ρ:List Res} {κ:Kr} {K K':Value→List Res→Kr→Prop} (h:OpL o σ ρ κ K) (hk:∀ v ρ' κ',Kle κ κ'→K v ρ' κ'→K' v ρ' κ'):OpL o σ ρ κ K' :=
 fun β hi Nx hn=>h β hi Nx fun v ρ' κ' h1 h2 h3=>hn v ρ' κ' h1 h2 (hk v ρ' κ' h2 h3)
section
variable {n:Nat} {ops:Array Oper} {o:Oper} {rest:List Oper} {K:PPost} {σ:PEnv} {ρ:List PRes} {d:Nat} {p:PV} {c:Bool}
theorem az (h:K σ ρ):PWL n ops [] K σ ρ:=fun _ _ _ _ _ hs hr=>cz ⟨σ,ρ,hs,hr,h⟩
theorem bE (hg:o.guard=none) (hd:o.dst=some d) (hlt:Nat.blt d n=true) (h:POpQ true o σ ρ p) (hw:PWL n ops rest K (eb σ d p) ρ):PWL n ops (o::rest) K σ ρ:=fun β κ σ' ρ' g hs hr=>by
 obtain ⟨v,h1,h2⟩:=h κ σ' ρ' g hs hr
 exact db hg hd hlt h2 (hw β κ _ _ g (hs.upd (h1 rfl)) hr)
theorem pwl_qg (hg:PGuardIs ops σ o c) (hd:o.dst=some d) (hlt:Nat.blt d n=true) (h:POpQ c o σ ρ p) (hw:PWL n ops rest K (eb σ d (pgv c p)) ρ):PWL n ops (o::rest) K σ ρ:=fun β κ σ' ρ' g hs hr=>by
 obtain ⟨v,h1,h2⟩:=h κ σ' ρ' g hs hr
 exact oQ (hg κ σ' hs) hd hlt h2 (hw β κ _ _ g (hs.upd (sP h1)) hr)
theorem jm (hg:o.guard=none) (hd:o.dst=some d) (hlt:Nat.blt d n=true) (h:POpL o σ ρ fun p ρ'=>PWL n ops rest K (eb σ d p) ρ'):PWL n ops (o::rest) K σ ρ:=fun β κ σ' ρ' g hs hr =>
 sq hg hd hlt ((h κ σ' ρ' g hs hr).mono fun v ρ1 κ1 hk ⟨pv,ρp,h1,h2,h3⟩=>h3 β κ1 _ _ (g.mono hk) ((hs.mono hk).upd h1) h2)
theorem aQ (hg:o.guard=none) (hd:o.dst=none) (h:POpL o σ ρ fun _ ρ'=>PWL n ops rest K σ ρ'):PWL n ops (o::rest) K σ ρ:=fun β κ σ' ρ' g hs hr =>
 vg hg hd ((h κ σ' ρ' g hs hr).mono fun v ρ1 κ1 hk ⟨pv,ρp,h1,h2,h3⟩=>h3 β κ1 _ _ (g.mono hk) (hs.mono hk) h2)
end
def PCall (f:Nat) (pargs:List PV) (ρp:List PRes) (R:PV→List PRes→Prop):Prop :=
 ∀ κ args ρ,GOK κ→Rps κ pargs args→RRels κ ρp ρ→Call f args ρ κ fun v ρ' κ'=>∃ pv ρp',Rp κ' pv v∧RRels κ' ρp' ρ'∧R pv ρp'
def PF (f:Nat) (pargs:List PV) (r:PV):Prop:=∀ κ args,GOK κ→Rps κ pargs args→CallP f args κ fun v κ'=>Rp κ' r v
theorem bi {f:Nat} {pargs:List PV} {r:PV} (h:PCall f pargs [] fun pv ρ=>pv=r∧ρ=[]):PF f pargs r:=fun κ args g ha =>
 Call.mono (h κ args [] g ha .nil) fun v ρ' κ' _ ⟨pv,ρp',h1,h2,h3,h4⟩=>by subst h3;subst h4;exact ⟨h2.nil_inv,h1⟩
def PFV (pf:PV) (pargs:List PV) (r:PV):Prop:=∀ κ fv args,GOK κ→Rp κ pf fv→Rps κ pargs args→∃ f first cap,fv=.func (.func f) (List.toArray first) (List.toArray cap)∧CallP f (first++args++cap) κ fun v κ'=>Rp κ' r v
theorem kE {f:Nat} {caps pargs:List PV} {r:PV} (h:PF f (pargs++caps) r):PFV (.fn f caps) pargs r:=fun κ fv args g hf ha=>by
 cases hf with
 | fn hc=>exact ⟨f,[],_,rfl,h κ _ g (ha.app hc)⟩
section
variable {n:Nat} {ops:Array Oper} {o:Oper} {rest:List Oper} {K:PPost} {σ:PEnv} {ρ:List PRes} {d f:Nat} {c:Bool} {l:List Operand} {ts:Array Nat} {pargs:List PV} {r:PV} {x:Operand} {KV:PV→List PRes→Prop}
theorem pl_call (ho:o.op=.call { callee:=.value (.func f),args:=l.toArray,argTypes:=ts }) (ha:l.map (bg σ)=pargs) (hc:PF f pargs r) (h:KV r ρ):POpL o σ ρ KV:=fun κ σ' ρ' g hs hr =>
 iV ho rfl (hc κ _ g (by rw [← ha];exact gm hs l)) fun v κ' hk hv=>⟨r,ρ,hv,hr.mono hk,h⟩
theorem aV {R:PV→List PRes→Prop} {ρ1 ρ2:List PRes} (ho:o.op=.call { callee:=.value (.func f),args:=l.toArray,argTypes:=ts }) (ha:l.map (bg σ)=pargs) (hp:ρ.Perm (ρ1++ρ2)) (hc:PCall f pargs ρ1 R) (h:∀ pv ρ',R pv ρ'→KV pv (ρ'++ρ2)):POpL o σ ρ KV:=fun κ σ' ρ' g hs hr=>by
 obtain ⟨rs,h1,h2⟩:=hr.perm hp
 obtain ⟨r1,r2,rfl,h3,h4⟩:=h2.split
 exact vk ho rfl h1 (hc κ _ r1 g (by rw [← ha];exact gm hs l) h3) fun v ρ'' κ' hk ⟨pv,ρp,g1,g2,g3⟩=>⟨pv,ρp++ρ2,g1,g2.app (h4.mono hk),h pv ρp g3⟩
end
def ee (n:Nat) (y:Code) (K:Exit→PPost):Exit→PPost:=fun e σ ρ=>match e with | .normal=>PWC n y K σ ρ | e=>K e σ ρ
def eu (id:Nat) (K:Exit→PPost):Exit→PPost:=fun e σ ρ=>match e with | .exit id'=>cond (Nat.beq id' id) (K .normal σ ρ) (K (.exit id') σ ρ) | e=>K e σ ρ
section
variable {n:Nat} {x y:Code} {K:Exit→PPost} {σ:PEnv} {ρ:List PRes}
theorem sQ {K':Exit→PPost} (h:PWC n x K σ ρ) (hk:∀ e σ ρ,K e σ ρ→K' e σ ρ):PWC n x K' σ ρ:=fun β κ σ' ρ' g hs hr =>
 ld (h β κ σ' ρ' g hs hr) fun e _ _ _ _ ⟨σp,ρp,h1,h2,h3⟩=>⟨σp,ρp,h1,h2,hk e _ _ h3⟩
theorem af (h:PWC n x (ee n y K) σ ρ):PWC n (.seq x y) K σ ρ:=fun β κ σ' ρ' g hs hr =>
 cK (ld (h β κ σ' ρ' g hs hr) fun e σ1 ρ1 κ1 hk ⟨σp,ρp,h1,h2,h3⟩=>by
  cases e with
  | normal=>exact h3 β κ1 σ1 ρ1 (g.mono hk) h1 h2
  | _=>exact ⟨σp,ρp,h1,h2,h3⟩)
theorem ag (h:K .normal σ ρ):PWC n .skip K σ ρ:=fun _ _ _ _ _ hs hr=>gg ⟨σ,ρ,hs,hr,h⟩
theorem cu (h:K .ret σ ρ):PWC n .ret K σ ρ:=fun _ _ _ _ _ hs hr=>iU ⟨σ,ρ,hs,hr,h⟩
theorem ba {id:Nat} (h:K (.exit id) σ ρ):PWC n (.exit id) K σ ρ:=fun _ _ _ _ _ hs hr=>jX ⟨σ,ρ,hs,hr,h⟩
theorem an {id:Nat} (h:PWC n x (eu id K) σ ρ):PWC n (.block id x) K σ ρ:=fun β κ σ' ρ' g hs hr =>
 gh (ld (h β κ σ' ρ' g hs hr) fun e σ1 ρ1 κ1 hk ⟨σp,ρp,h1,h2,h3⟩=>by
  cases e with
  | exit id' =>
   simp only [eu] at h3
   simp only [ii]
   cases hb:Nat.beq id' id
   ·rw [hb] at h3;exact ⟨σp,ρp,h1,h2,h3⟩
   ·rw [hb] at h3;exact ⟨σp,ρp,h1,h2,h3⟩
  | _=>exact ⟨σp,ρp,h1,h2,h3⟩)
theorem fE {c:Operand} {p:Bool} (hc:bg σ c=.v (.bool p)) (ht:p=true→PWC n x K σ ρ) (hf:p=false→PWC n y K σ ρ):PWC n (.cond c x y) K σ ρ:=fun β κ σ' ρ' g hs hr =>
 iC (hs.v1 hc) (fun h=>ht h β κ σ' ρ' g hs hr) (fun h=>hf h β κ σ' ρ' g hs hr)
theorem ae {id:Nat} {l:List Oper} (h:PWL n l.toArray l (K .normal) σ ρ):PWC n (.region id l.toArray false) K σ ρ:=fun β κ σ' ρ' g hs hr=>bh (h β κ σ' ρ' g hs hr)
theorem bH {id:Nat} {l:List Oper} {ρd:List PRes} (ord:List (Nat×Nat)) {lo:List (Nat×Oper)} (ρs:List PRes) (hp:ρ.Perm (ρd++ρs)) (hok:xx n l ord=true) (hl:j6 l ord=some lo) (h:PWD n l.toArray (K .normal) lo σ ρd ρs):PWC n (.region id l.toArray true) K σ ρ:=fun β κ σ' ρ' g hs hr=>by
 obtain ⟨rs',h1,h2⟩:=hr.perm hp
 obtain ⟨r1,r2,rfl,h3,h4⟩:=h2.split
 exact wc_draw ord r2 h1 hok hl fun κ1 hk=>h β κ1 σ' r1 r2 (g.mono hk) (hs.mono hk) (h3.mono hk) (h4.mono hk)
theorem lh {ρ':List PRes} (hs:PSub ρ' ρ) (h:PWC n x K σ ρ'):PWC n x K σ ρ:=fun β κ σ' r g hm hr=>by
 obtain ⟨r',h1,h2⟩:=hr.sub hs
 exact xy h1 (h β κ σ' r' g hm h2)
def PHolds (σ:PEnv):List (Nat×PV)→Prop
 | []=>True
 | (d,v)::l=>σ d=v∧PHolds σ l
theorem lw:PHolds σ []:=trivial
theorem dK {d:Nat} {v:PV} {l:List (Nat×PV)} (h:σ d=v) (h':PHolds σ l):PHolds σ ((d,v)::l):=⟨h,h'⟩
theorem j9:∀ {L:List (Nat×PV)},PHolds σ L→aF σ L=σ
 | [],_=>rfl
 | (d,v)::l,⟨h1,h2⟩=>by rw [aF,j9 h2,wk h1]
variable {Y S T:Type}
def Cov (σ:PEnv) (ρ:List PRes) (σ':PEnv) (ρ':List PRes):Prop:=∀ n y K,PWC n y K σ' ρ'→PWC n y K σ ρ
def jI (L:Y→List (Nat×PV)) (R:Y→List PRes) (J:Y→Prop) (K:Exit→PPost):Exit→PPost:=fun e σ ρ=>match e with
 | .normal=>∃ z σ' ρ',Cov σ ρ σ' ρ'∧PHolds σ' (L z)∧PSub (R z) ρ'∧J z
 | e=>K e σ ρ
def kF (L:Y→List (Nat×PV)) (R:Y→List PRes) (J:Y→Prop) (K:Exit→PPost):Exit→PPost:=fun e σ ρ=>match e with
 | .normal=>∃ z,PHolds σ (L z)∧PSub (R z) ρ∧J z
 | e=>K e σ ρ
theorem av (L:Y→List (Nat×PV)) (R:Y→List PRes) (J:Y→Prop) (h:PWC n x (jI L R J K) σ ρ) (h2:∀ z τ,J z→PWC n y K (aF τ (L z)) (R z)):PWC n x (ee n y K) σ ρ :=
 sQ h fun e σ' ρ' g=>by
  cases e with
  | normal =>
   obtain ⟨z,σ1,ρ1,hc,h3,h4,h5⟩:=g
   exact hc _ _ _ (lh h4 (by have:=h2 z σ1 h5;rwa [j9 h3] at this))
  | _=>exact g
theorem hI (L:Y→List (Nat×PV)) (R:Y→List PRes) (J:Y→Prop) (h:PWC n x (kF L R J K) σ ρ) (h2:∀ z τ ρ',PSub (R z) ρ'→J z→K .normal (aF τ (L z)) ρ'):PWC n x K σ ρ :=
 sQ h fun e σ' ρ' g=>by
  cases e with
  | normal =>
   obtain ⟨z,h3,h4,h5⟩:=g
   have:=h2 z σ' ρ' h4 h5;rwa [j9 h3] at this
  | _=>exact g
theorem au {L:Y→List (Nat×PV)} {R:Y→List PRes} {J:Y→Prop} (z:Y) (h1:PHolds σ (L z)) (h2:PSub (R z) ρ) (h3:J z):jI L R J K .normal σ ρ:=⟨z,σ,ρ,fun _ _ _ h=>h,h1,h2,h3⟩
theorem dM {L:Y→List (Nat×PV)} {R:Y→List PRes} {J:Y→Prop} (z:Y) (h1:PHolds σ (L z)) (h2:PSub (R z) ρ) (h3:J z):kF L R J K .normal σ ρ:=⟨z,h1,h2,h3⟩
theorem fN {L:Y→List (Nat×PV)} {R:Y→List PRes} {J:Y→Prop} {σ1:PEnv} {ρ1:List PRes} (hc:Cov σ ρ σ1 ρ1) (h:jI L R J K .normal σ1 ρ1):jI L R J K .normal σ ρ:=by
 obtain ⟨z,σ2,ρ2,g1,g2⟩:=h
 exact ⟨z,σ2,ρ2,fun n y K k=>hc n y K (g1 n y K k),g2⟩
theorem bt {L:Y→List (Nat×PV)} {R:Y→List PRes} {J:Y→Prop} (h:K .ret σ ρ):jI L R J K .ret σ ρ:=h
theorem kG {L:Y→List (Nat×PV)} {R:Y→List PRes} {J:Y→Prop} {id:Nat} (h:K (.exit id) σ ρ):jI L R J K (.exit id) σ ρ:=h
theorem o7 {L:Y→List (Nat×PV)} {R:Y→List PRes} {J:Y→Prop} (h:K .ret σ ρ):kF L R J K .ret σ ρ:=h
theorem kH {L:Y→List (Nat×PV)} {R:Y→List PRes} {J:Y→Prop} {id:Nat} (h:K (.exit id) σ ρ):kF L R J K (.exit id) σ ρ:=h
theorem aH (h:PWC n y K σ ρ):ee n y K .normal σ ρ:=h
theorem aP (h:K .ret σ ρ):ee n y K .ret σ ρ:=h
theorem aI {id:Nat} (h:K (.exit id) σ ρ):ee n y K (.exit id) σ ρ:=h
theorem aj {id:Nat} (h:K .normal σ ρ):eu id K .normal σ ρ:=h
theorem aw {id:Nat} (h:K .ret σ ρ):eu id K .ret σ ρ:=h
theorem aG {id id':Nat} (he:Nat.beq id' id=true) (h:K .normal σ ρ):eu id K (.exit id') σ ρ:=by simp only [eu,he];exact h
theorem hQ {id id':Nat} (he:Nat.beq id' id=false) (h:K (.exit id') σ ρ):eu id K (.exit id') σ ρ:=by simp only [eu,he];exact h
end
def bk {S T:Type} (body:S→Option (S⊕T)) (N:Nat):S→Option T :=
 Nat.rec (motive:=fun _=>S→Option T) (fun _=>none) (fun _ ih s=>match body s with | none=>none | some (.inl s')=>ih s' | some (.inr t)=>some t) N
theorem gJ {S T:Type} (body:S→Option (S⊕T)) (N:Nat) (s:S):bk body (N+1) s=match body s with | none=>none | some (.inl s')=>bk body N s' | some (.inr t)=>some t:=rfl
def FUEL:Nat:=1267650600228229401496703205376
section
variable {n:Nat} {x:Code} {K:Exit→PPost} {σ:PEnv} {ρ:List PRes} {Y S T:Type}
def iY (L:Y→S→List (Nat×PV)) (R:Y→S→List PRes) (t:T) (o:S⊕T) (K:Exit→PPost):Exit→PPost:=fun e σ ρ=>match e with
 | .normal=>∃ y s σ' ρ',Cov σ ρ σ' ρ'∧o=.inl s∧PHolds σ' (L y s)∧PSub (R y s) ρ'
 | e=>∃ t',o=.inr t'∧(t'=t→K e σ ρ)
theorem bm {L:Y→S→List (Nat×PV)} {R:Y→S→List PRes} {t:T} {o:S⊕T} {s:S} (h:some (Sum.inl s)=some o) (y:Y) (h1:PHolds σ (L y s)) (h2:PSub (R y s) ρ):iY L R t o K .normal σ ρ:=⟨y,s,σ,ρ,fun _ _ _ h=>h,(Option.some.inj h).symm,h1,h2⟩
theorem bp {L:Y→S→List (Nat×PV)} {R:Y→S→List PRes} {t t':T} {o:S⊕T} (h:some (Sum.inr t')=some o) (hk:t'=t→K .ret σ ρ):iY L R t o K .ret σ ρ:=⟨t',(Option.some.inj h).symm,hk⟩
theorem aB {L:Y→S→List (Nat×PV)} {R:Y→S→List PRes} {t t':T} {o:S⊕T} {id:Nat} (h:some (Sum.inr t')=some o) (hk:t'=t→K (.exit id) σ ρ):iY L R t o K (.exit id) σ ρ:=⟨t',(Option.some.inj h).symm,hk⟩
theorem aY (body:S→Option (S⊕T)) {N:Nat} {t:T} {s0:S} (h0:bk body N s0=some t) (L:Y→S→List (Nat×PV)) (R:Y→S→List PRes) (y0:Y) (h1:PHolds σ (L y0 s0)) (h2:PSub (R y0 s0) ρ)
    (round:∀ y s o τ,body s=some o→PWC n x (iY L R t o K) (aF τ (L y s)) (R y s)):PWC n (.loop x) K σ ρ:=fun β κ σ' ρ' g hs hr =>
  vh (fun (z:Nat) σ1 ρ1 κ1=>∃ y s σp ρp σq ρq,bk body z s=some t∧GOK κ1∧Sim κ1 σp σ1∧RRels κ1 ρp ρ1∧Cov σp ρp σq ρq∧PHolds σq (L y s)∧PSub (R y s) ρq) id N ⟨y0,s0,σ,ρ,σ,ρ,h0,g,hs,hr,fun _ _ _ h=>h,h1,h2⟩ fun z σ1 ρ1 κ1 _ ⟨y,s,σp,ρp,σq,ρq,k1,k2,k3,k4,kc,k5,k6⟩=>by
    cases z with
    | zero=>cases k1
    | succ z =>
      rw [gJ] at k1
      cases hb:body s with
      | none=>rw [hb] at k1;cases k1
      | some o =>
        rw [hb] at k1
        have hrd:=kc _ _ _ (lh k6 (by have:=round y s o σq hb;rwa [j9 k5] at this)) β κ1 σ1 ρ1 k2 k3 k4
        refine ld hrd fun e σ2 ρ2 κ2 hk ⟨σp2,ρp2,m1,m2,m3⟩=>?_
        cases e with
        | normal =>
          obtain ⟨y',s',σ3,ρ3,mc,rfl,m4,m5⟩:=m3
          exact ⟨z,⟨y',s',σp2,ρp2,σ3,ρ3,k1,k2.mono hk,m1,m2,mc,m4,m5⟩,Nat.lt_succ_self z⟩
        | _ =>
          obtain ⟨t',rfl,m3⟩:=m3
          simp only [da] at k1
          exact ⟨σp2,ρp2,m1,m2,m3 k1⟩
end
def PRV1 (rv:ResultVar) (σ:PEnv) (ρ:List PRes) (p:PV):Prop:=match rv with
 | .tmp t=>σ t=p
 | .cell t T=>∃ b off Tb cs,σ t=.v (.pointer (some ⟨b,off,none⟩))∧PRes.b b Tb cs∈ρ∧gj T (cs.drop off)=some p
def PRV (rs:List ResultVar) (σ:PEnv) (ρ:List PRes) (p:PV):Prop:=match rs with
 | []=>p=.tup []
 | [r]=>PRV1 r σ ρ p
 | [r,s]=>∃ v1 v2,PRV1 r σ ρ v1∧PRV1 s σ ρ v2∧p=.tup [v1,v2]
 | [r,s,t]=>∃ v1 v2 v3,PRV1 r σ ρ v1∧PRV1 s σ ρ v2∧PRV1 t σ ρ v3∧p=.tup [v1,v2,v3]
 | _=>False
theorem aK {t:Nat} {σ:PEnv} {ρ:List PRes} {p:PV} (h:σ t=p):PRV1 (.tmp t) σ ρ p:=h
theorem dh {t T b off Tb:Nat} {σ:PEnv} {ρ:List PRes} {cs:List PV} {p:PV} (h1:σ t=.v (.pointer (some ⟨b,off,none⟩))) (h2:PRes.b b Tb cs∈ρ) (h3:gj T (cs.drop off)=some p):PRV1 (.cell t T) σ ρ p:=⟨b,off,Tb,cs,h1,h2,h3⟩
theorem gp {r:ResultVar} {σ:PEnv} {ρ:List PRes} {p:PV} (h:PRV1 r σ ρ p):PRV [r] σ ρ p:=h
theorem bR {r s:ResultVar} {σ:PEnv} {ρ:List PRes} {p q:PV} (h:PRV1 r σ ρ p) (h2:PRV1 s σ ρ q):PRV [r,s] σ ρ (.tup [p,q]):=⟨p,q,h,h2,rfl⟩
theorem prv_3 {r s t:ResultVar} {σ:PEnv} {ρ:List PRes} {p q w:PV} (h:PRV1 r σ ρ p) (h2:PRV1 s σ ρ q) (h3:PRV1 t σ ρ w):PRV [r,s,t] σ ρ (.tup [p,q,w]):=⟨p,q,w,h,h2,h3,rfl⟩
section
variable {κ:Kr} {σ:PEnv} {σ':Env} {ρ:List PRes} {ρ':List Res}
theorem wl {rv:ResultVar} {p:PV} (hs:Sim κ σ σ') (hr:RRels κ ρ ρ') (h:PRV1 rv σ ρ p):∃ v,RV1 rv σ' ρ' v∧Rp κ p v:=by
 cases rv with
 | tmp t=>exact ⟨σ' t,rfl,by have:=hs t;rwa [show σ t=p from h] at this⟩
 | cell t T =>
  obtain ⟨b,off,Tb,cs,h1,h2,h3⟩:=h
  obtain ⟨r,hm,hrel⟩:=hr.mem h2
  cases hrel with
  | b ho hcs =>
   obtain ⟨v,h4,h5⟩:=sN (hcs.drop off) (fun u hu=>ho u (List.mem_of_mem_drop hu)) h3
   exact ⟨v,RV1.cell (by have:=hs t;rw [h1] at this;exact this.val) hm h4,h5⟩
theorem prv {rs:List ResultVar} {p:PV} (hs:Sim κ σ σ') (hr:RRels κ ρ ρ') (h:PRV rs σ ρ p):∃ v,RV rs σ' ρ' v∧Rp κ p v:=by
 match rs,h with
 | [],h=>simp only [PRV] at h;subst h;exact ⟨_,rfl,.tup (ws:=[]) .nil⟩
 | [r],h=>exact wl hs hr h
 | [r,s],⟨v1,v2,h1,h2,h3⟩ =>
  obtain ⟨w1,a1,b1⟩:=wl hs hr h1
  obtain ⟨w2,a2,b2⟩:=wl hs hr h2
  subst h3;exact ⟨_,⟨w1,w2,a1,a2,rfl⟩,.tup (ws:=[w1,w2]) (.cons b1 (.cons b2 .nil))⟩
 | [r,s,t],⟨v1,v2,v3,h1,h2,h3,h4⟩ =>
  obtain ⟨w1,a1,b1⟩:=wl hs hr h1
  obtain ⟨w2,a2,b2⟩:=wl hs hr h2
  obtain ⟨w3,a3,b3⟩:=wl hs hr h3
  subst h4;exact ⟨_,⟨w1,w2,w3,a1,a2,a3,rfl⟩,.tup (ws:=[w1,w2,w3]) (.cons b1 (.cons b2 (.cons b3 .nil)))⟩
end
def jn (rs:List ResultVar) (R:PV→List PRes→Prop):Exit→PPost:=fun e σ ρ=>match e with
 | .ret | .normal=>∃ p ρ',PRV rs σ ρ p∧PSub ρ' ρ∧R p ρ'
 | _=>False
theorem aM {rs:List ResultVar} {R:PV→List PRes→Prop} {σ:PEnv} {ρ ρ':List PRes} {p:PV} (hv:PRV rs σ ρ p) (hs:PSub ρ' ρ) (h:R p ρ'):jn rs R .ret σ ρ:=⟨p,ρ',hv,hs,h⟩
theorem kI {rs:List ResultVar} {R:PV→List PRes→Prop} {σ:PEnv} {ρ ρ':List PRes} {p:PV} (hv:PRV rs σ ρ p) (hs:PSub ρ' ρ) (h:R p ρ'):jn rs R .normal σ ρ:=⟨p,ρ',hv,hs,h⟩
theorem penter {f n:Nat} {fn:Func} {c:Code} {pargs:List PV} {rs:List ResultVar} {ρp:List PRes} {R:PV→List PRes→Prop} (hf:Tryz.prog.funcs[f]?=some fn) (hok:FnOk f) (hb:fn.body=some c) (hn:fn.ntmps=n) (hres:fn.results=rs.toArray) (hsz:Nat.ble pargs.length n=true)
    (h:PWC n c (jn rs R) (sO pargs) ρp):PCall f pargs ρp R:=fun κ args ρ g ha hr =>
  j5 hf hok hb hn hres (by rw [← ha.len];exact hsz) (ld (h _ κ _ ρ g (sim0 ha) hr) fun e σ1 ρ1 κ1 hk ⟨σp,ρ2,h1,h2,h3⟩=>by
    have key:(∃ p ρ',PRV rs σp ρ2 p∧PSub ρ' ρ2∧R p ρ')→∀ β,Zi β ρ1 κ1→∃ v ρ' κ',RV rs σ1 ρ1 v∧Shift ρ1 κ1 ρ' κ'∧∃ pv ρp',Rp κ' pv v∧RRels κ' ρp' ρ'∧R pv ρp':=fun ⟨p,ρ',k1,k2,k3⟩ _ _=>by
      obtain ⟨v,j1,j2⟩:=prv h1 h2 k1
      obtain ⟨r',j3,j4⟩:=h2.sub k2
      exact ⟨v,r',κ1,j1,.sub j3,p,ρ',j2,j4,k3⟩
    cases e with
    | ret=>exact key h3
    | normal=>exact key h3
    | _=>exact h3.elim)
theorem Zi.nores {β:Base} {ρ:List Res} {κ:Kr} (h:Zi β ρ κ):Zi β (qC::ρ) κ :=
 ⟨h.le,h.fin,fun r hr=>by rcases List.mem_cons.1 hr with rfl | hr;exact trivial;exact h.own r hr,fun r hr=>by rcases List.mem_cons.1 hr with rfl | hr;(intro b hb;cases hb);exact h.blk r hr,List.Pairwise.cons (fun _ _ b hb=>by cases hb) h.nd⟩
theorem xK {β:Base} {n:Nat} {x:Code} {K:Exit→Post} {σ:Env} {ρ:List Res} {κ:Kr} (h:WC β n x K σ (qC::ρ) κ):WC β n x K σ ρ κ:=fun hi=>h hi.nores
theorem sR {β:Base} {n:Nat} {ops:Array Oper} {lo:List Oper} {K:Post} {σ:Env} {ρ:List Res} {κ:Kr} (h:WL β n ops lo K σ (qC::ρ) κ):WL β n ops lo K σ ρ κ:=fun hi=>h hi.nores
theorem wm {β:Base} {n:Nat} {ops:Array Oper} {lo:List Oper} {K:Post} {σ:Env} {ρ:List Res} {κ:Kr} (T sz:Nat) (h:WL β n ops lo K σ (Res.row none 0 0 T sz []::ρ) κ):WL β n ops lo K σ ρ κ:=fun hi=>h (hi.nilrow T sz)
section
variable {n:Nat} {x:Code} {K:Exit→PPost} {KL:PPost} {σ:PEnv} {ρ l:List PRes} {ops:Array Oper} {lo:List Oper} {a:Option Addr} {m c T sz t b k:Nat} {css:List (List PV)} {cs:List PV} {α:Type} {enc:α→List PV} {xs:List α}
theorem pwc_frz (hp:PPick ρ (.row a m c T sz css) l) (h:PWC n x K σ (.frz a m c css::l)):PWC n x K σ ρ:=fun β κ σ' ρ' g hs hr=>by
 obtain ⟨r,l',h1,h2,h3⟩:=hr.pick hp
 cases h2 with
 | row hb ho hc=>exact wf h1 fun κ' hk hsl=>xK (h β κ' σ' _ (g.mono hk) (hs.mono hk) (.cons (.frz hsl hb ho (hc.mono hk)) (h3.mono hk)))
theorem mA (hp:PPick ρ (.row a m c T sz css) l) (h:PWL n ops lo KL σ (.frz a m c css::l)):PWL n ops lo KL σ ρ:=fun β κ σ' ρ' g hs hr=>by
 obtain ⟨r,l',h1,h2,h3⟩:=hr.pick hp
 cases h2 with
 | row hb ho hc=>exact wh h1 fun κ' hk hsl=>sR (h β κ' σ' _ (g.mono hk) (hs.mono hk) (.cons (.frz hsl hb ho (hc.mono hk)) (h3.mono hk)))
theorem kJ {κ:Kr} {σ':Env} {p:PV} (hs:Sim κ σ σ') (h:Rp κ p (σ' t)):Sim κ (eb σ t p) σ':=fun u=>by
 unfold eb;cases e:Nat.beq u t
 ·exact hs u
 rw [Nat.eq_of_beq_eq_true e];exact h
theorem uw {κ:Kr} {r:Res} {w:Value} (h:RRel κ (.frz a m c (xs.map enc)) r) (hw:w=.slice a m c):Rp κ (.slc xs.length (xs.map enc)) w:=by
 subst hw
 generalize hcs:xs.map enc=css at h
 cases h with
 | frz hs hb h1 hc =>
  have e1:=hc.len;have e2:=hs.len
  have e3:xs.length=m:=by rw [← hcs,List.length_map] at e1;omega
  rw [e3];exact .slc hs hb h1 hc
theorem frb_rp {κ:Kr} {r:Res} {w:Value} (h:RRel κ (.frb b cs) r) (hw:w=.pointer (some ⟨b,k,none⟩)):Rp κ (.ref cs k) w:=by
 subst hw;cases h with
 | frb hs h1 hc=>have:=Rp.ref (k:=k) hs h1 hc;rwa [Nat.zero_add] at this
theorem sS (t:Nat) (ht:σ t=.v (.slice a m c)) (hm:PRes.frz a m c (xs.map enc)∈ρ) (h:PWC n x K (eb σ t (.slc xs.length (xs.map enc))) ρ):PWC n x K σ ρ:=fun β κ σ' ρ' g hs hr=>by
 obtain ⟨r,_,h2⟩:=hr.mem hm
 exact h β κ σ' ρ' g (kJ hs (uw h2 (by have:=hs t;rw [ht] at this;exact this.val))) hr
theorem sT (t:Nat) (ht:σ t=.v (.slice a m c)) (hm:PRes.frz a m c (xs.map enc)∈ρ) (h:PWL n ops lo KL (eb σ t (.slc xs.length (xs.map enc))) ρ):PWL n ops lo KL σ ρ:=fun β κ σ' ρ' g hs hr=>by
 obtain ⟨r,_,h2⟩:=hr.mem hm
 exact h β κ σ' ρ' g (kJ hs (uw h2 (by have:=hs t;rw [ht] at this;exact this.val))) hr
theorem e8 (t:Nat) (ht:σ t=.v (.slice a m c)) (hp:PPick ρ (.row a m c T sz (xs.map enc)) l) (h:PWC n x K (eb σ t (.slc xs.length (xs.map enc))) (.frz a m c (xs.map enc)::l)):PWC n x K σ ρ:=pwc_frz hp (sS t ht (List.Mem.head _) h)
theorem kK (t:Nat) (ht:σ t=.v (.slice a m c)) (hp:PPick ρ (.row a m c T sz (xs.map enc)) l) (h:PWL n ops lo KL (eb σ t (.slc xs.length (xs.map enc))) (.frz a m c (xs.map enc)::l)):PWL n ops lo KL σ ρ:=mA hp (sT t ht (List.Mem.head _) h)
theorem rt {κ:Kr}:Rp κ (.slc 0 []) (.slice none 0 0):=.slc (sz:=0) Sl.nil (by omega) (fun _ h=>by cases h) .nil
theorem mB (t:Nat) (ht:σ t=.v (.slice none 0 0)) (h:PWC n x K (eb σ t (.slc 0 [])) ρ):PWC n x K σ ρ:=fun β κ σ' ρ' g hs hr=>h β κ σ' ρ' g (kJ hs (by have:=hs t;rw [ht] at this;rw [this.val];exact rt)) hr
theorem dn (T sz:Nat) (h:PWC n x K σ (.row none 0 0 T sz []::ρ)):PWC n x K σ ρ:=fun β κ σ' ρ' g hs hr=>wa T sz (h β κ σ' _ g hs (.cons (.row (by omega) (fun _ h=>by cases h) .nil) hr))
theorem ux (T sz:Nat) (h:PWL n ops lo KL σ (.row none 0 0 T sz []::ρ)):PWL n ops lo KL σ ρ:=fun β κ σ' ρ' g hs hr=>wm T sz (h β κ σ' _ g hs (.cons (.row (by omega) (fun _ h=>by cases h) .nil) hr))
theorem lm {ρ':List PRes} (hk:cs[k]?=some (.v (.slice a m c))) (hm:PRes.frz a m c (xs.map enc)∈ρ) (hu:PUpd ρ (.b b T cs) (.b b T (cs.set k (.slc xs.length (xs.map enc)))) ρ') (h:PWL n ops lo KL σ ρ'):PWL n ops lo KL σ ρ:=fun β κ σ' r g hs hr=>by
 obtain ⟨rf,_,h2⟩:=hr.mem hm
 obtain ⟨r0,l1,l2,rfl,h3,h4⟩:=hr.upd hu
 cases h3 with
 | b ho hc =>
  obtain ⟨v,hv,hp⟩:=hc.get hk
  have e:=hp.val
  have hset:=hc.set (k:=k) (uw h2 e)
  have:∀ (l:List Value) (k:Nat) (v:Value),l[k]?=some v→l.set k v=l:=fun l k v h=>by
   apply List.ext_getElem?;intro i;rw [List.getElem?_set];split
   ·rename_i hik;subst hik;rw [h];have:=(List.getElem?_eq_some_iff.1 h).1;simp [this]
   rfl
  rw [this _ _ _ hv] at hset
  exact h β κ σ' _ g hs (h4 κ _ (.refl _) (.b ho hset))
theorem ru (t:Nat) (ht:σ t=.v (.pointer (some ⟨b,k,none⟩))) (hp:PPick ρ (.b b T cs) l) (h:PWL n ops lo KL (eb σ t (.ref cs k)) (.frb b cs::l)):PWL n ops lo KL σ ρ:=fun β κ σ' ρ' g hs hr=>by
  obtain ⟨r,l',h1,h2,h3⟩:=hr.pick hp
  cases h2 with
  | b ho hc=>exact wl_pub h1 rfl fun κ' hk hS hsay=>sR (by
      have hfr:RRel κ' (.frb b cs) qC:=.frb (xF hS hsay) ho (hc.mono hk)
      exact h β κ' σ' _ (g.mono hk) (kJ (hs.mono hk) (frb_rp hfr (by have:=hs t;rw [ht] at this;exact this.val))) (.cons hfr (h3.mono hk)))
end
theorem uy {p:PV} {o:Oper} {κ:Kr} {σ':Env} {ρ':List Res}:∃ v,(false=true→Rp κ p v)∧OpQ false o σ' ρ' κ v:=⟨undef,fun h=>(by cases h),fun h=>(by cases h)⟩
section
variable {o:Oper} {σ:PEnv} {ρ:List PRes} {c:Bool} {x y y2:Operand}
theorem bC {p:PV} (ho:o.op=.move x) (hx:PEv σ c x p):POpQ c o σ ρ p:=fun κ σ' ρ' g hs hr=>⟨_,hs.pe hx,bw ho (.p rfl)⟩
theorem bc {p:PV} (ho:o.op=.assign x) (hx:PEv σ c x p):POpQ c o σ ρ p:=fun κ σ' ρ' g hs hr=>⟨_,hs.pe hx,bJ ho (.p rfl)⟩
theorem vo {cc a b:Operand} {p q:Bool} (ho:o.op=.pick cc a b) (h1:PEv σ c cc (.v (.bool p))) (h2:PEv σ c a (.v (.bool true))) (h3:PEv σ (c && !p) b (.v (.bool q))):POpQ c o σ ρ (.v (.bool (p||q))):=fun κ σ' ρ' g hs hr=>⟨_,fun _=>.v rfl,oq_or ho (hs.ve h1) (hs.ve h2) (hs.ve h3)⟩
theorem rx {cc a b:Operand} {p q:Bool} (ho:o.op=.pick cc a b) (h1:PEv σ c cc (.v (.bool p))) (h2:PEv σ c b (.v (.bool false))) (h3:PEv σ (c&&p) a (.v (.bool q))):POpQ c o σ ρ (.v (.bool (p&&q))):=fun κ σ' ρ' g hs hr=>⟨_,fun _=>.v rfl,un ho (hs.ve h1) (hs.ve h2) (hs.ve h3)⟩
variable {t t':Nat} {k:IntKind} {a b:Int}
theorem lO {op:BinOp} {r:Bool} (ho:o.op=.binOp op t x y t') (hx:PEv σ c x (.v (.int k a))) (hy:PEv σ c y (.v (.int k b)))
    (hr:(match op with | .eql=>some (a == b) | .neq=>some (a != b) | .lss=>some (decide (a<b)) | .leq=>some (decide (a≤b)) | .gtr=>some (decide (b<a)) | .geq=>some (decide (b≤a)) | _=>none)=some r):POpQ c o σ ρ (.v (.bool r)):=fun κ σ' ρ' g hs _=>⟨_,fun _=>.v rfl,jY ho (hs.ve hx) (hs.ve hy) hr⟩
theorem dw {op:BinOp} {r:Int} (ho:o.op=.binOp op t x y t') (hx:PEv σ c x (.v (.int k a))) (hy:PEv σ c y (.v (.int k b)))
    (hr:(match op with | .add=>some (a+b) | .sub=>some (a - b) | .mul=>some (a*b) | _=>none)=some r):POpQ c o σ ρ (.v (.int k (k.wrap r))):=fun κ σ' ρ' g hs _=>⟨_,fun _=>.v rfl,sr ho (hs.ve hx) (hs.ve hy) hr⟩
theorem xL (ho:o.op=.binOp .quo t x y t') (hx:PEv σ c x (.v (.int k a))) (hy:PEv σ c y (.v (.int k b))) (hb:c=true→b≠0):POpQ c o σ ρ (.v (.int k (k.wrap (a.tdiv b)))):=fun κ σ' ρ' g hs _=>⟨_,fun _=>.v rfl,oq_quo ho (hs.ve hx) (hs.ve hy) hb rfl⟩
theorem xM (ho:o.op=.binOp .rem t x y t') (hx:PEv σ c x (.v (.int k a))) (hy:PEv σ c y (.v (.int k b))) (hb:c=true→b≠0):POpQ c o σ ρ (.v (.int k (a.tmod b))):=fun κ σ' ρ' g hs _=>⟨_,fun _=>.v rfl,oq_rem ho (hs.ve hx) (hs.ve hy) hb rfl⟩
def dd (k:IntKind) (a b:Int):Int:=k.wrap ((BitVec.ofInt k.bits a &&& BitVec.ofInt k.bits b).toNat:Int)
def mj (k:IntKind) (a b:Int):Int:=k.wrap ((BitVec.ofInt k.bits a ||| BitVec.ofInt k.bits b).toNat:Int)
def ry (k:IntKind) (a b:Int):Int:=k.wrap ((BitVec.ofInt k.bits a ^^^ BitVec.ofInt k.bits b).toNat:Int)
theorem pq_bits {op:BinOp} {r:Int} (ho:o.op=.binOp op t x y t') (hx:PEv σ c x (.v (.int k a))) (hy:PEv σ c y (.v (.int k b)))
    (hr:(match op with | .and=>some (dd k a b) | .or=>some (mj k a b) | .xor=>some (ry k a b) | _=>none)=some r):POpQ c o σ ρ (.v (.int k r)):=fun κ σ' ρ' g hs _=>⟨_,fun _=>.v rfl,oq_bits ho (hs.ve hx) (hs.ve hy) (by cases op <;> exact hr)⟩
def dV (k:IntKind) (a b:Int):Int:=k.wrap (a*2 ^ min b.toNat k.bits)
def co (k:IntKind) (a b:Int):Int:=a.fdiv (2 ^ min b.toNat k.bits)
theorem o8 {op:BinOp} {k':IntKind} {r:Int} (ho:o.op=.binOp op t x y t') (hx:PEv σ c x (.v (.int k a))) (hy:PEv σ c y (.v (.int k' b))) (h0:c=true→0≤b)
    (hr:(match op with | .shl=>some (dV k a b) | .shr=>some (co k a b) | _=>none)=some r):POpQ c o σ ρ (.v (.int k r)):=fun κ σ' ρ' g hs _=>⟨_,fun _=>.v rfl,xj ho (hs.ve hx) (hs.ve hy) h0 (by cases op <;> exact hr)⟩
theorem pq_neg {ty:Nat} (ho:o.op=.unOp .neg ty x) (hx:PEv σ c x (.v (.int k a))):POpQ c o σ ρ (.v (.int k (k.wrap (0 - a)))):=fun κ σ' ρ' g hs _=>⟨_,fun _=>.v rfl,oq_neg ho (hs.ve hx) rfl⟩
theorem pq_conv {k':IntKind} {s d:Nat} {ds:TypeDesc} (ho:o.op=.convert s d x) (h1:dv s=some ds) (h2:dv d=some (.int k')) (hx:PEv σ c x (.v (.int k a))):POpQ c o σ ρ (.v (.int k' (k'.wrap a))):=fun κ σ' ρ' g hs _=>⟨_,fun _=>.v rfl,oq_conv ho h1 h2 (hs.ve hx) rfl⟩
theorem pq_not {p:Bool} {ty:Nat} (ho:o.op=.unOp .not ty x) (hx:PEv σ c x (.v (.bool p))):POpQ c o σ ρ (.v (.bool !p)):=fun κ σ' ρ' g hs _=>⟨_,fun _=>.v rfl,uo ho (hs.ve hx)⟩
theorem pq_eqB {op:BinOp} {p q r:Bool} (ho:o.op=.binOp op t x y t') (hu:dv t=some .bool) (hx:PEv σ c x (.v (.bool p))) (hy:PEv σ c y (.v (.bool q)))
    (hr:(match op with | .eql=>some (p == q) | .neq=>some (p != q) | _=>none)=some r):POpQ c o σ ρ (.v (.bool r)):=fun κ σ' ρ' g hs _=>⟨_,fun _=>.v rfl,oq_eqB ho hu (hs.ve hx) (hs.ve hy) hr⟩
theorem pq_str {op:BinOp} {s u:ByteArray} {r:Bool} (ho:o.op=.binOp op t x y t') (hx:PEv σ c x (.v (.string s))) (hy:PEv σ c y (.v (.string u)))
    (hr:(match op with | .eql=>some (decide (s=u)) | .neq=>some (!decide (s=u)) | .lss=>some (Op.bytesLess s.toList u.toList) | .leq=>some (Op.bytesLess s.toList u.toList||decide (s=u)) | .gtr=>some (!(Op.bytesLess s.toList u.toList||decide (s=u))) | .geq=>some (!Op.bytesLess s.toList u.toList) | _=>none)=some r):POpQ c o σ ρ (.v (.bool r)):=fun κ σ' ρ' g hs _=>⟨_,fun _=>.v rfl,qZ ho (hs.ve hx) (hs.ve hy) hr⟩
theorem pq_cat {s u:ByteArray} (ho:o.op=.binOp .add t x y t') (hx:PEv σ c x (.v (.string s))) (hy:PEv σ c y (.v (.string u))) (hb:c=true→s.size+u.size≤140737488355328):POpQ c o σ ρ (.v (.string (s++u))):=fun κ σ' ρ' g hs _=>⟨_,fun hc=>.v (by have:=hb hc;simp only [sM,ByteArray.size_append];exact Nat.ble_eq_true_of_le this),oq_cat ho (hs.ve hx) (hs.ve hy) (fun hc=>by have:=hb hc;omega)⟩
theorem hR {ad:Addr} (ho:o.op=.nilCheck x) (hx:PEv σ c x (.v (.pointer (some ad)))):POpQ c o σ ρ (.v (.pointer (some ad))):=fun κ σ' ρ' g hs _=>⟨_,fun _=>.v rfl,kD ho (hs.ve hx)⟩
theorem rz {cs:List PV} {kk:Nat} (ho:o.op=.nilCheck x) (hx:PEv σ c x (.ref cs kk)):POpQ c o σ ρ (.ref cs kk):=fun κ σ' ρ' g hs _=>by
 refine ⟨ev σ' x,hs.pe hx,fun hc=>?_⟩
 have h:=hs.pe hx hc
 generalize he:ev σ' x=w at h
 cases h with
 | ref h h1 h2=>exact kD (c:=true) ho (.p he) rfl
theorem aJ {s f bb off kk ty:Nat} {l:List (Nat×Nat)} {z:Value} {sz by':Nat} (ho:o.op=.fieldAddr s x f) (h1:mn s=some l) (h2:l[f]?=some (kk,ty)) (hi:dU ty=some (z,sz,by')) (h0:Nat.blt 0 sz=true)
    (hx:PEv σ c x (.v (.pointer (some ⟨bb,off,none⟩)))):POpQ c o σ ρ (.v (.pointer (some ⟨bb,off+kk,none⟩))):=fun κ σ' ρ' g hs _=>⟨_,fun _=>.v rfl,mt ho h1 h2 hi h0 (hs.ve hx)⟩
theorem qk {s f off kk ty:Nat} {l:List (Nat×Nat)} {z:Value} {sz by':Nat} {cs:List PV} (ho:o.op=.fieldAddr s x f) (h1:mn s=some l) (h2:l[f]?=some (kk,ty)) (hi:dU ty=some (z,sz,by')) (h0:Nat.blt 0 sz=true)
    (hx:PEv σ c x (.ref cs off)):POpQ c o σ ρ (.ref cs (off+kk)):=fun κ σ' ρ' g hs _=>by
  cases c with
  | false=>exact uy
  | true =>
    have h:=hs.pe hx rfl
    generalize he:ev σ' x=w at h
    cases h with
    | ref h ho1 hss =>
      rename_i ds bb o0
      exact ⟨_,fun _=>.ref h ho1 hss,by have:=mt (c:=true) (ρ:=ρ') (κ:=κ) ho h1 h2 hi h0 (.p he);rwa [Nat.add_assoc] at this⟩
theorem bU {bb off T:Nat} {cs:List PV} {p:PV} (ho:o.op=.load t x) (hx:PEv σ c x (.v (.pointer (some ⟨bb,off,none⟩)))) (hm:PRes.b bb T cs∈ρ) (hr:gj t (cs.drop off)=some p):POpQ c o σ ρ p:=fun κ σ' ρ' g hs hrr=>by
 obtain ⟨r,hr1,hr2⟩:=hrr.mem hm
 cases hr2 with
 | b h1 hc =>
  obtain ⟨v,h4,h5⟩:=sN (hc.drop off) (fun u hu=>h1 u (List.mem_of_mem_drop hu)) hr
  exact ⟨v,fun _=>h5,qu ho (hs.ve hx) hr1 h4⟩
theorem Sh.drop {κ:Kr} {b off:Nat} {ds:List Value} (h:Sh κ b off ds) (k:Nat):Sh κ b (off+k) (ds.drop k):=⟨h.1,fun j u hu=>by rw [Nat.add_assoc];exact h.2 (k+j) u (by rwa [List.getElem?_drop] at hu)⟩
theorem nr {off:Nat} {cs:List PV} {p:PV} (ho:o.op=.load t x) (hx:PEv σ c x (.ref cs off)) (hr:gj t (cs.drop off)=some p):POpQ c o σ ρ p:=fun κ σ' ρ' g hs hrr=>by
 cases c with
 | false=>exact uy
 | true =>
  have h:=hs.pe hx rfl
  generalize he:ev σ' x=w at h
  cases h with
  | ref h h1 hss =>
   obtain ⟨v,h4,h5⟩:=sN (hss.drop off) (fun u hu=>h1 u (List.mem_of_mem_drop hu)) hr
   exact ⟨v,fun _=>h5,nm ho (.p he) (fun _=>h.drop off) h4⟩
theorem xN {f kk ty:Nat} {l:List (Nat×Nat)} {cs:List PV} {p:PV} (ho:o.op=.field t x f) (h1:mn t=some l) (h2:l[f]?=some (kk,ty)) (hx:PEv σ c x (.agg cs)) (hkk:Nat.ble kk cs.length=true) (hr:gj ty (cs.drop kk)=some p):POpQ c o σ ρ p:=fun κ σ' ρ' g hs hrr=>by
 cases c with
 | false=>exact uy
 | true =>
  have h:=hs.pe hx rfl
  generalize he:ev σ' x=w at h
  cases h with
  | agg ho1 hss =>
   rename_i ds
   obtain ⟨v,h4,h5⟩:=sN (hss.drop kk) (fun u hu=>ho1 u (List.mem_of_mem_drop hu)) hr
   refine ⟨v,fun _=>h5,xk (cs:=ds) ho h1 h2 (.p he) ?_⟩
   unfold gi at h4 ⊢
   split at h4
   ·rename_i d z sz b' hd hi
    cases hag:ij d
    ·rw [hag] at h4;simp only [eY] at h4 ⊢;rwa [List.getElem?_drop,Nat.add_zero] at h4
    rw [hag] at h4;simp only [cZ,Nat.zero_add,List.drop_zero] at h4 ⊢
    cases hle:Nat.ble sz (ds.drop kk).length
    ·rw [hle] at h4;cases h4
    rw [hle] at h4
    have:Nat.ble (kk+sz) ds.length=true:=by
     have h1:=Nat.le_of_ble_eq_true hle
     have h2:=Nat.le_of_ble_eq_true hkk
     rw [hss.len] at h2
     rw [List.length_drop] at h1
     exact Nat.ble_eq_true_of_le (by omega)
    rw [this];exact h4
   cases h4
theorem ka {i:Nat} {vs:List PV} {p:PV} (ho:o.op=.extract x i) (hx:PEv σ c x (.tup vs)) (hr:vs[i]?=some p):POpQ c o σ ρ p:=fun κ σ' ρ' g hs hrr=>by
 cases c with
 | false=>exact uy
 | true =>
  have h:=hs.pe hx rfl
  generalize he:ev σ' x=w at h
  cases h with
  | tup hss =>
   obtain ⟨v,h4,h5⟩:=hss.get hr
   exact ⟨v,fun _=>h5,oR ho (.p he) h4⟩
theorem xO {E mm:Nat} {xs:List (List PV)} (ho:o.op=.call { callee:=.builtin .len,args:=#[x],argTypes:=#[t] }) (hu:dv t=some (.slice E)) (hx:PEv σ c x (.slc mm xs)):POpQ c o σ ρ (.v (.int .i64 (mm:Int))):=fun κ σ' ρ' g hs hrr=>by
 cases c with
 | false=>exact uy
 | true =>
  have h:=hs.pe hx rfl
  generalize he:ev σ' x=w at h
  cases h with
  | slc hsl hb h1 hss=>exact ⟨_,fun _=>.v rfl,xl (c:=true) (ρ:=ρ') (κ:=κ) ho hu (.p he)⟩
theorem pq_lenO {E nn cp:Nat} {ad:Option Addr} (ho:o.op=.call { callee:=.builtin .len,args:=#[x],argTypes:=#[t] }) (hu:dv t=some (.slice E)) (hx:PEv σ c x (.v (.slice ad nn cp))):POpQ c o σ ρ (.v (.int .i64 (nn:Int))):=fun κ σ' ρ' g hs hrr=>⟨_,fun _=>.v rfl,xl ho hu (hs.ve hx)⟩
theorem pq_lenS {s:ByteArray} (ho:o.op=.call { callee:=.builtin .len,args:=#[x],argTypes:=#[t] }) (hu:dv t=some .string) (hx:PEv σ c x (.v (.string s))):POpQ c o σ ρ (.v (.int .i64 (s.size:Int))):=fun κ σ' ρ' g hs hrr=>⟨_,fun _=>.v rfl,jl ho hu (hs.ve hx)⟩
def mC (a b:Int):Int:=if b<a then b else a
def cX (a b:Int):Int:=if a<b then b else a
theorem pq_min {ts:List Nat} (ho:o.op=.call { callee:=.builtin .min,args:=#[x,y],argTypes:=ts.toArray }) (hx:PEv σ c x (.v (.int k a))) (hy:PEv σ c y (.v (.int k b))):POpQ c o σ ρ (.v (.int k (mC a b))):=fun κ σ' ρ' g hs hrr=>⟨_,fun _=>.v rfl,oq_min ho (hs.ve hx) (hs.ve hy)⟩
theorem pq_max {ts:List Nat} (ho:o.op=.call { callee:=.builtin .max,args:=#[x,y],argTypes:=ts.toArray }) (hx:PEv σ c x (.v (.int k a))) (hy:PEv σ c y (.v (.int k b))):POpQ c o σ ρ (.v (.int k (cX a b))):=fun κ σ' ρ' g hs hrr=>⟨_,fun _=>.v rfl,oq_max ho (hs.ve hx) (hs.ve hy)⟩
def idx {α:Type} (xs:List α) (i:Int):Option α:=if 0≤i then xs[i.toNat]? else none
theorem hU {α:Type} {xs:List α} {i:Int} {m:α} (h:idx xs i=some m):0≤i∧xs[i.toNat]?=some m:=by
 unfold idx at h;split at h
 ·exact ⟨by assumption,h⟩
 cases h
theorem sU {α:Type} {E sz by' mm:Nat} {z:Value} {enc:α→List PV} {xs:List α} {m:α} (ho:o.op=.indexAddr t x y) (hu:dv t=some (.slice E)) (hi:dU E=some (z,sz,by')) (hw:∀ m,Nat.beq (enc m).length sz=true)
    (hx:PEv σ c x (.slc mm (xs.map enc))) (hy:PEv σ c y (.v (.int k a))) (hm:c=true→idx xs a=some m):POpQ c o σ ρ (.ref (enc m) 0):=fun κ σ' ρ' g hs hrr=>by
  cases c with
  | false=>exact uy
  | true =>
    obtain ⟨h0,hmm⟩:=hU (hm rfl)
    have h:=hs.pe hx rfl
    generalize he:ev σ' x=w at h
    cases h with
    | slc hsl hb h1 hss =>
      rename_i ad cp sz' css
      have hcs:(xs.map enc)[a.toNat]?=some (enc m):=by rw [List.getElem?_map,hmm];rfl
      obtain ⟨ds,hd,hds⟩:=hss.get hcs
      have hlt:a.toNat<mm:=by rw [← hsl.len];exact (List.getElem?_eq_some_iff.1 hd).1
      obtain ⟨bb,off,ha,hsh⟩:=hsl.at_ (by omega)
      have hwid:sz'=sz:=by
        have e1:=hsl.wid ds (List.mem_of_getElem? hd)
        have e2:=hds.len
        have e3:=Nat.eq_of_beq_eq_true (hw m)
        omega
      subst hwid
      have h2:=mu (c:=true) (ρ:=ρ') (κ:=κ) (j:=a.toNat) ho hu hi (.p (by rw [he,ha])) (hs.ve hy) (fun _=>by omega) (fun _=>hlt)
      exact ⟨_,fun _=>by have:=Rp.ref (k:=0) (hsh _ _ hd) (h1 ds (List.mem_of_getElem? hd)) hds;rwa [Nat.add_zero] at this,h2⟩
theorem wn {s:ByteArray} {u:UInt8} (ho:o.op=.index t x y) (hu:dv t=some .string) (hx:PEv σ c x (.v (.string s))) (hy:PEv σ c y (.v (.int k a))) (hm:c=true→idx s.data.toList a=some u):POpQ c o σ ρ (.v (.int .u8 (u.toNat:Int))):=fun κ σ' ρ' g hs hrr=>by
 refine ⟨_,fun _=>.v rfl,fun hc=>?_⟩
 obtain ⟨h0,hmm⟩:=hU (hm hc)
 have hlt:=(List.getElem?_eq_some_iff.1 hmm).1
 have h:=jE (c:=true) (ρ:=ρ') (κ:=κ) (j:=a.toNat) ho hu (fun _=>hs.ve hx hc) (fun _=>hs.ve hy hc) (fun _=>by omega) (fun _=>by simpa using hlt) rfl
 rwa [List.getD_eq_getElem?_getD,hmm] at h
end
theorem gW {f n:Nat} {fn:Func} {c:Code} {pargs:List PV} {rs:List ResultVar} {ρp:List PRes} {R:PV→List PRes→Prop} (hf:Tryz.prog.funcs[f]?=some fn) (hb:fn.body=some c) (hn:fn.ntmps=n) (hres:fn.results=rs.toArray) (hsz:Nat.ble pargs.length n=true) (h:PWC n c (jn rs R) (sO pargs) ρp):PCall f pargs ρp R:=penter hf (fnk hf hb) hb hn hres hsz h
def PSplice (cs:List PV) (k:Nat) (vs cs':List PV):Prop:=cs'=cs.take k++vs++cs.drop (k+vs.length)∧k+vs.length≤cs.length
theorem vp {cs:List PV}:PSplice cs 0 [] cs:=⟨by simp,by simp⟩
theorem dg {x v:PV} {l l' vs:List PV} (h:PSplice l 0 vs l'):PSplice (x::l) 0 (v::vs) (v::l'):=by
 obtain ⟨h1,h2⟩:=h
 refine ⟨?_,by simp at h2 ⊢;omega⟩
 rw [h1];simp [Nat.add_comm]
theorem bQ {x:PV} {l l' vs:List PV} {k:Nat} (h:PSplice l k vs l'):PSplice (x::l) (k+1) vs (x::l'):=by
 obtain ⟨h1,h2⟩:=h
 refine ⟨?_,by simp at h2 ⊢;omega⟩
 rw [h1,show k+1+vs.length=(k+vs.length)+1 by omega];simp
section
variable {o:Oper} {σ:PEnv} {ρ:List PRes} {x y:Operand} {t:Nat} {K:PV→List PRes→Prop}
theorem eV {p:PV} (h:POpQ true o σ ρ p) (hk:K p ρ):POpL o σ ρ K:=fun κ σ' ρ' g hs hr=>by
 obtain ⟨v,h1,h2⟩:=h κ σ' ρ' g hs hr
 exact ol_q h2 ⟨p,ρ,h1 rfl,hr,hk⟩
theorem bB {cs:List PV} (ho:o.op=.box t x) (hx:fM (bg σ x)=some cs) (h:∀ b,K (.v (.pointer (some ⟨b,0,none⟩))) (.b b t cs::ρ)):POpL o σ ρ K:=fun κ σ' ρ' g hs hr=>by
 obtain ⟨ds,h1,h2,h3⟩:=(hs.ev x).cells hx
 exact ol_box ho h1 fun b κ' hk=>⟨_,_,.v rfl,.cons (.b h3 (h2.mono hk)) (hr.mono hk),h b⟩
def uz (z:Value):List PV:=(bI z).map fun x=>cond (sM x) (.v x) .any
theorem be {z:Value} {sz by':Nat} {cs:List PV} (ho:o.op=.alloc t) (hz:dU t=some (z,sz,by')) (hc:uz z=cs) (h1:(bI z).all Value.oneCell'=true) (h:∀ b,K (.v (.pointer (some ⟨b,0,none⟩))) (.b b t cs::ρ)):POpL o σ ρ K:=fun κ σ' ρ' g hs hr =>
 xp ho hz rfl fun b κ' hk=>⟨_,_,.v rfl,.cons (.b (fun u hu=>List.all_eq_true.1 h1 u hu) (by rw [← hc];exact gI _)) (hr.mono hk),h b⟩
theorem lP {κ:Kr} {cs vs:List PV} {ds ws:List Value} {off:Nat} (h:Rps κ cs ds) (hv:Rps κ vs ws):Rps κ (cs.take off++vs++cs.drop (off+vs.length)) (ds.take off++ws++ds.drop (off+ws.length)):=by
 rw [hv.len];exact ((h.take off).app hv).app (h.drop _)
theorem lQ {ds ws:List Value} {off k:Nat} (h:One ds) (hw:One ws):One (ds.take off++ws++ds.drop k):=fun u hu=>by
 rcases List.mem_append.1 hu with hu | hu
 ·rcases List.mem_append.1 hu with hu | hu
  ·exact h u (List.mem_of_mem_take hu)
  exact hw u hu
 exact h u (List.mem_of_mem_drop hu)
theorem ak {b off T sz by':Nat} {z:Value} {cs vs cs':List PV} {ρ':List PRes} (ho:o.op=.store t x y) (hx:bg σ x=.v (.pointer (some ⟨b,off,none⟩))) (hv:fM (bg σ y)=some vs)
    (hz:dU t=some (z,sz,by')) (hsz:Nat.beq vs.length sz=true) (hu:PUpd ρ (.b b T cs) (.b b T cs') ρ') (hsp:PSplice cs off vs cs') (h:K (.v undef) ρ'):POpL o σ ρ K:=fun κ σ' r g hs hr=>by
  obtain ⟨ws,h1,h2,h3⟩:=(hs.ev y).cells hv
  obtain ⟨r0,l1,l2,rfl,h4,h5⟩:=hr.upd hu
  obtain ⟨rfl,hl⟩:=hsp
  cases h4 with
  | b ho1 hc =>
    rename_i ds
    have hsz':=Nat.eq_of_beq_eq_true hsz
    have e1:=h2.len;have e2:=hc.len
    refine oT (T:=T) (cs:=ds) ho (hs.v1 hx) h1 hz (by omega) (List.all_eq_true.2 h3) (Nat.ble_eq_true_of_le (by omega)) ⟨l1,l2,rfl,rfl⟩ fun κ' hk=>⟨.v undef,ρ',.v rfl,h5 κ' _ hk (.b (lQ ho1 h3) ((lP hc h2).mono hk)),h⟩
def PFill (σ:PEnv) (fl:List (Nat×Nat)):List PV→List (Nat×Operand)→List PV→Prop
 | zs,[],cs=>zs=cs
 | zs,(i,x)::r,cs=>∃ k ty vs zs' z by',fl[i]?=some (k,ty)∧dU ty=some (z,vs.length,by')∧fM (bg σ x)=some vs∧PSplice zs k vs zs'∧PFill σ fl zs' r cs
theorem zfn {fl:List (Nat×Nat)} {zs:List PV}:PFill σ fl zs [] zs:=rfl
theorem rA {fl:List (Nat×Nat)} {zs zs' cs vs:List PV} {i k ty sz by':Nat} {z:Value} {x:Operand} {r:List (Nat×Operand)} (h1:fl[i]?=some (k,ty)) (h2:dU ty=some (z,sz,by')) (h3:fM (bg σ x)=some vs) (h4:Nat.beq vs.length sz=true) (h5:PSplice zs k vs zs') (h6:PFill σ fl zs' r cs):PFill σ fl zs ((i,x)::r) cs :=
 ⟨k,ty,vs,zs',z,by',h1,by rw [Nat.eq_of_beq_eq_true h4];exact h2,h3,h5,h6⟩
theorem PFill.real {κ:Kr} {σ':Env} (hs:Sim κ σ σ') {fl:List (Nat×Nat)}:∀ {parts:List (Nat×Operand)} {zs cs:List PV} {zv:List Value},PFill σ fl zs parts cs→Rps κ zs zv→One zv→∃ cv,FillR σ' fl zv parts cv∧Rps κ cs cv∧One cv
 | [],zs,cs,zv,h,hr,h1=>by cases h;exact ⟨zv,rfl,hr,h1⟩
 | (i,x)::r,zs,cs,zv,⟨k,ty,vs,zs',z,by',g1,g2,g3,g4,g5⟩,hr,h1=>by
  obtain ⟨ws,k1,k2,k3⟩:=(hs.ev x).cells g3
  obtain ⟨rfl,hl⟩:=g4
  obtain ⟨cv,j1,j2,j3⟩:=PFill.real hs g5 (lP hr k2) (lQ h1 k3)
  have e1:=k2.len;have e2:=hr.len
  exact ⟨cv,⟨k,ty,ws,_,z,by',g1,by rw [← e1];exact g2,k1,⟨rfl,by omega⟩,j1⟩,j2,j3⟩
theorem sV {c:Bool} {sz by':Nat} {parts:List (Nat×Operand)} {fl:List (Nat×Nat)} {zs:List Value} {zp cs:List PV} (hc:c=true) (ho:o.op=.build t parts.toArray) (hz:dU t=some (.agg zs.toArray,sz,by')) (hf:mn t=some fl) (hall:(fl.all fun p=>(dU p.2).isSome)=true) (hzp:(zs.map fun x=>cond (sM x) (.v x) .any)=zp) (hz1:zs.all Value.oneCell'=true) (h:PFill σ fl zp parts cs):POpQ c o σ ρ (.agg cs):=fun κ σ' ρ' g hs hr=>by
 subst hc
 obtain ⟨cv,h1,h2,h3⟩:=h.real hs (zv:=zs) (by rw [← hzp];exact gI zs) (fun u hu=>List.all_eq_true.1 hz1 u hu)
 exact ⟨_,fun _=>.agg h3 h2,sG ho hz hf hall h1⟩
def PLit (σ:PEnv):Nat→List (Nat×Operand)→List (List PV)→Prop
 | _,[],css=>css=[]
 | k,(i,x)::r,css=>∃ cs css',css=cs::css'∧i=k∧fM (bg σ x)=some cs∧PLit σ (k+1) r css'
theorem jD {k:Nat}:PLit σ k [] []:=rfl
theorem eW {k:Nat} {x:Operand} {cs:List PV} {r:List (Nat×Operand)} {css:List (List PV)} (h1:fM (bg σ x)=some cs) (h:PLit σ (k+1) r css):PLit σ k ((k,x)::r) (cs::css):=⟨_,_,rfl,rfl,h1,h⟩
theorem PLit.real {κ:Kr} {σ':Env} (hs:Sim κ σ σ'):∀ {k:Nat} {parts:List (Nat×Operand)} {css:List (List PV)},PLit σ k parts css→∃ dss,Lit σ' k parts dss∧Rpss κ css dss∧Ones dss
 | _,[],_,h=>by cases h;exact ⟨[],rfl,.nil,fun _ h=>by cases h⟩
 | k,(i,x)::r,_,⟨cs,css',e1,e2,h1,h2⟩=>by
  subst e1;subst e2
  obtain ⟨ds,k1,k2,k3⟩:=(hs.ev x).cells h1
  obtain ⟨dss,j1,j2,j3⟩:=h2.real hs
  exact ⟨ds::dss,⟨_,_,rfl,rfl,k1,j1⟩,.cons k2 j2,fun d hd=>by rcases List.mem_cons.1 hd with rfl | hd;exact k3;exact j3 d hd⟩
theorem o9 {κ:Kr} {sz:Nat}:∀ {css:List (List PV)} {dss:List (List Value)},Rpss κ css dss→(css.all fun cs=>Nat.beq cs.length sz)=true→(dss.all fun cs=>Nat.beq cs.length sz)=true
 | _,_,.nil,_=>rfl
 | _,_,.cons h hs,hw=>by
  simp only [List.all_cons,Bool.and_eq_true] at hw ⊢
  exact ⟨by rw [← h.len];exact hw.1,o9 hs hw.2⟩
theorem bW {E len sz by':Nat} {z:Value} {parts:List (Nat×Operand)} {css:List (List PV)} (hg:o.guard=none) (ho:o.op=.buildSlice t len parts.toArray) (hu:dv t=some (.slice E)) (hi:dU E=some (z,sz,by')) (hz:Nat.beq z.cells.size sz=true)
    (hp:PLit σ 0 parts css) (hl:Nat.beq css.length len=true) (hw:(css.all fun cs=>Nat.beq cs.length sz)=true) (hb:Nat.ble (len*sz) 16777216=true) (hb2:Nat.ble len 16777216=true) (h:∀ b,K (.v (.slice (some ⟨b,0,none⟩) len len)) (.row (some ⟨b,0,none⟩) len len E sz css::ρ)):POpL o σ ρ K:=fun κ σ' ρ' g hs hr=>by
  obtain ⟨dss,h1,h2,h3⟩:=hp.real hs
  exact ol_lit hg ho hu hi hz h1 (by rw [← h2.len];exact hl) (o9 h2 hw) hb hb2 fun b κ' hk=>⟨_,_,.v rfl,.cons (.row (by have:=Nat.le_of_ble_eq_true hb2;omega) h3 (h2.mono hk)) (hr.mono hk),h b⟩
theorem ln {E len sz by':Nat} {z:Value} {parts:List (Nat×Operand)} {css:List (List PV)} (hg:o.guard=none) (ho:o.op=.buildSlice t len parts.toArray) (hu:dv t=some (.slice E)) (hi:dU E=some (z,sz,by')) (hz:Nat.beq z.cells.size sz=true)
    (hp:PLit σ 0 parts css) (hl:Nat.beq css.length len=true) (hw:(css.all fun cs=>Nat.beq cs.length sz)=true) (hb:Nat.ble (len*sz) 16777216=true):∀ κ σ',Sim κ σ σ'→∃ ds,Rps κ css.flatten ds∧One ds∧LateRun o σ' E ds (fun b=>.slice (some ⟨b,0,none⟩) len len):=fun κ σ' hs=>by
  obtain ⟨dss,h1,h2,h3⟩:=hp.real hs
  exact ⟨dss.flatten,h2.flat,fun u hu=>by obtain ⟨d,hd1,hd2⟩:=List.mem_flatten.1 hu;exact h3 d hd1 u hd2,sK hg ho hu hi hz h1 (by rw [← h2.len];exact hl) (o9 h2 hw) hb⟩
theorem kL {z:Value} {sz by':Nat} {cs:List PV} (hg:o.guard=none) (ho:o.op=.alloc t) (hz:dU t=some (z,sz,by')) (hc:uz z=cs) (h1:(bI z).all Value.oneCell'=true):∀ κ σ',Sim κ σ σ'→∃ ds,Rps κ cs ds∧One ds∧LateRun o σ' t ds (fun b=>.pointer (some ⟨b,0,none⟩)):=fun κ σ' hs =>
 ⟨bI z,by rw [← hc];exact gI _,fun u hu=>List.all_eq_true.1 h1 u hu,us hg ho hz rfl⟩
end
def app {α:Type} (by':Nat) (xs ys:List α):Option (List α):=if (xs.length+ys.length)*by'≤140737488355328∧xs.length+ys.length≤140737488355328 then some (xs++ys) else none
theorem kM {α:Type} {by':Nat} {xs ys zs:List α} (h:app by' xs ys=some zs):zs=xs++ys∧(xs.length+ys.length)*by'≤140737488355328∧xs.length+ys.length≤140737488355328:=by
 unfold app at h;split at h
 ·injection h with h;exact ⟨h.symm,by assumption⟩
 cases h
section
variable {o:Oper} {σ:PEnv} {ρ:List PRes} {s x y:Operand} {t:Nat} {K:PV→List PRes→Prop}
theorem lR {T:Nat} {a:Option Addr} {n c m sz by':Nat} {z:Value} {css css2:List (List PV)} {l:List PRes}
    (ho:o.op=.call { callee:=.builtin .append,args:=#[s,x],argTypes:=#[t,t] }) (hu:dv t=some (.slice T)) (hi:dU T=some (z,sz,by')) (hz:Nat.beq z.cells.size sz=true) (h0:Nat.blt 0 sz=true)
    (hs:bg σ s=.v (.slice a n c)) (hp:PPick ρ (.row a n c T sz css) l)
    (hr:∀ β κ σ' ρ',Sim κ σ σ'→RRels κ ρ ρ'→Zi β ρ' κ→∃ a2 c2 dss2,ev σ' x=.slice a2 m c2∧Rd ρ' κ a2 m sz dss2∧Rpss κ css2 dss2∧Ones dss2)
    (hb:(n+m)*by'≤140737488355328∧n+m≤140737488355328) (h:∀ a' c',K (.v (.slice a' (n+m) c')) (.row a' (n+m) c' T sz (css++css2)::l)):POpL o σ ρ K:=fun κ σ' ρ' g hm hrr β hinv Nx hk=>by
  obtain ⟨a2,c2,dss2,h1,h2,h3,h4⟩:=hr β κ σ' ρ' hm hrr hinv
  obtain ⟨r,l',k1,k2,k3⟩:=hrr.pick hp
  cases k2 with
  | row hbn ho1 hc =>
    rename_i dss
    exact wb (css:=dss) ho hu hi hz h0 (hm.v1 hs) h1 k1 h2 h4 hb (fun a' c' κ' hk'=>⟨_,_,.v rfl,.cons (.row hb.2 (fun d hd=>(List.mem_append.1 hd).elim (ho1 d) (h4 d)) ((hc.app h3).mono hk')) (k3.mono hk'),h a' c'⟩) β hinv Nx hk
variable {α:Type} {enc:α→List PV} {xs ys zs:List α}
theorem vq {κ:Kr} {sz:Nat} (hw:∀ m,Nat.beq (enc m).length sz=true):∀ {ys:List α} {dss:List (List Value)},Rpss κ (ys.map enc) dss→∀ ds∈dss,ds.length=sz
 | [],_,h,ds,hd=>by rw [List.map_nil] at h;rw [h.nil_inv] at hd;cases hd
 | y::ys,_,h,ds,hd=>by
  rw [List.map_cons] at h
  obtain ⟨v,ws,rfl,h1,h2⟩:=h.cons_inv
  rcases List.mem_cons.1 hd with rfl | hd
  ·rw [← h1.len];exact Nat.eq_of_beq_eq_true (hw y)
  exact vq hw h2 ds hd
theorem mD {T mm:Nat} {a:Option Addr} {c sz by' n:Nat} {z:Value} {l:List PRes}
    (ho:o.op=.call { callee:=.builtin .append,args:=#[s,x],argTypes:=#[t,t] }) (hu:dv t=some (.slice T)) (hi:dU T=some (z,sz,by')) (hz:Nat.beq z.cells.size sz=true) (h0:Nat.blt 0 sz=true) (hw:∀ m,Nat.beq (enc m).length sz=true)
    (hs:bg σ s=.v (.slice a n c)) (hn:n=xs.length) (hx:bg σ x=.slc mm (ys.map enc)) (hp:PPick ρ (.row a n c T sz (xs.map enc)) l) (ha:app by' xs ys=some zs)
    (h:∀ a' c',K (.v (.slice a' zs.length c')) (.row a' zs.length c' T sz (zs.map enc)::l)):POpL o σ ρ K:=by
  obtain ⟨rfl,hb1,hb2⟩:=kM ha
  subst hn
  refine lR (m:=ys.length) (css2:=ys.map enc) ho hu hi hz h0 hs hp (fun β κ σ' ρ' hm hrr hinv=>?_) ⟨hb1,hb2⟩ (fun a' c'=>by have:=h a' c';rwa [List.length_append,List.map_append] at this)
  have he:=hm.ev x
  rw [hx] at he
  generalize hw':ev σ' x=w at he
  cases he with
  | slc hsl hb h1 hss =>
    rename_i a2 c2 sz' dss2
    have hml:ys.length=mm:=by rw [← hsl.len,← hss.len];simp
    subst hml
    refine ⟨a2,c2,dss2,rfl,?_,hss,h1⟩
    have hrd:=rd_sl (ρ:=ρ') hsl
    rcases Nat.eq_zero_or_pos ys.length with h' | h'
    · have:dss2=[]:=List.eq_nil_of_length_eq_zero (by rw [hsl.len,h'])
      subst this
      exact ⟨hsl.len,fun _ h=>(by cases h),fun h=>(by omega)⟩
    have:sz'=sz:=by
      have hl:=hsl.len
      match dss2,hl with
      | [],hl=>simp only [List.length_nil] at hl;omega
      | d::ds,_=>rw [← hsl.wid d (by simp),vq hw hss d (by simp)]
    subst this;exact hrd
theorem cV {T T2:Nat} {a a2:Option Addr} {c c2 sz by' n m:Nat} {z:Value} {l:List PRes}
    (ho:o.op=.call { callee:=.builtin .append,args:=#[s,x],argTypes:=#[t,t] }) (hu:dv t=some (.slice T)) (hi:dU T=some (z,sz,by')) (hz:Nat.beq z.cells.size sz=true) (h0:Nat.blt 0 sz=true)
    (hs:bg σ s=.v (.slice a n c)) (hn:n=xs.length) (hx:bg σ x=.v (.slice a2 m c2)) (hmn:m=ys.length) (hm2:PRes.row a2 m c2 T2 sz (ys.map enc)∈ρ) (hp:PPick ρ (.row a n c T sz (xs.map enc)) l) (ha:app by' xs ys=some zs)
    (h:∀ a' c',K (.v (.slice a' zs.length c')) (.row a' zs.length c' T sz (zs.map enc)::l)):POpL o σ ρ K:=by
  obtain ⟨rfl,hb1,hb2⟩:=kM ha
  subst hn;subst hmn
  refine lR (m:=ys.length) (css2:=ys.map enc) ho hu hi hz h0 hs hp (fun β κ σ' ρ' hm hrr hinv=>?_) ⟨hb1,hb2⟩ (fun a' c'=>by have:=h a' c';rwa [List.length_append,List.map_append] at this)
  obtain ⟨r,hr1,hr2⟩:=hrr.mem hm2
  cases hr2 with
  | row hb h1 hss =>
    rename_i dss
    have hrow:=sJ hr1 β hinv
    have hown:=iX (hinv.own _ hr1)
    exact ⟨a2,c2,dss,hm.v1 hx,xE hr1 (fun h=>by obtain ⟨b,e⟩:=hrow.2 h;rw [e];simp) hrow.1.1 hown.2.2,hss,h1⟩
theorem sW {T T2:Nat} {a:Option Addr} {c b sz by' n m:Nat} {z:Value} {l:List PRes} {cs:List PV}
    (ho:o.op=.call { callee:=.builtin .append,args:=#[s,x],argTypes:=#[t,t] }) (hu:dv t=some (.slice T)) (hi:dU T=some (z,sz,by')) (hz:Nat.beq z.cells.size sz=true) (h0:Nat.blt 0 sz=true) (hw:∀ m,Nat.beq (enc m).length sz=true)
    (hs:bg σ s=.v (.slice a n c)) (hn:n=xs.length) (hx:bg σ x=.v (.slice (some ⟨b,0,none⟩) m m)) (hmn:m=ys.length) (hm2:PRes.b b T2 cs∈ρ) (hcs:cs=(ys.map enc).flatten) (hp:PPick ρ (.row a n c T sz (xs.map enc)) l) (ha:app by' xs ys=some zs)
    (h:∀ a' c',K (.v (.slice a' zs.length c')) (.row a' zs.length c' T sz (zs.map enc)::l)):POpL o σ ρ K:=by
  obtain ⟨rfl,hb1,hb2⟩:=kM ha
  subst hn;subst hmn;subst hcs
  refine lR (m:=ys.length) (css2:=ys.map enc) ho hu hi hz h0 hs hp (fun β κ σ' ρ' hm hrr hinv=>?_) ⟨hb1,hb2⟩ (fun a' c'=>by have:=h a' c';rwa [List.length_append,List.map_append] at this)
  obtain ⟨r,hr1,hr2⟩:=hrr.mem hm2
  cases hr2 with
  | b h1 hss =>
    rename_i ds
    obtain ⟨dss,e1,e2,e3⟩:∃ dss,dss.flatten=ds∧Rpss κ (ys.map enc) dss∧∀ d∈dss,d.length=sz:=by
      clear ha h hb1 hb2 hx hm2 hr1 h1 hp
      induction ys generalizing ds with
      | nil=>simp only [List.map_nil,List.flatten_nil] at hss;exact ⟨[],by rw [hss.nil_inv];rfl,.nil,fun _ h=>by cases h⟩
      | cons y ys ih =>
        simp only [List.map_cons,List.flatten_cons] at hss
        have hl:=Nat.eq_of_beq_eq_true (hw y)
        have t1:=hss.take sz
        have t2:=hss.drop sz
        rw [List.take_append_of_le_length (by omega),List.take_of_length_le (by omega)] at t1
        rw [List.drop_append_of_le_length (by omega),List.drop_of_length_le (by omega),List.nil_append] at t2
        obtain ⟨dss,k1,k2,k3⟩:=ih t2
        refine ⟨ds.take sz::dss,by rw [List.flatten_cons,k1,List.take_append_drop],.cons t1 k2,fun d hd=>?_⟩
        rcases List.mem_cons.1 hd with rfl | hd
        · rw [← t1.len];exact hl
        exact k3 d hd
    subst e1
    exact ⟨_,_,dss,hm.v1 hx,rd_b hr1 (by rw [← e2.len];simp) e3 rfl,e2,fun d hd u hu=>h1 u (List.mem_flatten.2 ⟨d,hd,hu⟩)⟩
def mk {α:Type} (by':Nat) (z:α) (n:Int):Option (List α):=if 0≤n∧by'*n.toNat≤140737488355328∧n.toNat≤140737488355328 then some (List.replicate n.toNat z) else none
theorem mk_some {by':Nat} {z:α} {n:Int} (h:mk by' z n=some zs):(0≤n∧by'*n.toNat≤140737488355328∧n.toNat≤140737488355328)∧zs=List.replicate n.toNat z:=by
 unfold mk at h;split at h
 ·injection h with h;exact ⟨by assumption,h.symm⟩
 cases h
theorem lp {T sz by':Nat} {z:Value} {zv:α} {n:Int} (hg:o.guard=none) (ho:o.op=.makeSlice t x x) (hx:bg σ x=.v (.int .i64 n)) (hu:dv t=some (.slice T)) (hi:dU T=some (z,sz,by')) (hzc:enc zv=uz z) (hz1:(bI z).all Value.oneCell'=true) (hzl:Nat.beq (bI z).length sz=true) (h0:Nat.blt 0 sz=true) (hm:mk by' zv n=some zs)
    (h:∀ b,K (.v (.slice (some ⟨b,0,none⟩) zs.length zs.length)) (.row (some ⟨b,0,none⟩) zs.length zs.length T sz (zs.map enc)::ρ)):POpL o σ ρ K:=fun κ σ' ρ' g hs hr=>by
  obtain ⟨⟨h1,h2,h3⟩,rfl⟩:=mk_some hm
  have hn:n=((n.toNat:Nat):Int):=by omega
  have hlr:=wc (o:=o) (σ:=σ') (n:=n.toNat) hg ho (by rw [hs.v1 hx,← hn]) hu hi rfl (Nat.eq_of_beq_eq_true hzl) h0 (by omega)
  simp only [List.length_replicate,List.map_replicate] at h
  intro β hinv Nx hk
  refine vn hlr (K:=fun v ρ1 κ1=>∃ b,v=.slice (some ⟨b,0,none⟩) n.toNat n.toNat∧ρ1=Res.b b T (List.replicate n.toNat (bI z)).flatten::ρ'∧Kle κ κ1) (fun b κ' hk=>⟨b,rfl,rfl,hk⟩) β hinv Nx fun v ρ1 κ1 h1 h2 h3=>?_
  obtain ⟨b,rfl,rfl,h4⟩:=h3
  have hv:=h1.view (r':=Res.row (some ⟨b,0,none⟩) n.toNat n.toNat T sz (List.replicate n.toNat (bI z))) Pick.h rfl (sI rfl (by simp) (fun c hc=>by rw [(List.mem_replicate.1 hc).2];exact Nat.eq_of_beq_eq_true hzl) h3)
  refine hk _ _ κ1 hv h2 ⟨_,_,.v rfl,.cons (.row h3 ?_ ?_) (hr.mono h4),h b⟩
  · intro d hd;rw [(List.mem_replicate.1 hd).2];exact fun u hu=>List.all_eq_true.1 hz1 u hu
  rw [hzc]
  clear h hv hlr
  generalize n.toNat=k
  induction k with
  | zero=>exact .nil
  | succ k ih=>rw [List.replicate_succ,List.replicate_succ];exact .cons (gI _) ih
def rB:Option Addr→Nat
 | some ad=>ad.block
 | none=>0
theorem mE {a:Option Addr} {n cp T sz:Nat} {dss:List (List Value)} {w:World} (h:(Res.row a n cp T sz dss).holds w) (h0:0<n):a=some ⟨rB a,0,none⟩:=by
 cases a with
 | none=>obtain ⟨e,_⟩:=h;omega
 | some ad=>exact congrArg some h.1
theorem bo {c:Bool} {T T2 sz by' n cp:Nat} {k:IntKind} {i:Int} {z:Value} {m:α} {a:Option Addr} (ho:o.op=.indexAddr t x y) (hu:dv t=some (.slice T)) (hi:dU T=some (z,sz,by')) (hx:PEv σ c x (.v (.slice a n cp))) (hm2:PRes.row a n cp T2 sz (xs.map enc)∈ρ) (hy:PEv σ c y (.v (.int k i))) (hm:c=true→idx xs i=some m):POpQ c o σ ρ (.v (.pointer (some ⟨rB a,i.toNat * sz,none⟩))):=fun κ σ' ρ' g hs hrr=>by
 refine ⟨_,fun _=>.v rfl,fun hc w hst=>?_⟩
 obtain ⟨h0,hmm⟩:=hU (hm hc)
 have hlt:=(List.getElem?_eq_some_iff.1 hmm).1
 obtain ⟨r,hr1,hr2⟩:=hrr.mem hm2
 cases hr2 with
 | row hb ho1 hc2 =>
  have hn:xs.length=n:=by have e1:=(iX (hst.own _ hr1)).2.1;have e2:=hc2.len;rw [List.length_map] at e2;omega
  have ha:=mE (hst.own _ hr1) (by omega)
  have h:=mu (c:=true) (ρ:=ρ') (κ:=κ) (j:=i.toNat) ho hu hi (fun _=>by rw [hs.ve hx hc,ha]) (fun _=>hs.ve hy hc) (fun _=>by omega) (fun _=>by omega) rfl w hst
  rwa [Nat.zero_add] at h
end
theorem rC {o:Oper} {σ:Env} {ρ:List Res} {κ:Kr} {c:Bool} {x:Operand} {t b off T n cp sz k j:Nat} {css:List (List Value)} {cs:List Value} {v:Value} (ho:o.op=.load t x) (hx:Ev σ c x (.pointer (some ⟨b,off,none⟩))) (hoff:off=k*sz+j) (hm:Res.row (some ⟨b,0,none⟩) n cp T sz css∈ρ) (hk:css[k]?=some cs) (hr:gi t (cs.drop j) 0=some v):OpQ c o σ ρ κ v:=fun hc w hs=>by
 obtain ⟨h1,h2,h3,h4,h5,cur,h6,h7,h8⟩:(Res.row (some ⟨b,0,none⟩) n cp T sz css).holds w:=hs.own _ hm
 have hcl:=h3 cs (List.mem_of_getElem? hk)
 have:=j0 (w:=w) (t:=t) (b:=b) (off:=off) (cs:=cs.drop j) (v:=v) (fun i u hu=>by
  rw [List.getElem?_drop] at hu
  have hj:j+i<sz:=by rcases Nat.lt_or_ge (j+i) cs.length with h | h;(omega);rw [List.getElem?_eq_none h] at hu;cases hu
  have hg:=hC h3 hk hj
  have hkn:k<n:=by rw [← h2];exact (List.getElem?_eq_some_iff.1 hk).1
  have hlt:k*sz+(j+i)<n*sz:=by
   have:(k+1)*sz≤n*sz:=Nat.mul_le_mul_right _ hkn
   rw [Nat.add_mul] at this;omega
  have hc2:w.cell? ⟨b,off+i,none⟩=cur.toList[k*sz+(j+i)]?:=by simp [World.cell?,h6,hoff,Nat.add_assoc]
  rw [hc2]
  rw [← h8,List.getElem?_take,if_pos hlt] at hg
  rw [hg];exact hu) hr
 simp [execOp,ho,hx hc,Instr.loadAt,Instr.sureAddr,this]
section
variable {o:Oper} {σ:PEnv} {ρ:List PRes} {x y:Operand} {t:Nat} {K:PV→List PRes→Prop} {α:Type} {enc:α→List PV} {xs:List α} {m m':α} {i:Int}
theorem bj {c:Bool} {T sz off n cp:Nat} {p:PV} {a:Option Addr} (i:Int) (j:Nat) (m:α) (ho:o.op=.load t x) (hx:PEv σ c x (.v (.pointer (some ⟨rB a,off,none⟩)))) (hoff:off=i.toNat * sz+j) (hm2:PRes.row a n cp T sz (xs.map enc)∈ρ) (hm:c=true→idx xs i=some m) (hr:gj t ((enc m).drop j)=some p):POpQ c o σ ρ p:=fun κ σ' ρ' g hs hrr=>by
 cases c with
 | false=>exact uy
 | true =>
  obtain ⟨h0,hmm⟩:=hU (hm rfl)
  obtain ⟨r,hr1,hr2⟩:=hrr.mem hm2
  cases hr2 with
  | row hb h1 hss =>
   have hcs:(xs.map enc)[i.toNat]?=some (enc m):=by rw [List.getElem?_map,hmm];rfl
   obtain ⟨ds,hd,hds⟩:=hss.get hcs
   obtain ⟨v,h4,h5⟩:=sN (hds.drop j) (fun u hu=>h1 ds (List.mem_of_getElem? hd) u (List.mem_of_mem_drop hu)) hr
   refine ⟨v,fun _=>h5,fun _ w hst=>?_⟩
   have hw:=hst.own _ hr1
   have hn0:0<n:=by have:=(iX hw).2.1;have:=(List.getElem?_eq_some_iff.1 hd).1;omega
   have ha:=mE hw hn0
   rw [ha] at hr1
   exact rC (c:=true) ho (hs.ve hx) hoff hr1 hd h4 rfl w hst
theorem map_set {xs:List α} {k:Nat}:(xs.map enc).set k (enc m')=(xs.set k m').map enc:=by rw [List.map_set]
theorem dq {T sz sz2 by' off n cp:Nat} {z:Value} {vs:List PV} {ρ':List PRes} {a:Option Addr} (i:Int) (j:Nat) (m m':α) (ho:o.op=.store t x y) (hx:bg σ x=.v (.pointer (some ⟨rB a,off,none⟩))) (hoff:off=i.toNat * sz+j) (hv:fM (bg σ y)=some vs) (hw:∀ m,Nat.beq (enc m).length sz=true)
    (hz:dU t=some (z,sz2,by')) (hsz:Nat.beq vs.length sz2=true) (hm:idx xs i=some m) (hsp:PSplice (enc m) j vs (enc m')) (hu:PUpd ρ (.row a n cp T sz (xs.map enc)) (.row a n cp T sz ((xs.set i.toNat m').map enc)) ρ') (h:K (.v undef) ρ'):POpL o σ ρ K:=fun κ σ' r g hs hr β hinv=>by
  obtain ⟨h0,hmm⟩:=hU hm
  obtain ⟨ws,h1,h2,h3⟩:=(hs.ev y).cells hv
  obtain ⟨r0,l1,l2,rfl,h4,h5⟩:=hr.upd hu
  obtain ⟨hsp1,hl⟩:=hsp
  cases h4 with
  | row hb ho1 hc =>
    rename_i dss
    have hcs:(xs.map enc)[i.toNat]?=some (enc m):=by rw [List.getElem?_map,hmm];rfl
    obtain ⟨ds,hd,hds⟩:=hc.get hcs
    have e1:=h2.len;have e2:=hds.len;have e3:=Nat.eq_of_beq_eq_true hsz;have e4:=Nat.eq_of_beq_eq_true (hw m)
    have hww:=hinv.own (Res.row a n cp T sz dss) (by simp)
    have hn0:0<n:=by have:=(iX hww).2.1;have:=(List.getElem?_eq_some_iff.1 hd).1;omega
    have ha:=mE hww hn0
    generalize hB:rB a=B at ha hx
    subst ha
    refine sL (T:=T) (css:=dss) (cs:=ds) (k:=i.toNat) (j:=j) (sz:=sz) ho (hs.v1 hx) hoff h1 hz (by omega) (List.all_eq_true.2 h3) hd (by omega) ⟨l1,l2,rfl,rfl⟩ (fun κ' hk=>⟨.v undef,ρ',.v rfl,h5 κ' _ hk (.row hb ?_ ?_),h⟩) β hinv
    · intro d hd'
      rcases List.mem_or_eq_of_mem_set hd' with hd' | rfl
      · exact ho1 d hd'
      exact lQ (ho1 ds (List.mem_of_getElem? hd)) h3
    rw [← map_set,hsp1]
    exact (hc.set (lP hds h2)).mono hk
end
section
variable {n:Nat} {ops:Array Oper} {K:PPost} {o:Oper} {r:List (Nat×Oper)} {σ:PEnv} {ρd ρs:List PRes} {d f:Nat} {p:PV} {c:Bool} {l:List Operand} {ts:Array Nat} {pargs:List PV} {v:PV} {x:Operand}
theorem ce (h:K σ (ρd++ρs)):PWD n ops K [] σ ρd ρs:=fun β κ σ' rd rs g hs h1 h2=>wd_nil fun κ1 hk=>⟨σ,ρd++ρs,hs.mono hk,(h1.mono hk).app (h2.mono hk),h⟩
theorem kp (hg:o.guard=none) (hd:o.dst=some d) (hlt:Nat.blt d n=true) (h:POpQ true o σ ρs p) (hw:PWD n ops K r (eb σ d p) ρd ρs):PWD n ops K ((0,o)::r) σ ρd ρs:=fun β κ σ' rd rs g hs h1 h2=>by
 obtain ⟨v,k1,k2⟩:=h κ σ' rs g hs h2
 exact wd_q hg hd hlt k2 (hw β κ _ rd rs g (hs.upd (k1 rfl)) h1 h2)
theorem bX (hg:PGuardIs ops σ o c) (hd:o.dst=some d) (hlt:Nat.blt d n=true) (h:POpQ c o σ ρs p) (hw:PWD n ops K r (eb σ d (pgv c p)) ρd ρs):PWD n ops K ((0,o)::r) σ ρd ρs:=fun β κ σ' rd rs g hs h1 h2=>by
 obtain ⟨v,k1,k2⟩:=h κ σ' rs g hs h2
 exact wd_qg (hg κ σ' hs) hd hlt k2 (hw β κ _ rd rs g (hs.upd (sP k1)) h1 h2)
theorem OpL.framed {o:Oper} {σ:Env} {ρ ρf:List Res} {κ:Kr} {K:Value→List Res→Kr→Prop} (h:OpL o σ ρ κ K):OpL o σ (ρ++ρf) κ fun v ρ' κ'=>∃ ρ1,ρ'=ρ1++ρf∧K v ρ1 κ':=fun β hi Nx hk =>
 h.frame hi Nx fun v ρ' κ' h1 h2 h3=>hk v (ρ'++ρf) κ' h1 h2 ⟨ρ',rfl,h3⟩
theorem hX (hg:o.guard=none) (hd:o.dst=some d) (hlt:Nat.blt d n=true) (h:POpL o σ ρd fun p ρ'=>PWD n ops K r (eb σ d p) ρ' ρs):PWD n ops K ((1,o)::r) σ ρd ρs:=fun β κ σ' rd rs g hs h1 h2 =>
 wd_l hg hd hlt fun κ1 hk=>((h κ1 σ' rd (g.mono hk) (hs.mono hk) (h1.mono hk)).framed (ρf:=rs)).mono fun v ρ' κ' hk' ⟨ρ1,e,pv,ρp,k1,k2,k3⟩ =>
  ⟨ρ1,e,k3 β κ' _ ρ1 rs ((g.mono hk).mono hk') (((hs.mono hk).mono hk').upd k1) k2 ((h2.mono hk).mono hk')⟩
theorem rD (hg:o.guard=none) (hd:o.dst=none) (h:POpL o σ ρd fun _ ρ'=>PWD n ops K r σ ρ' ρs):PWD n ops K ((1,o)::r) σ ρd ρs:=fun β κ σ' rd rs g hs h1 h2 =>
 wd_l0 hg hd fun κ1 hk=>((h κ1 σ' rd (g.mono hk) (hs.mono hk) (h1.mono hk)).framed (ρf:=rs)).mono fun v ρ' κ' hk' ⟨ρ1,e,pv,ρp,k1,k2,k3⟩ =>
  ⟨ρ1,e,k3 β κ' _ ρ1 rs ((g.mono hk).mono hk') ((hs.mono hk).mono hk') k2 ((h2.mono hk).mono hk')⟩
theorem kN {T:Nat} {cs:List PV} {mk:Nat→Value} (hlo:∀ κ σ',Sim κ σ σ'→∃ ds,Rps κ cs ds∧One ds∧LateRun o σ' T ds mk) (hok:∀ b,sM (mk b)=true) (hd:o.dst=some d) (h:∀ b,PWD n ops K r (eb σ d (.v (mk b))) (.b b T cs::ρd) ρs):PWD n ops K ((2,o)::r) σ ρd ρs:=fun β κ σ' rd rs g hs h1 h2=>by
 obtain ⟨ds,k1,k2,k3⟩:=hlo κ σ' hs
 exact wd_late k3 hd fun b κ' hk=>h b β κ' _ _ rs (g.mono hk) ((hs.mono hk).upd (.v (hok b))) (.cons (.b k2 (k1.mono hk)) (h1.mono hk)) (h2.mono hk)
theorem sX {T:Nat} {cs:List PV} {mk:Nat→Value} (hlo:∀ κ σ',Sim κ σ σ'→∃ ds,Rps κ cs ds∧One ds∧LateRun o σ' T ds mk) (h:PWD n ops K r σ ρd ρs):PWD n ops K ((3,o)::r) σ ρd ρs:=fun β κ σ' rd rs g hs h1 h2=>by
 obtain ⟨ds,k1,k2,k3⟩:=hlo κ σ' hs
 exact wd_tell k3 (h β κ σ' rd rs g hs h1 h2)
end
theorem wo {α β:Type} {x:Option α} {f:α→Option β} {r:β} (h:x.bind f=some r):∃ a,x=some a∧f a=some r:=by
 cases x with
 | none=>cases h
 | some a=>exact ⟨a,rfl,h⟩
theorem ns {α:Type} {b:Bool} {x y r:α} (hb:b=true) (h:cond b x y=r):x=r:=by subst hb;exact h
theorem nt {α:Type} {b:Bool} {x y r:α} (hb:b=false) (h:cond b x y=r):y=r:=by subst hb;exact h
def gd {α:Type} [Inhabited α] (c:Bool) (x:Option α):Option α:=cond c x (some default)
theorem cB {α:Type} [Inhabited α] {c:Bool} {x:Option α} {v:α} (h:gd c x=some v) (hc:c=true):x=some v:=by subst hc;exact h
def lb {α β:Type} (x:α) (f:α→Option β):Option β:=f x
theorem cL {α β:Type} {x:α} {f:α→Option β} {r:β} {P:Prop} (h:lb x f=some r) (k:∀ a,x=a→f a=some r→P):P:=k x rfl h
theorem aa {α β:Type} {x:Option α} {f:α→Option β} {r:β} {P:Prop} (h:x.bind f=some r) (k:∀ a,x=some a→f a=some r→P):P:=by
 obtain ⟨a,h1,h2⟩:=wo h;exact k a h1 h2
def nz (b:Int):Option Unit:=if b=0 then none else some ()
theorem nz_some {b:Int} {u:Unit} (h:nz b=some u):b≠0:=by unfold nz at h;split at h;cases h;assumption
def lG (b:Int):Option Unit:=if 0≤b then some () else none
theorem xP {b:Int} {u:Unit} (h:lG b=some u):0≤b:=by unfold lG at h;split at h;assumption;cases h
theorem aC {ρ l m:List PRes} {r:PRes} (h:PPick ρ r l) (h2:l.Perm m):ρ.Perm (r::m):=List.Perm.trans h (List.Perm.cons r h2)
def eI (x:Int):List PV:=[.v (.int .i64 x)]
def eB (x:Int):List PV:=[.v (.int .u8 x)]
def eS (x:ByteArray):List PV:=[.v (.string x)]
def eL {α:Type} (e:α→List PV) (xs:List α):List PV:=[.slc xs.length (xs.map e)]
def xQ (s u:ByteArray):Option ByteArray:=if s.size+u.size≤140737488355328 then some (s++u) else none
theorem xR {s u z:ByteArray} (h:xQ s u=some z):s.size+u.size≤140737488355328∧z=s++u:=by
 unfold xQ at h;split at h
 ·injection h with h;exact ⟨by assumption,h.symm⟩
 cases h
def sub {α:Type} (xs:List α) (lo hi:Int):Option (List α):=if 0≤lo∧lo≤hi∧hi.toNat≤xs.length then some ((xs.take hi.toNat).drop lo.toNat) else none
theorem pa {α:Type} {xs zs:List α} {lo hi:Int} (h:sub xs lo hi=some zs):(0≤lo∧lo≤hi∧hi.toNat≤xs.length)∧zs=(xs.take hi.toNat).drop lo.toNat:=by
 unfold sub at h;split at h
 ·injection h with h;exact ⟨by assumption,h.symm⟩
 cases h
def kv (s:ByteArray) (lo hi:Int):Option ByteArray:=if 0≤lo∧lo≤hi∧hi.toNat≤s.size then some (s.extract lo.toNat hi.toNat) else none
theorem nu {s z:ByteArray} {lo hi:Int} (h:kv s lo hi=some z):(0≤lo∧lo≤hi∧hi.toNat≤s.size)∧z=s.extract lo.toNat hi.toNat:=by
 unfold kv at h;split at h
 ·injection h with h;exact ⟨by assumption,h.symm⟩
 cases h
theorem wq {σ:PEnv} {c:Bool}:c=true→([]:List Operand).map (bg σ)=[]:=fun _=>rfl
theorem pb {σ:PEnv} {c:Bool} {x:Operand} {l:List Operand} {p:PV} {ps:List PV} (h:PEv σ c x p) (hs:c=true→l.map (bg σ)=ps):c=true→(x::l).map (bg σ)=p::ps:=fun hc=>by rw [List.map_cons,h hc,hs hc]
section
variable {o:Oper} {σ:PEnv} {ρ:List PRes} {c:Bool} {x y y2:Operand} {t:Nat} {k k2:IntKind} {a b:Int} {α:Type} {enc:α→List PV} {xs zs:List α}
theorem vr {E:Nat} (ho:o.op=.call { callee:=.builtin .len,args:=#[x],argTypes:=#[t] }) (hu:dv t=some (.slice E)) (hx:PEv σ c x (.slc xs.length (xs.map enc))):POpQ c o σ ρ (.v (.int .i64 (xs.length:Int))):=xO ho hu hx
theorem pq_catT {s u z:ByteArray} {t t':Nat} (ho:o.op=.binOp .add t x y t') (hx:PEv σ c x (.v (.string s))) (hy:PEv σ c y (.v (.string u))) (hb:c=true→xQ s u=some z):POpQ c o σ ρ (.v (.string z)):=fun κ σ' ρ' g hs hr=>by
 cases c with
 | false=>exact uy
 | true =>
  obtain ⟨h1,rfl⟩:=xR (hb rfl)
  exact pq_cat ho hx hy (fun _=>h1) κ σ' ρ' g hs hr
theorem sY {f:Nat} {l:List Operand} (ho:o.op=.makeFunc (.func f) #[] l.toArray):POpQ true o σ ρ (.fn f (l.map (bg σ))):=fun κ σ' ρ' g hs hr =>
 ⟨.func (.func f) #[] (l.map (ev σ')).toArray,fun _=>.fn (gm hs l),by
  have h:=sv (o:=o) (σ:=σ') (ρ:=ρ') (κ:=κ) (fn:=.func f) (l1:=[]) (l2:=l) (by rw [ho])
  simpa using h⟩
theorem Sl.dropT {κ:Kr} {a:Option Addr} {n c sz m:Nat} {css:List (List Value)} (h:Sl κ a n c sz css) (hm:m≤n):Sl κ (if c=m then a else a.map (·.add (m*sz))) (n - m) (c - m) sz (css.drop m) :=
 ⟨by rw [List.length_drop,h.len],by have:=h.cap;omega,fun cs hcs=>h.wid cs (List.mem_of_mem_drop hcs),fun h0=>by
  obtain ⟨b,off,h1,h2⟩:=h.at_ (by omega)
  have hc:=h.cap
  rw [if_neg (by omega),h1]
  refine ⟨b,off+m*sz,by rw [Option.map_some,eF],fun j cs hj=>?_⟩
  have:=h2 (m+j) cs (by rwa [List.getElem?_drop] at hj)
  rwa [Nat.add_mul,← Nat.add_assoc] at this⟩
theorem sZ {dss dss':List (List Value)} (h:Ones dss) (hs:∀ d∈dss',d∈dss):Ones dss':=fun d hd=>h d (hs d hd)
theorem rE {s:ByteArray} {l h:Nat} (hk:sM (.string s)=true):sM (.string (s.extract l h))=true:=by
 have:=Nat.le_of_ble_eq_true hk
 have h2:(s.extract l h).size≤s.size:=by rw [ByteArray.size_extract];omega
 exact Nat.ble_eq_true_of_le (by omega)
theorem tc {s z:ByteArray} (ho:o.op=.slice t x (some y) (some y2) none) (hu:dv t=some .string) (hx:PEv σ c x (.v (.string s))) (hy:PEv σ c y (.v (.int k a))) (hy2:PEv σ c y2 (.v (.int k2 b))) (hm:c=true→kv s a b=some z):POpQ c o σ ρ (.v (.string z)):=fun κ σ' ρ' g hs hrr=>by
 cases c with
 | false=>exact uy
 | true =>
  obtain ⟨⟨h0,h1,h2⟩,rfl⟩:=nu (hm rfl)
  exact ⟨_,fun _=>.v (rE (hs.pe hx rfl).ok),wd (l:=a.toNat) (h:=b.toNat) ho hu (hs.ve hx) (hs.ve hy) (hs.ve hy2) (fun _=>by omega) (fun _=>by omega) (fun _=>by omega) (fun _=>by omega)⟩
theorem uA {s z:ByteArray} (ho:o.op=.slice t x none (some y2) none) (hu:dv t=some .string) (hx:PEv σ c x (.v (.string s))) (hy2:PEv σ c y2 (.v (.int k2 b))) (hm:c=true→kv s 0 b=some z):POpQ c o σ ρ (.v (.string z)):=fun κ σ' ρ' g hs hrr=>by
 cases c with
 | false=>exact uy
 | true =>
  obtain ⟨⟨h0,h1,h2⟩,rfl⟩:=nu (hm rfl)
  exact ⟨_,fun _=>.v (rE (hs.pe hx rfl).ok),nY (h:=b.toNat) ho hu (hs.ve hx) (hs.ve hy2) (fun _=>by omega) (fun _=>by omega)⟩
theorem uB {s z:ByteArray} (ho:o.op=.slice t x (some y) none none) (hu:dv t=some .string) (hx:PEv σ c x (.v (.string s))) (hy:PEv σ c y (.v (.int k a))) (hm:c=true→kv s a (s.size:Int)=some z):POpQ c o σ ρ (.v (.string z)):=fun κ σ' ρ' g hs hrr=>by
 cases c with
 | false=>exact uy
 | true =>
  obtain ⟨⟨h0,h1,h2⟩,rfl⟩:=nu (hm rfl)
  have:=nZ (c:=true) (ρ:=ρ') (κ:=κ) (l:=a.toNat) ho hu (hs.ve hx) (hs.ve hy) (fun _=>by omega) (fun _=>by omega)
  exact ⟨_,fun _=>.v (rE (hs.pe hx rfl).ok),by rw [Int.toNat_natCast];exact this⟩
end
section
variable {σ:PEnv} {ρ l:List PRes} {a:Option Addr} {m c T sz:Nat} {css:List (List PV)} {α:Type} {enc:α→List PV} {xs:List α}
theorem mG (t:Nat) (ht:σ t=.v (.slice a m c)) (hp:PPick ρ (.row a m c T sz (xs.map enc)) l):Cov σ ρ (eb σ t (.slc xs.length (xs.map enc))) (.frz a m c (xs.map enc)::l):=fun _ _ _ h=>e8 t ht hp h
theorem xS (t:Nat) (ht:σ t=.v (.slice a m c)) (hm:PRes.frz a m c (xs.map enc)∈ρ):Cov σ ρ (eb σ t (.slc xs.length (xs.map enc))) ρ:=fun _ _ _ h=>sS t ht hm h
theorem pg (T sz:Nat):Cov σ ρ σ (.row none 0 0 T sz []::ρ):=fun _ _ _ h=>dn T sz h
theorem fa {n:Nat} {x:Code} {K:Exit→PPost} {b k:Nat} {cs:List PV} {ρ':List PRes} (hk:cs[k]?=some (.v (.slice none 0 0))) (hu:PUpd ρ (.b b T cs) (.b b T (cs.set k (.slc 0 []))) ρ') (h:PWC n x K σ ρ'):PWC n x K σ ρ:=fun β κ σ' r g hs hr=>by
 obtain ⟨r0,l1,l2,rfl,h3,h4⟩:=hr.upd hu
 cases h3 with
 | b ho hc =>
  obtain ⟨v,hv,hp⟩:=hc.get hk
  have e:=hp.val
  have hset:=hc.set (k:=k) (p:=.slc 0 []) (v:=v) (by rw [e];exact rt)
  have:∀ (l:List Value) (k:Nat) (v:Value),l[k]?=some v→l.set k v=l:=fun l k v h=>by
   apply List.ext_getElem?;intro i;rw [List.getElem?_set];split
   ·rename_i hik;subst hik;rw [h];have:=(List.getElem?_eq_some_iff.1 h).1;simp [this]
   rfl
  rw [this _ _ _ hv] at hset
  exact h β κ σ' _ g hs (h4 κ _ (.refl _) (.b ho hset))
end
section
variable {o:Oper} {σ:PEnv} {ρ l:List PRes} {a:Option Addr} {m c T sz:Nat} {css:List (List PV)} {K:PV→List PRes→Prop} {α:Type} {enc:α→List PV} {xs:List α}
theorem pl_fz (h:POpL o σ ρ fun p ρ'=>∃ a m c T sz css l,p=.v (.slice a m c)∧PPick ρ' (.row a m c T sz css) l∧K (.slc m css) l):POpL o σ ρ K:=fun κ σ' ρ' g hs hr β hi Nx hn =>
 h κ σ' ρ' g hs hr β hi Nx fun v ρ1 κ1 h1 h2 ⟨p,ρp,k1,k2,a,m,c,T,sz,css,l,e,hp,hk⟩=>by
  subst e
  obtain ⟨r,l',j1,j2,j3⟩:=k2.pick hp
  cases j2 with
  | row hb ho hc =>
   obtain ⟨i1,i2,i3⟩:=rn (h1.perm j1)
   have hv:=k1.val
   subst hv
   have:=hn _ l' (we κ1 a) i1 (h2.trans i2) ⟨.slc m css,l,.slc i3 hb ho (hc.mono i2),j3.mono i2,hk⟩
   rwa [uv] at this
end
section
variable {n:Nat} {ops:Array Oper} {o:Oper} {rest:List Oper} {K:PPost} {σ:PEnv} {ρ ρd ρs:List PRes} {d:Nat} {c:Bool} {l:List Operand} {ts:Array Nat} {pargs:List PV} {r pf:PV} {x:Operand} {lo:List (Nat×Oper)}
theorem og_pfv {κ:Kr} {σ':Env} {ρ':List Res} {KK:Value→Kr→Prop} (g:GOK κ) (hs:Sim κ σ σ') (ho:o.op=.call { callee:=.value x,args:=l.toArray,argTypes:=ts }) (hx:PEv σ c x pf) (ha:c=true→l.map (bg σ)=pargs) (hc:c=true→PFV pf pargs r) (h:∀ v κ',Kle κ κ'→(c=true→Rp κ' r v)→KK v κ'):OpG c o σ' ρ' κ KK:=by
 refine ⟨fun hct=>?_,fun hcf=>h undef κ (.refl _) fun h=>by rw [hcf] at h;cases h⟩
 obtain ⟨f,first,cap,h1,h2⟩:=hc hct κ _ _ g (hs.pe hx hct) (by rw [← ha hct];exact gm hs l)
 exact qy ho h1 rfl h2 fun v κ' hk hv=>⟨rfl,h v κ' hk fun _=>hv⟩
theorem uC (hg:PGuardIs ops σ o c) (hd:o.dst=some d) (hlt:Nat.blt d n=true) (ho:o.op=.call { callee:=.value x,args:=l.toArray,argTypes:=ts }) (hx:PEv σ c x pf) (ha:c=true→l.map (bg σ)=pargs) (hc:c=true→PFV pf pargs r) (h:PWD n ops K lo (eb σ d (pgv c r)) ρd ρs):PWD n ops K ((1,o)::lo) σ ρd ρs:=fun β κ σ' rd rs g hs h1 h2 =>
 wd_g (hg κ σ' hs) hd hlt fun κ1 hk=>og_pfv (g.mono hk) (hs.mono hk) ho hx ha hc fun v κ' hk' hv=>h β κ' _ rd rs ((g.mono hk).mono hk') (((hs.mono hk).mono hk').upd (sP hv)) ((h1.mono hk).mono hk') ((h2.mono hk).mono hk')
end
def flatK:List Field→Nat→List Nat→Bool
 | [],_,[]=>true
 | f::fs,k,q::ks=>(f.name != "_")&&Nat.beq f.offset k&&(match dv f.type,q with | some (.int _),0 | some .bool,1 | some .string,2=>true | _,_=>false)&&flatK fs (k+1) ks
 | _,_,_=>false
def td:List Nat→List Value→List Value→Option Bool
 | [],[],[]=>some true
 | 0::ks,.int k a::xs,.int k' b::ys=>match td ks xs ys with | some r=>cond (decide (k=k')) (some ((a == b)&&r)) none | none=>none
 | 1::ks,.bool a::xs,.bool b::ys=>match td ks xs ys with | some r=>some ((a == b)&&r) | none=>none
 | 2::ks,.string a::xs,.string b::ys=>match td ks xs ys with | some r=>some (decide (a=b)&&r) | none=>none
 | _,_,_=>none
theorem pj (d:Nat) (w:World):∀ (fs:List Field) (k:Nat) (ks:List Nat) (xs ys ax ay:List Value) (r:Bool),flatK fs k ks=true→ax.drop k=xs→ay.drop k=ys→td ks xs ys=some r→(Op.eqFields (d+1) ax.toArray ay.toArray fs).run Tryz.prog w=.ok r w
 | [],k,ks,xs,ys,ax,ay,r,hf,_,_,he=>by
  cases ks with
  | nil =>
   cases xs <;> cases ys <;> simp only [td,reduceCtorEq,da] at he
   subst he;simp [Op.eqFields]
  | cons q ks=>cases hf
 | f::fs,k,ks,xs,ys,ax,ay,r,hf,h1,h2,he=>by
  cases ks with
  | nil=>cases hf
  | cons q ks =>
   simp only [flatK,Bool.and_eq_true,bne_iff_ne,ne_eq] at hf
   obtain ⟨⟨⟨hn,hoff⟩,hty⟩,hrest⟩:=hf
   have hoff:=Nat.eq_of_beq_eq_true hoff
   cases xs with
   | nil=>unfold td at he;split at he <;> simp_all
   | cons x xs =>
    cases ys with
    | nil=>unfold td at he;split at he <;> simp_all
    | cons y ys =>
     have g1:ax[k]?=some x:=by have:=congrArg (·[0]?) h1;simpa [List.getElem?_drop] using this
     have g2:ay[k]?=some y:=by have:=congrArg (·[0]?) h2;simpa [List.getElem?_drop] using this
     have d1:ax.drop (k+1)=xs:=by have:=congrArg (List.drop 1) h1;simpa [List.drop_drop] using this
     have d2:ay.drop (k+1)=ys:=by have:=congrArg (List.drop 1) h2;simpa [List.drop_drop] using this
     cases hd:dv f.type with
     | none=>rw [hd] at hty;cases hty
     | some D =>
      rw [hd] at hty
      have hag:ij D=false:=by
       cases D <;> first | rfl | (exfalso;split at hty <;> simp_all)
      have p1:(part f.type ax.toArray f.offset).run Tryz.prog w=.ok x w:=by simp [part,gF hd,hag,hoff,g1]
      have p2:(part f.type ay.toArray f.offset).run Tryz.prog w=.ok y w:=by simp [part,gF hd,hag,hoff,g2]
      have fin:∀ (q r':Bool),(Op.equalIn (d+1) f.type x y).run Tryz.prog w=.ok q w→td ks xs ys=some r'→(q&&r')=r→(Op.eqFields (d+1) ax.toArray ay.toArray (f::fs)).run Tryz.prog w=.ok r w:=fun q r' hq1 hq2 hq3=>by
       have ih:=pj d w fs (k+1) ks xs ys ax ay r' hrest d1 d2 hq2
       simp only [Op.eqFields,if_pos hn,Sem.run_bind,p1,p2,Result.andThen_ok,hq1]
       cases q
       ·simp at hq3;subst hq3;simp
       simp at hq3;subst hq3;simp [ih]
      cases D with
      | int kk =>
       have hq0:q=0:=by rcases q with _ | _ | _ | q <;> first | rfl | (simp at hty)
       subst hq0
       cases x <;> cases y <;> simp only [td,reduceCtorEq] at he
       rename_i k1 a1 k2 b1
       cases hq:td ks xs ys with
       | none=>rw [hq] at he;cases he
       | some r' =>
        rw [hq] at he
        cases hk:decide (k1=k2) with
        | false=>simp only [hk,eY,reduceCtorEq] at he
        | true =>
         simp only [hk,cZ,da] at he
         have hk:=of_decide_eq_true hk;subst hk
         exact fin (a1 == b1) r' (run_equalIn_int w d f.type k1 kk a1 b1 (br hd)) hq he
      | bool =>
       have hq0:q=1:=by rcases q with _ | _ | _ | q <;> first | rfl | (simp at hty)
       subst hq0
       cases x <;> cases y <;> simp only [td,reduceCtorEq] at he
       rename_i a1 b1
       cases hq:td ks xs ys with
       | none=>rw [hq] at he;cases he
       | some r'=>rw [hq] at he;simp only [da] at he;exact fin (a1 == b1) r' (run_equalIn_bool' w d f.type a1 b1 (br hd)) hq he
      | string =>
       have hq0:q=2:=by rcases q with _ | _ | _ | q <;> first | rfl | (simp at hty)
       subst hq0
       cases x <;> cases y <;> simp only [td,reduceCtorEq] at he
       rename_i a1 b1
       cases hq:td ks xs ys with
       | none=>rw [hq] at he;cases he
       | some r'=>rw [hq] at he;simp only [da] at he;exact fin (decide (a1=b1)) r' (by rw [run_equalIn_string w d f.type a1 b1 (br hd),vi]) hq he
      | _=>exfalso;revert hty;simp
def xU:List PV→Option (List Value)
 | []=>some []
 | .v x::r=>match xU r with | some l=>some (x::l) | none=>none
 | _=>none
theorem oB {κ:Kr}:∀ {cs:List PV} {xs ds:List Value},xU cs=some xs→Rps κ cs ds→ds=xs
 | [],xs,ds,h,hr=>by simp only [xU,da] at h;subst h;exact hr.nil_inv
 | c::cs,xs,ds,h,hr=>by
  obtain ⟨v,ws,rfl,h1,h2⟩:=hr.cons_inv
  cases c with
  | v x =>
   simp only [xU] at h
   cases hu:xU cs with
   | none=>rw [hu] at h;cases h
   | some l=>rw [hu] at h;simp only [da] at h;subst h;rw [h1.val,oB hu h2]
  | _=>cases h
theorem vt {o:Oper} {σ:PEnv} {ρ:List PRes} {c:Bool} {x y:Operand} {op:BinOp} {t t':Nat} {cs ds:List PV} {xs ys:List Value} {r r':Bool} (ks:List Nat) (ho:o.op=.binOp op t x y t') (h1:Tryz.prog.underlying t=some (.struct (Tryz.prog.fieldsOf t))) (h2:Tryz.prog.stoodInHeld t=false) (h3:Tryz.prog.eqGuardType Tryz.prog.depth t=false) (h4:flatK (Tryz.prog.fieldsOf t).toList 0 ks=true)
    (hx:PEv σ c x (.agg cs)) (hy:PEv σ c y (.agg ds)) (hxs:xU cs=some xs) (hys:xU ds=some ys) (he:td ks xs ys=some r) (hr:(match op with | .eql=>some r | .neq=>some (!r) | _=>none)=some r'):POpQ c o σ ρ (.v (.bool r')):=fun κ σ' ρ' g hs hrr=>by
  cases c with
  | false=>exact uy
  | true =>
    refine ⟨.bool r',fun _=>.v rfl,fun _ w _=>?_⟩
    have e1:ev σ' x=.agg xs.toArray:=by
      have:=hs.pe hx rfl;generalize ev σ' x=w1 at this;cases this with
      | agg ho hc=>rw [oB hxs hc]
    have e2:ev σ' y=.agg ys.toArray:=by
      have:=hs.pe hy rfl;generalize ev σ' y=w1 at this;cases this with
      | agg ho hc=>rw [oB hys hc]
    have hrun:(Op.equalIn 10000 t (.agg xs.toArray) (.agg ys.toArray)).run Tryz.prog w=.ok r w:=by
      rw [run_equalIn_struct w 9999 t _ _ h1 h2]
      exact pj 9998 w _ 0 ks xs ys xs ys r h4 rfl rfl he
    simp only [execOp,ho,e1,e2,Sem.run_bind]
    rw [run_eqGuard_agg w op t x y _ _ h3]
    simp only [Result.andThen_ok]
    cases op <;> simp only [reduceCtorEq,da] at hr
    · subst hr;rw [run_eql_struct,hrun];simp
    subst hr;rw [run_neq_struct,hrun];simp
theorem xV {o:Oper} {σ:PEnv} {ρ:List PRes} {x:Operand} {s d e n cp T:Nat} {a:Option Addr} {xs:List Int} (ho:o.op=.convert s d x) (h1:dv s=some (.slice e)) (he:dv e=some (.int .u8)) (hd:dv d=some .string) (hx:bg σ x=.v (.slice a n cp)) (hm:PRes.row a n cp T 1 (xs.map eB)∈ρ) (hn:n=xs.length) {K:PV→List PRes→Prop} (h:K (.v (.string (strOfNums xs))) ρ):POpL o σ ρ K:=fun κ σ' ρ' g hs hrr β hinv=>by
 obtain ⟨r,hr1,hr2⟩:=hrr.mem hm
 cases hr2 with
 | row hb ho1 hss =>
  rename_i dss
  have hrow:=sJ hr1 β hinv
  have hown:=iX (hinv.own _ hr1)
  have hd2:dss=xs.map fun b=>[.int .u8 b]:=by
   clear hrow hown hr1 ho1 hm hx h
   subst hn
   clear hb
   induction xs generalizing dss with
   | nil=>rw [List.map_nil] at hss;rw [hss.nil_inv];rfl
   | cons z zs ih =>
    rw [List.map_cons] at hss
    obtain ⟨v,ws,rfl,k1,k2⟩:=hss.cons_inv
    obtain ⟨v1,w1,rfl,k3,k4⟩:=k1.cons_inv
    rw [ih k2,k3.val,k4.nil_inv];rfl
  subst hd2
  have hq:=xC (c:=true) (ρ:=ρ') (κ:=κ) ho h1 he hd (.p (hs.v1 hx)) (fun _=>xE hr1 (fun h=>by obtain ⟨b,e⟩:=hrow.2 h;rw [e];simp) hrow.1.1 hown.2.2)
  refine ol_q hq ⟨_,ρ,.v ?_,hrr,h⟩ β hinv
  have:(strOfNums xs).size=xs.length:=by simp [strOfNums,ByteArray.size]
  simp only [sM,this];exact Nat.ble_eq_true_of_le (by omega)
end SX
end Go.Proofs.YtknkknahmebbfaaGreatDoor
