/- A part of the proof. No condition. -/
import Derived.Laws.RangeAny
import Derived.Test.YtbedcfghfcmkdaaGreatDoorChecked
import Derived.KernelRfl
import Derived.WalkKit
import Derived.OrdersHeld
import Derived.OrdersIn
import Derived.RangeFuncCalls
import Derived.Laws.CopyRow
import Derived.Laws.StructEq
import Derived.Maps.AppendAt
import Derived.Laws.MakeOwn
import Derived.Laws.BytesArg
import Derived.Lib.LaidTab
import Derived.Lib.ItoaNum
import Derived.Laws.Externs
import Derived.Laws.Cover3
import Derived.MapKept
import Derived.Laws.RangeString
import Derived.Shelf.Strings.Trim
import Derived.Test.YtbedcfghfcmkdaaGreatDoorProg
import Derived.Shelf.Strings.SplitCore
import Derived.Shelf.Strings.OnBuilder
import Derived.Shelf.Strconv.Itoa3
import Derived.Shelf.Strconv.AtoiAll
import Derived.Lib.Split
import Derived.Lib.Join
import Derived.Lib.Index
import Derived.Lib.IndexBytes
import Derived.Below
import Derived.Shelf.SlSorted.Search
import Derived.Shelf.Strings.Search3
import Derived.Shelf.Strings.Count
import Derived.Lib.SplitLaws
import Derived.Shelf.Slices.In.SortNone
import Derived.Shelf.Sort.Plain
import Derived.Maps.RangeRun
import Derived.Lib.AppendStr
import Derived.Lib.UnsafeStr
import Derived.ChangeArms
import Derived.DataReads
import GoSem.ClaimJoined
import Derived.Test.YtbedcfghfcmkdaaGreatDoorRows
import Derived.ChangeSame
import Derived.ChangeVars
import Derived.JoinedOf
import Derived.RowKit
import Derived.RowKitTokens
import Derived.LaidLaws
import Derived.LaidHandle
import Derived.Lib.LaidU8
import Derived.Carry
import Derived.Handed
import Derived.ChangeOld
import Derived.SevenTiedAt
import Derived.Test.YtbedcfghfcmkdaaGreatDoorCards
import Derived.Test.YtbedcfghfcmkdaaGreatDoorTie
open Bool (and_eq_true not_eq_true' or_eq_true)
open Nat (add_assoc add_mul add_zero ble_eq_true_of_le eq_of_beq_eq_true eq_zero_or_pos le_of_ble_eq_true le_refl le_succ le_trans lt_of_lt_of_le lt_or_ge mul_comm zero_add)
open List (append_assoc cons_append eq_nil_of_length_eq_zero ext_getElem? filter_cons flatten_cons foldl_cons length_append length_cons length_drop length_map length_nil length_take map_append map_cons map_nil map_toArray mem_cons mem_cons_of_mem mem_cons_self mem_map_of_mem mem_of_getElem? mem_of_mem_drop mem_of_mem_take nil_append not_mem_nil perm_middle zipIdx_cons)
open Go.IntKind (i64 u64 u8 u32 i32)
set_option linter.unusedVariables false
set_option linter.unusedSimpArgs false
set_option maxHeartbeats 4000000
set_option maxRecDepth 100000
namespace Go.Proofs.YtbedcfghfcmkdaaGreatDoor
abbrev Xh:=ByteArray
abbrev Uh:=ByteArray.empty
namespace SX
open Go
theorem Vh {α:Type _} {l:List α}:l.Perm l:=List.Perm.refl _
def fl (s:String) (t o b:Nat):Field:=⟨s,t,o,false, "", "",b⟩
def fq (s:String) (t o:Nat) (p:String) (b:Nat):Field:=⟨s,t,o,false, "",p,b⟩
def lk {α:Type} (t:Nat):List (Nat×α)->Option α
 | []=>none
 | (k,d)::l=>cond (Nat.beq t k) (some d) (lk t l)
def pk {α:Type} (t:Nat):List (Nat×List (Nat×α))->Option α
 | []=>none
 | (n,l)::r=>cond (Nat.blt t n) (lk t l) (pk t r)
def evi {α β:Type} (f:Nat->β):List (Nat×α)->List β
 | []=>[]
 | p::l=>f p.1::evi f l
theorem Cy {α β:Type} {f:Nat->β} {g:α->β}:{l:List (Nat×α)}->evi f l=l.map (fun p=>g p.2)->∀ p∈l,f p.1=g p.2
 | [],_,p,q=>by cases q
 | x::l,h,p,q=>by
  have h1:f x.1=g x.2:=(List.cons.inj h).1
  have h2:evi f l=l.map (fun p=>g p.2):=(List.cons.inj h).2
  cases q with
  | head=>exact h1
  | tail _ q=>exact Cy h2 p q
theorem lk_ok {α β:Type} {f:Nat->β} {g:α->β} {t:Nat} {d:α}:{l:List (Nat×α)}->(∀ p∈l,f p.1=g p.2)->lk t l=some d->f t=g d
 | [],_,e=>by cases e
 | (k,v)::l,h,e=>by
  unfold lk at e
  cases c:Nat.beq t k
  ·rw [c] at e;exact lk_ok (fun p q=>h p (List.Mem.tail _ q)) e
  rw [c] at e;injection e with e;subst e;rw [eq_of_beq_eq_true c];exact h _ (List.Mem.head _)
theorem F2 {α β:Type} {f:Nat->β} {g:α->β} {t:Nat} {d:α}:{L:List (Nat×List (Nat×α))}->(∀ p∈L.flatMap (·.2),f p.1=g p.2)->pk t L=some d->f t=g d
 | [],_,e=>by cases e
 | (n,l)::r,h,e=>by
  unfold pk at e
  rw [List.flatMap_cons] at h
  cases c:Nat.blt t n
  ·rw [c] at e;exact F2 (fun p q=>h p (List.mem_append_right _ q)) e
  rw [c] at e;exact lk_ok (fun p q=>h p (List.mem_append_left _ q)) e
abbrev du0:TypeDesc:=.struct #[fq "x" 2 0 "runtime" 0,fq "y" 3 1 "runtime" 8,fq "signed" 4 2 "runtime" 16,fq "code" 6 3 "runtime" 17]
abbrev du1:TypeDesc:=.struct #[fq "msg" 9 0 "runtime" 0,fq "addr" 12 1 "runtime" 16]
abbrev du2:TypeDesc:=.struct #[fl "Words" 28 0 0,fl "Materials" 29 1 24,fl "Parts" 30 2 48,fl "Incomplete" 4 3 72]
abbrev du3:TypeDesc:=.struct #[fl "Code" 9 0 0,fl "Origin" 9 1 16,fl "Proof" 4 2 32,fl "Company" 3 3 40,fl "Day" 3 4 48,fl "Quantity" 3 5 56,fl "Value" 3 6 64,fl "Granted" 3 7 72]
abbrev du4:TypeDesc:=.struct #[fl "Scope" 9 0 0,fl "Words" 28 1 16,fl "Target" 9 2 40]
abbrev du5:TypeDesc:=.struct #[fl "Rate" 3 0 0,fl "Amount" 3 1 8,fl "Per" 3 2 16,fl "HasMost" 4 3 24,fl "Most" 3 4 32,fl "HasLeast" 4 5 40,fl "Least" 3 6 48]
abbrev du6:TypeDesc:=.struct #[fl "ID" 3 0 0,fl "Kind" 3 1 8,fl "Prefix" 9 2 16,fl "Origins" 28 3 32,fl "Company" 3 4 56,fl "From" 3 5 64,fl "To" 3 6 72,fl "Registered" 3 7 80,fl "Duty" 78 8 88]
abbrev du7:TypeDesc:=.struct #[fq "addr" 89 0 "strings" 0,fq "buf" 90 1 "strings" 8]
abbrev du8:TypeDesc:=.struct #[fl "Code" 9 0 0,fl "From" 3 1 16,fl "To" 3 2 24,fl "Terms" 93 3 32,fl "Other" 4 4 56]
abbrev du9:TypeDesc:=.struct #[fl "Parent" 9 0 0,fl "Basis" 3 1 16,fl "Candidates" 28 2 24,fl "Rule" 3 3 48,fl "Chosen" 9 4 56]
abbrev du10:TypeDesc:=.struct #[fq "quantity" 3 0 "customs/assess" 0,fq "value" 3 1 "customs/assess" 8,fq "kinds" 22 2 "customs/assess" 16]
abbrev du11:TypeDesc:=.struct #[fl "Kind" 3 0 0,fl "Measure" 3 1 8,fl "Quantity" 3 2 16,fl "Value" 3 3 24,fl "Amount" 3 4 32]
abbrev du12:TypeDesc:=.struct #[fl "Currency" 9 0 0,fl "Day" 3 1 16,fl "Lines" 140 2 24,fl "Charges" 141 3 48]
abbrev du13:TypeDesc:=.struct #[fq "book" 26 0 "customs/classify" 0,fq "good" 32 2 "customs/classify" 48,fq "parent" 9 6 "customs/classify" 128,fq "entries" 23 7 "customs/classify" 144]
abbrev du14:TypeDesc:=.struct #[fl "Kind" 3 0 0,fl "Amount" 3 1 8,fl "Currency" 9 2 16,fl "Basis" 3 3 32,fl "Line" 3 4 40]
abbrev du15:TypeDesc:=.struct #[fq "code" 9 0 "customs/nomenclature" 0,fq "from" 3 1 "customs/nomenclature" 16]
abbrev du16:TypeDesc:=.struct #[fq "index" 3 0 "customs/apportion" 0,fq "share" 233 1 "customs/apportion" 8,fq "rest" 233 2 "customs/apportion" 16]
abbrev du17:TypeDesc:=.struct #[fq "compare" 239 0 "customs/apportion" 0]
abbrev du18:TypeDesc:=.struct #[fl "Func" 9 0 0,fl "Num" 9 1 16,fl "Err" 97 2 32]
abbrev du19:TypeDesc:=.struct #[fl "Currency" 9 0 0,fl "From" 3 1 16,fl "PerUnit" 3 2 24]
abbrev du20:TypeDesc:=.struct #[fq "lo" 5 0 "unicode/utf8" 0,fq "hi" 5 1 "unicode/utf8" 1]
abbrev du21:TypeDesc:=.struct #[fq "_interface" 17 0 "runtime" 0,fq "concrete" 17 1 "runtime" 8,fq "asserted" 17 2 "runtime" 16,fq "missingMethod" 9 3 "runtime" 24]
abbrev du22:TypeDesc:=.struct #[fl "Size_" 12 0 0,fl "PtrBytes" 12 1 8,fl "Hash" 301 2 16,fl "TFlag" 368 3 20,fl "Align_" 5 4 21,fl "FieldAlign_" 5 5 22,fl "Kind_" 369 6 23,fl "Equal" 370 7 24,fl "GCData" 156 8 32,fl "Str" 371 9 40,fl "PtrToThis" 372 10 44]
abbrev pT:Value:=.nilFunc
abbrev dv1:Value:=.agg #[.int .i64 0,.int .i64 0,.bool false,.int .u8 0]
abbrev DD:Value:=.pointer none
abbrev AV:Value:=.slice none 0 0
abbrev dv4:Value:=.agg #[.slice none 0 0,.slice none 0 0,.slice none 0 0,.bool false]
abbrev dv5:Value:=.agg #[.string Uh,.string Uh,.bool false,.int .i64 0,.int .i64 0,.int .i64 0,.int .i64 0,.int .i64 0]
abbrev dv6:Value:=.agg #[.slice none 0 0,.int .i64 0]
abbrev dv7:Value:=.agg #[.string Uh,.slice none 0 0,.string Uh]
abbrev dv8:Value:=.agg #[.string Uh,.int .i64 0]
abbrev dv9:Value:=.agg #[.int .i64 0,.int .i64 0,.int .i64 0,.bool false,.int .i64 0,.bool false,.int .i64 0]
abbrev dv10:Value:=.agg #[.int .i64 0,.int .i64 0,.string Uh,.slice none 0 0,.int .i64 0,.int .i64 0,.int .i64 0,.int .i64 0,.int .i64 0,.int .i64 0,.int .i64 0,.bool false,.int .i64 0,.bool false,.int .i64 0]
abbrev dv11:Value:=.agg #[.string Uh,.int .i64 0,.int .i64 0,.slice none 0 0,.bool false]
abbrev dv12:Value:=.agg #[.string Uh,.int .i64 0,.slice none 0 0,.int .i64 0,.string Uh]
abbrev dv13:Value:=.agg #[.int .i64 0,.int .i64 0,.int .i64 0,.int .i64 0,.int .i64 0]
abbrev dv14:Value:=.agg #[.string Uh,.int .i64 0,.slice none 0 0,.slice none 0 0]
abbrev dv15:Value:=.agg #[.slice none 0 0,.slice none 0 0,.slice none 0 0,.slice none 0 0,.slice none 0 0,.bool false,.string Uh,.slice none 0 0]
abbrev dv16:Value:=.agg #[.int .i64 0,.int .i64 0,.string Uh,.int .i64 0,.int .i64 0]
abbrev dv17:Value:=.agg #[.string Uh,.string Uh,.nilIface]
abbrev dv18:Value:=.agg #[.string Uh,.int .i64 0,.int .i64 0]
abbrev dv19:Value:=.agg #[.int .u8 0,.int .u8 0,.int .u8 0,.int .u8 0,.int .u8 0,.int .u8 0,.int .u8 0,.int .u8 0,.int .u8 0,.int .u8 0,.int .u8 0,.int .u8 0,.int .u8 0,.int .u8 0,.int .u8 0,.int .u8 0,.int .u8 0,.int .u8 0,.int .u8 0,.int .u8 0,.int .u8 0,.int .u8 0,.int .u8 0,.int .u8 0,.int .u8 0,.int .u8 0,.int .u8 0,.int .u8 0,.int .u8 0,.int .u8 0,.int .u8 0,.int .u8 0]
abbrev dv20:Value:=.agg #[.pointer none,.pointer none,.pointer none,.string Uh]
abbrev dv21:Value:=.agg #[.int .u64 0,.int .u64 0,.int .u32 0,.int .u8 0,.int .u8 0,.int .u8 0,.int .u8 0,.nilFunc,.pointer none,.int .i32 0,.int .i32 0]
def uL:List (Nat×List (Nat×TypeDesc)):=[(9,[(0,.tuple #[]),(1,.func #[] #[] false),(2,.int .i64),(3,.int .i64),(4,.bool),(5,.int .u8),(6,.int .u8),(7,du0),(8,du0)]),(18,[(9,.string),(10,.string),(11,.string),(12,.int .u64),(13,du1),(14,du1),(15,.pointer 364),(16,.pointer 367),(17,.pointer 374)]),(27,[(18,.struct #[fq "typ" 17 0 "internal/runtime/maps" 0]),(19,.struct #[fq "typ" 17 0 "internal/runtime/maps" 0]),(20,.interface #[]),(21,.int .i32),(22,.slice 3),(23,.slice 95),(24,.slice 70),(25,.struct #[fl "Entries" 23 0 0,fl "Notes" 24 1 24]),(26,.struct #[fl "Entries" 23 0 0,fl "Notes" 24 1 24])]),(38,[(27,.func #[22] #[26] false),(28,.slice 9),(29,.slice 74),(30,.slice 76),(31,du2),(32,du2),(34,.slice 81),(36,du3),(37,du3)]),(49,[(40,.int .i64),(41,.tuple #[26,3,40]),(42,.func #[9] #[26,3,40] false),(43,.func #[26] #[9] false),(44,.tuple #[32,40]),(45,.func #[9] #[32,40] false),(46,.func #[32] #[9] false),(47,.tuple #[34,3,40]),(48,.func #[9] #[34,3,40] false)]),(58,[(49,.func #[34] #[9] false),(50,.slice 120),(51,.tuple #[9,50,40]),(52,.func #[26,3,32] #[9,50,40] false),(53,.func #[50,50] #[4] false),(54,.func #[9] #[9] false),(55,.slice 132),(56,.struct #[fl "Lines" 55 0 0,fl "Total" 3 1 24]),(57,.struct #[fl "Lines" 55 0 0,fl "Total" 3 1 24])]),(72,[(58,.tuple #[57,40]),(63,.pointer 66),(65,.struct #[fl "L" 22 0 0,fl "I" 3 1 24]),(66,.struct #[fl "L" 22 0 0,fl "I" 3 1 24]),(67,.func #[3] #[3] false),(68,.func #[3] #[28] false),(69,du4),(70,du4),(71,.func #[9,3] #[23] false)]),(83,[(73,.struct #[fl "Name" 9 0 0,fl "Share" 3 1 16]),(74,.struct #[fl "Name" 9 0 0,fl "Share" 3 1 16]),(75,.struct #[fl "Words" 28 0 0,fl "Share" 3 1 24]),(76,.struct #[fl "Words" 28 0 0,fl "Share" 3 1 24]),(77,du5),(78,du5),(80,du6),(81,du6),(82,.func #[3] #[9] false)]),(95,[(84,.tuple #[9,9,4]),(85,.func #[9,9] #[9,9,4] false),(87,.pointer 26),(89,.pointer 92),(90,.slice 5),(91,du7),(92,du7),(93,.slice 28),(94,du8)]),(104,[(95,du8),(96,.interface #[("Error",102)]),(97,.interface #[("Error",102)]),(98,.tuple #[3,97]),(99,.func #[9] #[3,97] false),(100,.func #[95] #[9] false),(101,.func #[70] #[9] false),(102,.func #[] #[9] false),(103,.func #[9,9] #[28] false)]),(113,[(104,.tuple #[9,4]),(105,.func #[9,9] #[9,4] false),(106,.tuple #[9,3]),(107,.func #[9] #[9,3] false),(108,.func #[32] #[40] false),(109,.func #[28,9] #[9] false),(110,.tuple #[81,4]),(111,.func #[9] #[81,4] false),(112,.func #[34] #[40] false)]),(122,[(113,.func #[81] #[9] false),(114,.func #[5] #[97] false),(115,.tuple #[3,23]),(116,.func #[26,3,32,9] #[3,23] false),(117,.tuple #[3,95]),(118,.func #[26,32,3,23] #[3,95] false),(119,du9),(120,du9),(121,.func #[120,120] #[4] false)]),(134,[(122,.func #[37] #[40] false),(125,.func #[81] #[4] false),(126,.slice 130),(127,.tuple #[126,40]),(129,du10),(130,du10),(131,du11),(132,du11),(133,.tuple #[132,4,40])]),(149,[(136,.tuple #[22,40]),(138,.struct #[fl "Price" 3 0 0,fl "Weight" 3 1 8]),(139,.struct #[fl "Price" 3 0 0,fl "Weight" 3 1 8]),(140,.slice 139),(141,.slice 195),(142,du12),(143,du12),(144,.tuple #[3,40]),(148,.tuple #[70,4])]),(177,[(150,.tuple #[95,4]),(156,.pointer 5),(164,.pointer 3),(165,.tuple #[78,40]),(171,du13),(172,du13),(173,.func #[172] #[23] false),(175,.struct #[fq "basis" 3 0 "customs/classify" 0,fq "choose" 173 1 "customs/classify" 8]),(176,.slice 175)]),(210,[(182,.func #[9] #[4] false),(190,.slice 325),(193,.int .i64),(194,du14),(195,du14),(200,du15),(201,du15),(204,.unsafePointer),(209,.slice 22)]),(238,[(211,.tuple #[78,4]),(213,.array 4 3),(220,.func #[95] #[4] false),(223,.func #[76] #[4] false),(227,.func #[76,76] #[3] false),(232,.slice 238),(233,.int .u64),(234,.tuple #[233,40]),(237,du16)]),(256,[(238,du16),(239,.func #[238,238] #[3] false),(240,du17),(241,du17),(243,.struct #[fl "Hi" 233 0 0,fl "Lo" 233 1 8]),(244,.struct #[fl "Hi" 233 0 0,fl "Lo" 233 1 8]),(246,.func #[3] #[244] false),(247,.tuple #[244,40]),(255,.int .u64)]),(276,[(256,.tuple #[21,3]),(258,.int .i64),(259,.tuple #[2,97]),(261,.pointer 307),(265,.array 24 5),(268,.tuple #[90,9]),(270,.tuple #[28,4]),(272,.pointer 78),(275,.array 256 4)]),(305,[(276,.array 256 4),(277,.tuple #[276,4]),(280,.pointer 276),(292,.tuple #[233,233]),(297,.tuple #[3,4]),(298,.map 9 3),(301,.int .u32),(302,.tuple #[301,301]),(304,.tuple #[233,97])]),(329,[(306,du18),(307,du18),(310,.array 20 233),(311,.array 65 5),(316,.map 9 4),(324,du19),(325,du19),(327,.array 256 5),(328,du20)]),(351,[(329,du20),(330,.array 16 329),(332,.pointer 334),(333,.struct #[fq "s" 9 0 "errors" 0]),(334,.struct #[fq "s" 9 0 "errors" 0]),(338,.int .i64),(339,.tuple #[3,338]),(349,.array 32 5),(350,.array 64 5)]),(369,[(352,.int .u64),(359,.pointer 352),(360,.tuple #[3,3]),(363,du21),(364,du21),(365,.array 0 16),(366,.struct #[fq "_" 365 0 "runtime" 0]),(367,.struct #[fq "_" 365 0 "runtime" 0]),(368,.int .u8)]),(375,[(369,.int .u8),(370,.func #[204,204] #[4] false),(371,.int .i32),(372,.int .i32),(373,du22),(374,du22)])]
def fQ (t:Nat):Option TypeDesc:=pk t uL
theorem bD {t:Nat} {d:TypeDesc}:fQ t=some d->Tryz.prog.underlying t=some d:=F2 (f:=Tryz.prog.underlying) (g:=some) (Cy (by kernel_rfl))
def iL:List (Nat×List (Nat×Value×Nat×Nat)):=[(10,[(1,pT,1,8),(2,.int .i64 0,1,8),(3,.int .i64 0,1,8),(4,.bool false,1,1),(5,.int .u8 0,1,1),(6,.int .u8 0,1,1),(7,dv1,4,24),(8,dv1,4,24),(9,.string Uh,1,16)]),(19,[(10,.string Uh,1,16),(11,.string Uh,1,16),(12,.int .u64 0,1,8),(13,.agg #[.string Uh,.int .u64 0],2,24),(14,.agg #[.string Uh,.int .u64 0],2,24),(15,DD,1,8),(16,DD,1,8),(17,DD,1,8),(18,.agg #[.pointer none],1,8)]),(28,[(19,.agg #[.pointer none],1,8),(20,.nilIface,1,16),(21,.int .i32 0,1,4),(22,AV,1,24),(23,AV,1,24),(24,AV,1,24),(25,.agg #[.slice none 0 0,.slice none 0 0],2,48),(26,.agg #[.slice none 0 0,.slice none 0 0],2,48),(27,pT,1,8)]),(41,[(28,AV,1,24),(29,AV,1,24),(30,AV,1,24),(31,dv4,4,80),(32,dv4,4,80),(34,AV,1,24),(36,dv5,8,80),(37,dv5,8,80),(40,.int .i64 0,1,8)]),(54,[(42,pT,1,8),(43,pT,1,8),(45,pT,1,8),(46,pT,1,8),(48,pT,1,8),(49,pT,1,8),(50,AV,1,24),(52,pT,1,8),(53,pT,1,8)]),(69,[(54,pT,1,8),(55,AV,1,24),(56,dv6,2,32),(57,dv6,2,32),(63,DD,1,8),(65,dv6,2,32),(66,dv6,2,32),(67,pT,1,8),(68,pT,1,8)]),(79,[(69,dv7,3,56),(70,dv7,3,56),(71,pT,1,8),(73,dv8,2,24),(74,dv8,2,24),(75,dv6,2,32),(76,dv6,2,32),(77,dv9,7,56),(78,dv9,7,56)]),(93,[(80,dv10,15,144),(81,dv10,15,144),(82,pT,1,8),(85,pT,1,8),(87,DD,1,8),(89,DD,1,8),(90,AV,1,24),(91,.agg #[.pointer none,.slice none 0 0],2,32),(92,.agg #[.pointer none,.slice none 0 0],2,32)]),(103,[(93,AV,1,24),(94,dv11,5,64),(95,dv11,5,64),(96,.nilIface,1,16),(97,.nilIface,1,16),(99,pT,1,8),(100,pT,1,8),(101,pT,1,8),(102,pT,1,8)]),(115,[(103,pT,1,8),(105,pT,1,8),(107,pT,1,8),(108,pT,1,8),(109,pT,1,8),(111,pT,1,8),(112,pT,1,8),(113,pT,1,8),(114,pT,1,8)]),(130,[(116,pT,1,8),(118,pT,1,8),(119,dv12,5,72),(120,dv12,5,72),(121,pT,1,8),(122,pT,1,8),(125,pT,1,8),(126,AV,1,24),(129,.agg #[.int .i64 0,.int .i64 0,.slice none 0 0],3,40)]),(144,[(130,.agg #[.int .i64 0,.int .i64 0,.slice none 0 0],3,40),(131,dv13,5,40),(132,dv13,5,40),(138,.agg #[.int .i64 0,.int .i64 0],2,16),(139,.agg #[.int .i64 0,.int .i64 0],2,16),(140,AV,1,24),(141,AV,1,24),(142,dv14,4,72),(143,dv14,4,72)]),(191,[(156,DD,1,8),(164,DD,1,8),(171,dv15,8,168),(172,dv15,8,168),(173,pT,1,8),(175,.agg #[.int .i64 0,.nilFunc],2,16),(176,AV,1,24),(182,pT,1,8),(190,AV,1,24)]),(221,[(193,.int .i64 0,1,8),(194,dv16,5,48),(195,dv16,5,48),(200,dv8,2,24),(201,dv8,2,24),(204,DD,1,8),(209,AV,1,24),(213,.agg #[.int .i64 0,.int .i64 0,.int .i64 0,.int .i64 0],4,32),(220,pT,1,8)]),(242,[(223,pT,1,8),(227,pT,1,8),(232,AV,1,24),(233,.int .u64 0,1,8),(237,.agg #[.int .i64 0,.int .u64 0,.int .u64 0],3,24),(238,.agg #[.int .i64 0,.int .u64 0,.int .u64 0],3,24),(239,pT,1,8),(240,.agg #[.nilFunc],1,8),(241,.agg #[.nilFunc],1,8)]),(276,[(243,.agg #[.int .u64 0,.int .u64 0],2,16),(244,.agg #[.int .u64 0,.int .u64 0],2,16),(246,pT,1,8),(255,.int .u64 0,1,8),(258,.int .i64 0,1,8),(261,DD,1,8),(265,.agg #[.int .u8 0,.int .u8 0,.int .u8 0,.int .u8 0,.int .u8 0,.int .u8 0,.int .u8 0,.int .u8 0,.int .u8 0,.int .u8 0,.int .u8 0,.int .u8 0,.int .u8 0,.int .u8 0,.int .u8 0,.int .u8 0,.int .u8 0,.int .u8 0,.int .u8 0,.int .u8 0,.int .u8 0,.int .u8 0,.int .u8 0,.int .u8 0],24,24),(272,DD,1,8),(275,.agg (List.replicate 256 (.bool false)).toArray,256,256)]),(317,[(276,.agg (List.replicate 256 (.bool false)).toArray,256,256),(280,DD,1,8),(298,.map none,1,8),(301,.int .u32 0,1,4),(306,dv17,3,48),(307,dv17,3,48),(310,.agg #[.int .u64 0,.int .u64 0,.int .u64 0,.int .u64 0,.int .u64 0,.int .u64 0,.int .u64 0,.int .u64 0,.int .u64 0,.int .u64 0,.int .u64 0,.int .u64 0,.int .u64 0,.int .u64 0,.int .u64 0,.int .u64 0,.int .u64 0,.int .u64 0,.int .u64 0,.int .u64 0],20,160),(311,.agg (List.replicate 65 (.int .u8 0)).toArray,65,65),(316,.map none,1,8)]),(335,[(324,dv18,3,32),(325,dv18,3,32),(327,.agg (List.replicate 256 (.int .u8 0)).toArray,256,256),(328,.agg #[.int .u8 0,.int .u8 0],2,2),(329,.agg #[.int .u8 0,.int .u8 0],2,2),(330,dv19,32,32),(332,DD,1,8),(333,.agg #[.string Uh],1,16),(334,.agg #[.string Uh],1,16)]),(367,[(338,.int .i64 0,1,8),(349,dv19,32,32),(350,.agg (List.replicate 64 (.int .u8 0)).toArray,64,64),(352,.int .u64 0,1,8),(359,DD,1,8),(363,dv20,4,40),(364,dv20,4,40),(365,.agg #[],0,0),(366,.agg #[],0,0)]),(375,[(367,.agg #[],0,0),(368,.int .u8 0,1,1),(369,.int .u8 0,1,1),(370,pT,1,8),(371,.int .i32 0,1,4),(372,.int .i32 0,1,4),(373,dv21,11,48),(374,dv21,11,48)])]
def iE (t:Nat):Option (Value×Nat×Nat):=pk t iL
noncomputable def iF (t:Nat):Option (Option Value×Nat×Nat):=(Tryz.prog.info? t).map (fun i=>(i.zero,i.size,i.bytes))
def iG (d:Value×Nat×Nat):Option (Option Value×Nat×Nat):=some (some d.1,d.2.1,d.2.2)
theorem inf_ok {t:Nat} {d:Value×Nat×Nat} (h:iE t=some d):(Tryz.prog.info? t).map (fun i=>(i.zero,i.size,i.bytes))=some (some d.1,d.2.1,d.2.2):=F2 (L:=iL) (f:=iF) (g:=iG) (Cy (by kernel_rfl)) h
def tZ (t:Nat):Option (List (Nat×Nat)):=match fQ t with
 | some (.struct fs)=>some (fs.toList.map fun fd=>(fd.offset,fd.type))
 | _=>none
def FldOk (t:Nat) (l:List (Nat×Nat)):Prop:=∃ fs:Array Field,fQ t=some (.struct fs)/\fs.toList.map (fun fd=>(fd.offset,fd.type))=l
theorem DE {t:Nat} {l:List (Nat×Nat)} (h:tZ t=some l):FldOk t l:=by
 unfold tZ at h
 split at h
 ·rename_i fs e;exact ⟨fs,e,Option.some.inj h⟩
 cases h
theorem fP {α β:Type} (a:α) (f:α->Option β):Option.bind (some a) f=f a:=rfl
theorem dq {α:Type _} {a b:α}:(bif false then a else b)=b:=rfl
theorem cQ {α:Type _} {a b:α}:(bif true then a else b)=a:=rfl
theorem bz {p:Prop} [Decidable p] (h:¬p):decide p=false:=decide_eq_false h
theorem det {p:Prop} [Decidable p] (h:p):decide p=true:=decide_eq_true h
theorem gn {α:Type _} {a b:α}:(some a=some b)=(a=b):=Option.some.injEq a b
theorem vZ {p:Program} {w w':World} {at_:Addr} {u:TypeId} {k:Addr} {v:Value} {b:Bool} {l:List Addr} (h:w.viewStore p at_ u k v b=.ok (w',l)):w'.drawn=w.drawn:=by
 unfold World.viewStore at h
 have hth:∀ {α:Type} (e:String),(MonadExcept.throw e:Except String α)=Except.error e:=fun _=>rfl
 simp only [bind,Except.bind,pure,Except.pure,hth] at h
 split at h
 ·cases h
 split at h
 ·cases h
 split at h
 ·split at h
  ·cases h
  split at h
  ·cases h
  injection h with h;injection h with h1 h2;subst h1;rfl
 cases h
theorem uT {α:Type}:∀ (a:Ask α) (w:World),w.drawn<=(w.ask a).2.drawn
 | .done _,w=>le_refl _
 | .ask what range k,w=>by
  unfold World.ask
  simp only
  split
  ·exact uT _ _
  exact le_trans (le_succ _) (uT (k _) { w with drawn:=w.drawn+1 })
theorem EF (w:World) (c:Sys):w.drawn<=(w.sys c).2.drawn:=by
 have h:=uT (Kernel.perform c w.os) w
 unfold World.sys
 generalize w.ask (Kernel.perform c w.os)=q at h ⊢
 obtain ⟨⟨r,os⟩,w1⟩:=q
 cases r <;> first | exact le_refl _ | exact h
theorem oA {α:Type} (p:Program):∀ (s:Sem α) (w:World) (a:α) (w':World),s.run p w=.ok a w'->w.drawn<=w'.drawn:=by
  intro s
  induction s with
  | pure a=>intro w a' w' h;simp only [Sem.run] at h;injection h with h1 h2;subst h2;exact le_refl _
  | load m a k ih =>
    intro w a' w' h;simp only [Sem.run] at h
    split at h
    · exact ih _ _ _ _ h
    · split at h
      · exact ih _ _ _ _ h
      · cases h
  | store m a v k ih =>
    intro w a' w' h
    cases v <;> simp only [Sem.run] at h <;> first
      | (cases h;done)
      | (split at h
         · split at h
           · cases h
           have:=ih _ _ _ h;exact this
         · split at h
           · rename_i w1 l1 hf
             have:=ih _ _ _ h
             unfold World.farStore at hf
             split at hf
             · split at hf
               · rename_i r hv;injection hf with hf;subst hf;rw [<- vZ hv];exact this
               cases hf
             cases hf
           · cases h)
  | new o k ih=>intro w a' w' h;simp only [Sem.run] at h;have:=ih _ _ _ _ h;exact this
  | shape r k ih=>intro w a' w' h;simp only [Sem.run] at h;exact ih _ _ _ _ h
  | freeze a n k ih=>intro w a' w' h;simp only [Sem.run] at h;have:=ih _ _ _ h;unfold World.freeze at this;split at this <;> exact this
  | frozen a k ih=>intro w a' w' h;simp only [Sem.run] at h;exact ih _ _ _ _ h
  | getObj r k ih =>
    intro w a' w' h;simp only [Sem.run] at h
    split at h
    · cases h
    · exact ih _ _ _ _ h
    · cases h
  | setObj r o k ih =>
    intro w a' w' h;simp only [Sem.run] at h
    split at h
    · cases h
    · have:=ih _ _ _ h;exact this
    · cases h
  | choose q k ih =>
    intro w a' w' h;simp only [Sem.run] at h
    split at h
    · exact ih _ _ _ _ h
    · have:=ih _ _ _ _ h;exact le_trans (le_succ _) this
  | sys c k ih=>intro w a' w' h;simp only [Sem.run] at h;exact le_trans (EF w c) (ih _ _ _ _ h)
  | program k ih=>intro w a' w' h;simp only [Sem.run] at h;exact ih _ _ _ _ h
  | mark m k ih=>intro w a' w' h;simp only [Sem.run] at h;exact ih _ _ _ h
  | halt h=>intro w a' w' hh;simp only [Sem.run] at hh;cases hh
abbrev Ma:=Nat->Value
def upd (Z:Ma) (d:Nat) (v:Value):Ma:=fun t=>cond (Nat.beq t d) v (Z t)
def ry (Z:Ma) (d:Option Nat) (v:Value):Ma:=match d with | none=>Z | some d=>upd Z d v
def wN (Z:Ma):List (Nat×Value)->Ma
 | []=>Z
 | (d,v)::l=>upd (wN Z l) d v
def ev (Z:Ma):Operand->Value
 | .tmp t=>Z t
 | .const v=>v
 | .global g=>.pointer (some ⟨g,0,none⟩)
 | .func f=>.func (.func f) #[] #[]
def F3 (args:Array Value):Ma:=fun t=>args.toList.getD t undef
def wO (n:Nat):Option Nat->Bool
 | none=>true
 | some d=>Nat.blt d n
def Pd (df:List Deferred) (n:Nat) (a:Act) (Z:Ma):Prop:=a.tmps.size=n/\a.defers=df/\∀ t,a.tmps.getD t undef=Z t
theorem F4 {Z:Ma} {d:Nat} {v:Value} (h:Z d=v):upd Z d v=Z:=by
 funext t;unfold upd;cases e:Nat.beq t d
 ·rfl
 rw [eq_of_beq_eq_true e,h];rfl
theorem Pd.put {df:List Deferred} {n:Nat} {a:Act} {Z:Ma} (h:Pd df n a Z) {d:Option Nat} (hd:wO n d=true) (v:Value):Pd df n (a.put d v) (ry Z d v):=by
 obtain ⟨h1,h2,h3⟩:=h
 cases d with
 | none=>exact ⟨h1,h2,h3⟩
 | some d =>
  have hlt:d<n:=by have h:=hd;simp [wO,Nat.blt] at h;omega
  refine ⟨by simp [Act.put,h1],h2,fun t=>?_⟩
  simp only [Act.put,ry,upd]
  rw [<- h3 t]
  cases e:Nat.beq t d
  ·have hne:t≠d:=fun h=>by rw [h] at e;simp at e
   simp only [dq,Array.getD_eq_getD_getElem?]
   rw [Array.getElem?_setIfInBounds_ne (by omega)]
  have:=eq_of_beq_eq_true e;subst this
  simp only [cQ,Array.getD_eq_getD_getElem?]
  rw [Array.getElem?_setIfInBounds_self_of_lt (by omega)];rfl
theorem Pd.eval {df:List Deferred} {n:Nat} {a:Act} {Z:Ma} (h:Pd df n a Z):a.eval=ev Z:=by
 funext x;cases x <;> simp [Act.eval,ev,h.2.2]
theorem F5 (args:Array Value) (n:Nat) (h:args.size<=n):Pd [] n { tmps:=args++Array.replicate (n - args.size) undef,defers:=[] } (F3 args):=by
 refine ⟨by simp;omega,rfl,fun t=>?_⟩
 simp only [F3,Array.getD_eq_getD_getElem?,List.getD_eq_getElem?_getD,Array.getElem?_toList]
 rcases lt_or_ge t args.size with ht | ht
 ·rw [Array.getElem?_append_left ht]
 rw [Array.getElem?_append_right ht,Array.getElem?_eq_none ht]
 rcases lt_or_ge (t - args.size) (n - args.size) with h2 | h2
 ·simp [h2]
 rw [Array.getElem?_eq_none (by simpa using h2)]
structure Kr where
 w:World
 S:Nat->Prop
structure Sa (O O':Kr):Prop where
 size:O.w.heap.size<=O'.w.heap.size
 sh:∀ b,O.S b->O'.S b
 keep:∀ b,O.S b->O'.w.heap[b]?=O.w.heap[b]?
theorem Sa.refl (O:Kr):Sa O O:=⟨le_refl _,fun _ h=>h,fun _ _=>rfl⟩
theorem Sa.trans {a b c:Kr} (h:Sa a b) (k:Sa b c):Sa a c :=
 ⟨le_trans h.size k.size,fun x hx=>k.sh x (h.sh x hx),fun x hx=>(k.keep x (h.sh x hx)).trans (h.keep x hx)⟩
structure Ja where
 blk:Option Nat
 says:Option Obj->Prop
def Ja.holds (r:Ja) (w:World):Prop:=match r.blk with | none=>r.says none | some b=>r.says w.heap[b]?
structure Jc where
 k0:Kr
 M:List Nat
 ro:Option Nat
def yR:Bool:=false
def Pe (a b:Nat):Prop:=yR=true->a<=b
theorem Pe.refl (a:Nat):Pe a a:=fun _=>le_refl _
theorem Pe.of {a b:Nat} (h:a<=b):Pe a b:=fun _=>h
theorem Pe.trans {a b c:Nat} (h:Pe a b) (k:Pe b c):Pe a c:=fun e=>le_trans (h e) (k e)
structure Le (M:List Nat) (O O':Kr):Prop where
 kle:Sa O O'
 same:∀ b,b<O.w.heap.size->b ∉ M->O'.w.heap[b]?=O.w.heap[b]?
 shNew:∀ b,O'.S b->O.S b\/O.w.heap.size<=b\/b∈M
 os:O'.w.os=O.w.os
 tape:O'.w.tape=O.w.tape
 output:O'.w.output=O.w.output
 drawn:Pe O.w.drawn O'.w.drawn
theorem Le.refl (M:List Nat) (O:Kr):Le M O O:=⟨.refl _,fun _ _ _=>rfl,fun _ h=>.inl h,rfl,rfl,rfl,.refl _⟩
structure Zt (β:Jc) (ρ:List Ja) (O:Kr):Prop where
 le:Le β.M β.k0 O
 fin:∀ b,O.S b->b<O.w.heap.size
 own:∀ r∈ρ,r.holds O.w
 blk:∀ r∈ρ,∀ b,r.blk=some b->b<O.w.heap.size/\¬ O.S b/\(β.k0.w.heap.size<=b\/b∈β.M)
 nd:ρ.Pairwise fun r s=>∀ b,r.blk=some b->s.blk≠some b
abbrev Yb:=Ma->List Ja->Kr->Prop
def NP (Q:Act->World->Prop):Exit->Act->World->Prop:=fun e a w=>e=.normal/\Q a w
def rz (o:Oper):Bool:=match o.op with | .defer _=>false | _=>true
theorem AY {o:Oper} (h:rz o=true) (c:_):o.op≠.defer c:=fun e=>by unfold rz at h;rw [e] at h;cases h
def qU:Code->Bool
 | .seq x y=>qU x&&qU y
 | .cond _ x y=>qU x&&qU y
 | .block _ x=>qU x
 | .loop x=>qU x
 | .region _ ops _=>ops.all rz
 | .rangeFunc ..=>false
 | _=>true
def zE (ro:Option Nat) (c:Code) (Q:Exit->Act->World->Prop) (a:Act) (w:World):Prop:=match ro with
 | none=>c.wp Tryz.prog Q a w
 | some l=>qU c=true->c.wpIn (Fence.wide.inRound l) 0 Tryz.prog Q a w
section
variable {ro:Option Nat} {Q Q':Exit->Act->World->Prop} {a:Act} {w:World} {x y:Code} {id:Nat}
theorem wP (h:zE ro x Q a w) (hq:∀ e a w,Q e a w->Q' e a w):zE ro x Q' a w:=by
 cases ro with
 | none=>exact wp_mono h hq
 | some l=>exact fun hn=>wpIn_mono (h hn) hq
theorem F6 (h:Q .normal a w):zE ro .skip Q a w:=by
 cases ro with
 | none=>exact wp_skip h
 | some l=>exact fun _=>wpIn_skip h
theorem cwp_ret (h:Q .ret a w):zE ro .ret Q a w:=by
 cases ro with
 | none=>exact wp_ret h
 | some l=>exact fun _=>wpIn_ret h
theorem F7 (h:Q (.exit id) a w):zE ro (.exit id) Q a w:=by
 cases ro with
 | none=>exact wp_exit h
 | some l=>exact fun _=>wpIn_exit h
theorem cwp_seq (h:zE ro x (Exit.then (zE ro y Q) Q) a w):zE ro (.seq x y) Q a w:=by
 cases ro with
 | none=>exact wp_seq h
 | some l =>
  intro hn
  have hn:(qU x&&qU y)=true:=hn
  rw [and_eq_true] at hn
  exact wpIn_seq (wpIn_mono (h hn.1) fun e a w k=>by
   cases e with
   | normal=>exact k hn.2
   | _=>exact k)
theorem EG (h:zE ro x (Exit.inBlock id Q) a w):zE ro (.block id x) Q a w:=by
 cases ro with
 | none=>exact wp_block h
 | some l=>exact fun hn=>wpIn_block (h hn)
theorem wQ {c:Operand} {t:Bool} (hc:a.eval c=.bool t) (ht:t=true->zE ro x Q a w) (hf:t=false->zE ro y Q a w):zE ro (.cond c x y) Q a w:=by
 cases ro with
 | none=>exact wp_cond_split hc ht hf
 | some l =>
  intro hn
  have hn:(qU x&&qU y)=true:=hn
  rw [and_eq_true] at hn
  exact wpIn_cond_split hc (fun h=>ht h hn.1) (fun h=>hf h hn.2)
theorem rows_in {row:String} {args:Array Value} {R:Value->World->Prop} {l n:Nat} (h:Rows Tryz.prog row args w R):RowsIn (Fence.wide.inRound l) n Tryz.prog row args w R :=
 fun c cs _=>let ⟨v,w',r,s⟩:=h c cs;⟨v,w',r,stepsIn_wide.2 s⟩
theorem F8 {f:FuncId} {args:Array Value} {R:Ending->World->Prop} {l n:Nat} (h:Calls Tryz.prog f args w R):CallsIn (Fence.wide.inRound l) n Tryz.prog f args w R :=
 CallsIn.inRound l (callsIn_wide.2 h)
theorem wR {Q:Act->World->Prop}:¬ LetsOut (NP Q):=fun ⟨_,_,h⟩=>by cases h.1
theorem op_in {o:Oper} {K K':Act->World->Prop} {Q:Act->World->Prop} {l n:Nat} (hn:rz o=true) (hk:∀ a w,K a w->K' a w) (h:o.wp Tryz.prog a w K (NP Q)):o.wpIn (Fence.wide.inRound l) n Tryz.prog a w K' (NP Q):=by
 refine ⟨fun _ _=>trivial,?_⟩
 rw [Oper.semAt_eq _ _ _ (AY hn)]
 unfold Oper.wp at h
 generalize (execOp a.eval o).run Tryz.prog w=r at *
 cases r with
 | ok v w' =>
  cases v <;> simp only [Oper.upon,Oper.uponIn] at h ⊢ <;> first
   | exact hk _ _ h
   | exact ⟨fun h=>(by cases h),CallsIn.mono (F8 h) fun e w'' he=>by cases e <;> first | exact hk _ _ he | exact he⟩
   | exact ⟨fun h=>(by cases h),RowsIn.mono (rows_in h) fun _ _ he=>hk _ _ he⟩
   | exact h.elim
 | halt v w'=>cases v <;> simp only [Oper.upon,Oper.uponIn] at h ⊢ <;> exact h
theorem zF {ops:Array Oper} {Q:Act->World->Prop} {l:Nat} (hn:∀ (i:Nat) (o:Oper),ops[i]?=some o->rz o=true):∀ (is:List Nat) (a:Act) (w:World),wpOps Tryz.prog ops (NP Q) is a w->wpOpsIn (Fence.wide.inRound l) 0 Tryz.prog ops (NP Q) is a w
 | [],_,_,h=>h
 | i::is,a,w,h=>by
  unfold wpOps at h
  unfold wpOpsIn
  cases ho:ops[i]? with
  | none=>rw [ho] at h;exact zF hn is a w h
  | some o =>
   simp only [ho] at h ⊢
   split
   ·rename_i hw
    rw [if_pos hw] at h
    rcases h with h | h
    ·exact op_in (hn i o ho) (fun a w=>zF hn is a w) h
    exact absurd h.2 wR
   rename_i hw
   rw [if_neg hw] at h
   exact ⟨fun _ _=>trivial,zF hn is _ w h⟩
theorem zG {md:Region.Mode} {ops:Array Oper} {Q:Act->World->Prop} {l:Nat} (hn:∀ (i:Nat) (o:Oper),ops[i]?=some o->rz o=true):∀ (fuel:Nat) (L:Array Bool) (a:Act) (w:World),wpAny Tryz.prog md ops (NP Q) fuel L a w->wpAnyIn (Fence.wide.inRound l) 0 Tryz.prog md ops (NP Q) fuel L a w
 | 0,_,_,_,h=>h
 | fuel+1,L,a,w,h=>⟨h.1,fun i hi=>by
  have h:=h.2 i hi
  unfold wpOp at h
  unfold wpOpIn
  cases ho:ops[i]? with
  | none=>rw [ho] at h;exact zG hn fuel _ a w h
  | some o =>
   simp only [ho] at h ⊢
   split
   ·rename_i hw
    rw [if_pos hw] at h
    rcases h with h | h
    ·exact op_in (hn i o ho) (fun a w=>zG hn fuel _ a w) h
    exact absurd h.2 wR
   rename_i hw
   rw [if_neg hw] at h
   exact ⟨fun _ _=>trivial,zG hn fuel _ _ w h⟩⟩
theorem yS {ops:Array Oper} {b:Bool} (h:qU (.region id ops b)=true):∀ (i:Nat) (o:Oper),ops[i]?=some o->rz o=true:=fun i o ho=>by
 have h:ops.all rz=true:=h
 obtain ⟨hi,rfl⟩:=Array.getElem?_eq_some_iff.1 ho
 exact Array.all_eq_true.1 h i hi
theorem Cz {l:List Oper} {Q:Act->World->Prop} (h:wpList Tryz.prog l.toArray (NP Q) l a w):zE ro (.region id l.toArray false) (NP Q) a w:=by
 cases ro with
 | none=>exact wp_region_lit h
 | some k =>
  intro hn
  refine wpIn_region (zF (yS hn) _ a w ?_)
  rw [List.range_eq_range',show l.toArray.size=l.length by simp,wpOps_eq_wpList l 0 (by simp)];exact h
theorem rA {ops:Array Oper} {Q:Act->World->Prop} (hm:Tryz.prog.follows .mixedOrders=true) (h:wpAny Tryz.prog .any ops (NP Q) ops.size (Array.replicate ops.size false) a { w with drawn:=w.drawn+1 }):zE ro (.region id ops true) (NP Q) a w:=by
 cases ro with
 | none=>exact wp_region_any hm h
 | some k=>exact fun hn=>wpIn_region_any hm (zG (yS hn) _ _ _ _ h)
theorem wa {ops:Array Oper} {Q:Act->World->Prop} {S:World->Prop} (hm:Tryz.prog.follows .mixedOrders=true) (h:wpAnyH Tryz.prog .any ops (NP Q) S ops.size (Array.replicate ops.size false) a { w with drawn:=w.drawn+1 }):zE ro (.region id ops true) (NP Q) a w :=
 rA hm (wpAny_of_held _ _ _ _ h)
theorem t6 {F:Fence} {X:Type} (J:X->Act->World->Prop) (μ:X->Nat) (x0:X) (h0:J x0 a w)
    (round:∀ z a w,J z a w->x.wpIn F 0 Tryz.prog (fun e a w=>match e with | .normal=>∃ z',J z' a w/\μ z'<μ z | e=>Q e a w) a w):(Code.loop x).wpIn F 0 Tryz.prog Q a w:=fun b k cs hro hb hr=>by
  have key:∀ (m:Nat) (z:X) (a:Act) (w:World),μ z=m->J z a w->∃ e a' w',Q e a' w'/\ArrivesIn (Machine.fenced Tryz.prog F) Tryz.prog (lone (b.atR a (.code x::.inLoop x::k)) cs w) b k cs e a' w':=by
    intro m
    induction m using Nat.strongRecOn with
    | _ m ih =>
      intro z a w hm hJ
      obtain ⟨e,a₁,w₁,hq₁,harr⟩:=round z a w hJ b (.inLoop x::k) cs hro hb hr
      cases e with
      | normal =>
        obtain ⟨z',hz,hlt⟩:=hq₁
        obtain ⟨e₂,a₂,w₂,hq₂,harr₂⟩:=ih (μ z') (hm ▸ hlt) z' a₁ w₁ rfl hz
        exact ⟨e₂,a₂,w₂,hq₂,.of_steps (StepsIn.trans harr (.one (fenced_calm hb hr rfl) stepR_inLoop)) harr₂⟩
      | exit id=>exact ⟨_,a₁,w₁,hq₁,.pass (x:=.inLoop x) rfl (fun _ _=>.inl (by simp)) harr⟩
      | goto l=>exact ⟨_,a₁,w₁,hq₁,.pass (x:=.inLoop x) rfl (fun _ _=>.inl (by simp)) harr⟩
      | ret=>exact ⟨_,a₁,w₁,hq₁,.pass (x:=.inLoop x) rfl (fun _ _=>.inl (by simp)) harr⟩
      | panic ch=>exact ⟨_,a₁,w₁,hq₁,.pass (x:=.inLoop x) rfl (fun _ _=>.inl (by simp)) harr⟩
      | outgrown=>exact ⟨_,a₁,w₁,hq₁,.pass (x:=.inLoop x) rfl (fun _ _=>.inl (by simp)) harr⟩
  obtain ⟨e,a',w',hq',harr⟩:=key _ x0 a w rfl h0
  exact ⟨e,a',w',hq',.of_steps (.one (fenced_calm hb hr rfl) stepR_loop) harr⟩
theorem F9 {X:Type} (J:X->Act->World->Prop) (μ:X->Nat) (x0:X) (h0:J x0 a w)
    (round:∀ z a w,J z a w->zE ro x (fun e a w=>match e with | .normal=>∃ z',J z' a w/\μ z'<μ z | e=>Q e a w) a w):zE ro (.loop x) Q a w:=by
  cases ro with
  | none=>exact wpIn_wide.1 (t6 J μ x0 h0 fun z a w hJ=>wpIn_wide.2 (round z a w hJ))
  | some l=>exact fun hn=>t6 J μ x0 h0 fun z a w hJ=>round z a w hJ hn
end
def WL (β:Jc) (n:Nat) (ops:Array Oper) (l:List Oper) (K:Yb) (Z:Ma) (ρ:List Ja) (O:Kr):Prop :=
 Zt β ρ O->∀ ⦃df⦄ a,Pd df n a Z->∀ Q:Exit->Act->World->Prop,
  (∀ a' Z' ρ' O',Pd df n a' Z'->Zt β ρ' O'->Sa O O'->K Z' ρ' O'->Q .normal a' O'.w)->wpList Tryz.prog ops Q l a O.w
def WC (β:Jc) (n:Nat) (c:Code) (K:Exit->Yb) (Z:Ma) (ρ:List Ja) (O:Kr):Prop :=
 Zt β ρ O->∀ ⦃df⦄ a,Pd df n a Z->∀ Q:Exit->Act->World->Prop,
  (∀ e a' Z' ρ' O',Pd df n a' Z'->Zt β ρ' O'->Sa O O'->K e Z' ρ' O'->Q e a' O'.w)->zE β.ro c Q a O.w
def Wc (Nx:Value->World->Prop):Result Next->Prop
 | .ok (.value v) w=>Nx v w
 | .ok .skip w=>Nx undef w
 | .ok (.enter f args) w=>Calls Tryz.prog f args w fun e w'=>∃ v,e=.returned v/\Nx v w'
 | _=>False
theorem Wc.mono {Nx Nx':Value->World->Prop} {r:Result Next} (h:Wc Nx r) (hm:∀ v w,Nx v w->Nx' v w):Wc Nx' r:=by
 cases r with
 | ok n w =>
  cases n with
  | value v=>exact hm _ _ h
  | skip=>exact hm _ _ h
  | enter f args=>exact Calls.mono h fun e w' ⟨v,h1,h2⟩=>⟨v,h1,hm _ _ h2⟩
  | _=>exact h.elim
 | halt x w=>exact h.elim
theorem mY {o:Oper} {a:Act} {w:World} {ρ:Operand->Value} {Nx:Value->World->Prop} {next:Act->World->Prop} {Q:Exit->Act->World->Prop} (he:a.eval=ρ) (h:Wc Nx ((execOp ρ o).run Tryz.prog w)) (hn:∀ v w,Nx v w->next (a.put o.dst v) w):o.wp Tryz.prog a w next Q:=by
 unfold Oper.wp
 rw [he]
 generalize (execOp ρ o).run Tryz.prog w=r at *
 cases r with
 | ok n w =>
  cases n with
  | value v=>exact hn _ _ h
  | skip=>exact hn _ _ h
  | enter f args=>exact Calls.mono h fun e w' ⟨v,h1,h2⟩=>by subst h1;exact hn _ _ h2
  | _=>exact h.elim
 | halt x w=>exact h.elim
def Lc (o:Oper) (Z:Ma) (ρ:List Ja) (O:Kr) (K:Value->List Ja->Kr->Prop):Prop :=
 ∀ β,Zt β ρ O->∀ Nx:Value->World->Prop,(∀ v ρ' O',Zt β ρ' O'->Sa O O'->K v ρ' O'->Nx v O'.w)->Wc Nx ((execOp (ev Z) o).run Tryz.prog O.w)
structure Sc (ρ:List Ja) (O:Kr) (w:World):Prop where
 keep:∀ b,O.S b->w.heap[b]?=O.w.heap[b]?
 own:∀ r∈ρ,r.holds w
theorem Zt.stab {β:Jc} {ρ:List Ja} {O:Kr} (h:Zt β ρ O):Sc ρ O O.w:=⟨fun _ _=>rfl,h.own⟩
def Rb (c:Bool) (o:Oper) (Z:Ma) (ρ:List Ja) (O:Kr) (v:Value):Prop :=
 c=true->∀ w,Sc ρ O w->(execOp (ev Z) o).run Tryz.prog w=.ok (.value v) w
@[irreducible] def gv (c:Bool) (v:Value):Value:=cond c v undef
theorem nq (v:Value):gv true v=v:=by unfold gv;rfl
theorem ko (v:Value):gv false v=undef:=by unfold gv;rfl
def iQ (ops:Array Oper) (Z:Ma) (j:Nat):Option Bool :=
 match ((ops[j]?).bind (·.dst)).map Z with
 | some (.bool b)=>some b
 | _=>none
theorem AZ {df:List Deferred} {n:Nat} {a:Act} {Z:Ma} (h:Pd df n a Z) (ops:Array Oper) (j:Nat):yielded ops a.tmps j=iQ ops Z j:=by
 unfold yielded iQ
 cases (ops[j]?).bind (·.dst) with
 | none=>rfl
 | some d =>
  have h3:=h.2.2 d
  simp only [fP,Option.map_some]
  rw [Array.getD_eq_getD_getElem?] at h3
  cases e:a.tmps[d]? with
  | none=>rw [e] at h3;simp only [Option.getD_none] at h3;rw [<- h3];rfl
  | some v=>rw [e] at h3;simp only [Option.getD_some] at h3;rw [h3];rfl
theorem lI {df:List Deferred} {n:Nat} {a:Act} {Z:Ma} (h:Pd df n a Z) (ops:Array Oper) (o:Oper):Region.wanted o (yielded ops a.tmps)=Region.wanted o (iQ ops Z):=by
 rw [show yielded ops a.tmps=iQ ops Z from funext fun j=>AZ h ops j]
def Wb (ops:Array Oper) (Z:Ma) (o:Oper) (c:Bool):Prop:=Region.wanted o (iQ ops Z)=c
section
variable {ops:Array Oper} {Z:Ma} {o:Oper} {j d:Nat} {p c:Bool}
theorem CA (h:o.guard=none):Wb ops Z o true:=by simp [Wb,Region.wanted,h]
theorem qu (h:o.guard=some (j,true)) (hd:(ops[j]?).bind (·.dst)=some d) (hs:Z d=.bool p):Wb ops Z o p:=by
 simp [Wb,Region.wanted,h,iQ,hd,hs]
theorem DF (h:o.guard=some (j,false)) (hd:(ops[j]?).bind (·.dst)=some d) (hs:Z d=.bool p):Wb ops Z o (!p):=by
 simp [Wb,Region.wanted,h,iQ,hd,hs]
theorem Ga (h:o.guard=some (j,true)) (hd:(ops[j]?).bind (·.dst)=some d) (hs:Z d=gv c (.bool p)):Wb ops Z o (c&&p):=by
 simp only [Wb,Region.wanted,h,iQ,hd,Option.map_some,hs]
 cases c
 ·rw [ko];rfl
 rw [nq];cases p <;> rfl
theorem Gb (h:o.guard=some (j,false)) (hd:(ops[j]?).bind (·.dst)=some d) (hs:Z d=gv c (.bool p)):Wb ops Z o (c && !p):=by
 simp only [Wb,Region.wanted,h,iQ,hd,Option.map_some,hs]
 cases c
 ·rw [ko];rfl
 rw [nq];cases p <;> rfl
end
def Ev (Z:Ma) (c:Bool) (x:Operand) (v:Value):Prop:=c=true->ev Z x=v
theorem Ev.p {Z:Ma} {c:Bool} {x:Operand} {v:Value} (h:ev Z x=v):Ev Z c x v:=fun _=>h
theorem Ev.g {Z:Ma} {c:Bool} {x:Operand} {v:Value} (h:ev Z x=gv c v):Ev Z c x v:=fun hc=>by rw [h,hc,nq]
section
variable {β:Jc} {n:Nat} {ops:Array Oper} {o:Oper} {rest:List Oper} {K:Yb} {Z:Ma} {ρ:List Ja} {O:Kr}
theorem eM (h:K Z ρ O):WL β n ops [] K Z ρ O:=fun hi df a hr _ hk=>wpList_nil (hk a Z ρ O hr hi (.refl _) h)
theorem jl {n:Nat} {d:Option Nat} {t:Nat} (h:d=some t) (hlt:Nat.blt t n=true):wO n d=true:=by rw [h];exact hlt
theorem ie {Z:Ma} {d:Option Nat} {t:Nat} {v:Value} (h:d=some t):ry Z d v=upd Z t v:=by rw [h];rfl
theorem wl_lO (hg:o.guard=none) (hd:wO n o.dst=true) (h:Lc o Z ρ O fun v ρ' O'=>WL β n ops rest K (ry Z o.dst v) ρ' O'):WL β n ops (o::rest) K Z ρ O :=
 fun hi df a hr Q hk=>wpList_plain hg fun _ hK=>mY hr.eval (h β hi (fun v w=>wpList Tryz.prog ops Q rest (a.put o.dst v) w) fun v _ _ hi' hle hw =>
  hw hi' _ (hr.put hd v) Q fun a' Z' ρ'' O'' h1 h2 h3 h4=>hk a' Z' ρ'' O'' h1 h2 (hle.trans h3) h4) fun _ _ h=>hK _ _ h
theorem A0 {d:Nat} (hg:o.guard=none) (hd:o.dst=some d) (hlt:Nat.blt d n=true) (h:Lc o Z ρ O fun v ρ' O'=>WL β n ops rest K (upd Z d v) ρ' O'):WL β n ops (o::rest) K Z ρ O :=
 wl_lO hg (jl hd hlt) (by simp only [ie hd];exact h)
theorem DH (hg:o.guard=none) (hd:o.dst=none) (h:Lc o Z ρ O fun _ ρ' O'=>WL β n ops rest K Z ρ' O'):WL β n ops (o::rest) K Z ρ O :=
 wl_lO hg (by rw [hd];rfl) (by rw [hd];exact h)
theorem gp {v:Value} {d:Nat} (hg:o.guard=none) (hd:o.dst=some d) (hlt:Nat.blt d n=true) (h:Rb true o Z ρ O v) (hw:WL β n ops rest K (upd Z d v) ρ O):WL β n ops (o::rest) K Z ρ O :=
 fun hi df a hr Q hk=>wpList_plain hg fun _ hK=>by
  unfold Oper.wp;rw [hr.eval,h rfl O.w hi.stab]
  rw [<- ie hd] at hw
  exact hK _ _ (hw hi _ (hr.put (jl hd hlt) v) Q hk)
theorem wS {v:Value} {c:Bool} {d:Nat} (hg:Wb ops Z o c) (hd:o.dst=some d) (hlt:Nat.blt d n=true) (h:Rb c o Z ρ O v) (hw:WL β n ops rest K (upd Z d (gv c v)) ρ O):WL β n ops (o::rest) K Z ρ O :=
 fun hi df a hr Q hk=>by
  rw [<- ie hd] at hw
  unfold wpList
  rw [lI hr,hg]
  cases c with
  | false =>
   rw [ko] at hw
   exact hw hi _ (hr.put (jl hd hlt) undef) Q hk
  | true =>
   rw [nq] at hw
   refine .inl ?_
   unfold Oper.wp;rw [hr.eval,h rfl O.w hi.stab]
   exact hw hi _ (hr.put (jl hd hlt) v) Q hk
end
def CC (β:Jc) (n:Nat) (y:Code) (K:Exit->Yb):Exit->Yb:=fun e Z ρ O=>match e with | .normal=>WC β n y K Z ρ O | e=>K e Z ρ O
def nS (id:Nat) (K:Exit->Yb):Exit->Yb:=fun e Z ρ O=>match e with | .exit id'=>cond (Nat.beq id' id) (K .normal Z ρ O) (K (.exit id') Z ρ O) | e=>K e Z ρ O
section
variable {β:Jc} {n:Nat} {x y:Code} {K:Exit->Yb} {Z:Ma} {ρ:List Ja} {O:Kr}
theorem qv {K':Exit->Yb} (h:WC β n x K Z ρ O) (hk:∀ e Z' ρ' O',Sa O O'->K e Z' ρ' O'->K' e Z' ρ' O'):WC β n x K' Z ρ O :=
 fun hi df a hr Q hq=>h hi a hr Q fun e a' Z' ρ' O' h1 h2 h3 h4=>hq e a' Z' ρ' O' h1 h2 h3 (hk e Z' ρ' O' h3 h4)
theorem fA (h:WC β n x (CC β n y K) Z ρ O):WC β n (.seq x y) K Z ρ O :=
 fun hi df a hr Q hq=>cwp_seq (h hi a hr _ fun e a' Z' ρ' O' h1 h2 h3 h4=>by
  cases e with
  | normal=>exact h4 h2 a' h1 Q fun e a'' Z'' ρ'' O'' g1 g2 g3 g4=>hq e a'' Z'' ρ'' O'' g1 g2 (h3.trans g3) g4
  | _=>exact hq _ a' Z' ρ' O' h1 h2 h3 h4)
theorem mu (h:K .normal Z ρ O):WC β n .skip K Z ρ O:=fun hi df a hr _ hq=>F6 (hq _ a Z ρ O hr hi (.refl _) h)
theorem oE (h:K .ret Z ρ O):WC β n .ret K Z ρ O:=fun hi df a hr _ hq=>cwp_ret (hq _ a Z ρ O hr hi (.refl _) h)
theorem qw {id:Nat} (h:K (.exit id) Z ρ O):WC β n (.exit id) K Z ρ O:=fun hi df a hr _ hq=>F7 (hq _ a Z ρ O hr hi (.refl _) h)
theorem mv {id:Nat} (h:WC β n x (nS id K) Z ρ O):WC β n (.block id x) K Z ρ O :=
 fun hi df a hr Q hq=>EG (h hi a hr _ fun e a' Z' ρ' O' h1 h2 h3 h4=>by
  cases e with
  | exit id' =>
   simp only [nS] at h4
   simp only [Exit.inBlock]
   cases hb:Nat.beq id' id
   ·have hne:id'≠id:=fun h=>by rw [h] at hb;simp at hb
    rw [hb] at h4;rw [if_neg hne];exact hq _ a' Z' ρ' O' h1 h2 h3 h4
   ·have he:=eq_of_beq_eq_true hb
    rw [hb] at h4;rw [if_pos he];exact hq _ a' Z' ρ' O' h1 h2 h3 h4
  | _=>exact hq _ a' Z' ρ' O' h1 h2 h3 h4)
theorem oe {c:Operand} {p:Bool} (hc:ev Z c=.bool p) (ht:p=true->WC β n x K Z ρ O) (hf:p=false->WC β n y K Z ρ O):WC β n (.cond c x y) K Z ρ O :=
 fun hi df a hr Q hq=>wQ (t:=p) (by rw [hr.eval,hc]) (fun h=>ht h hi a hr Q hq) (fun h=>hf h hi a hr Q hq)
theorem Gc {c:Operand} (hc:ev Z c=.bool true) (h:WC β n x K Z ρ O):WC β n (.cond c x y) K Z ρ O:=oe hc (fun _=>h) (fun h=>by cases h)
theorem Gd {c:Operand} (hc:ev Z c=.bool false) (h:WC β n y K Z ρ O):WC β n (.cond c x y) K Z ρ O:=oe hc (fun h=>by cases h) (fun _=>h)
theorem bP {id:Nat} {l:List Oper} (h:WL β n l.toArray l (K .normal) Z ρ O):WC β n (.region id l.toArray false) K Z ρ O :=
 fun hi df a hr Q hq=>wP (Cz (h hi a hr (NP (Q .normal)) fun a' Z' ρ' O' h1 h2 h3 h4=>⟨rfl,hq _ a' Z' ρ' O' h1 h2 h3 h4⟩)) fun e a w h=>by rw [h.1];exact h.2
theorem zH {X:Type} (J:X->Ma->List Ja->Kr->Prop) (μ:X->Nat) (x0:X) (h0:J x0 Z ρ O)
    (round:∀ z Z' ρ' O',Sa O O'->J z Z' ρ' O'->WC β n x (fun e Z'' ρ'' O''=>match e with | .normal=>∃ z',J z' Z'' ρ'' O''/\μ z'<μ z | e=>K e Z'' ρ'' O'') Z' ρ' O'):WC β n (.loop x) K Z ρ O :=
  fun hi df a hr Q hq=>F9 (fun z a w=>∃ Z' ρ' O',w=O'.w/\Pd df n a Z'/\Zt β ρ' O'/\Sa O O'/\J z Z' ρ' O') μ x0 ⟨Z,ρ,O,rfl,hr,hi,.refl _,h0⟩ fun z a w ⟨Z',ρ',O',hw,hr',hi',hle,hJ⟩=>by
    subst hw
    refine round z Z' ρ' O' hle hJ hi' a hr' _ fun e a'' Z'' ρ'' O'' g1 g2 g3 g4=>?_
    cases e with
    | normal=>obtain ⟨z',hz,hlt⟩:=g4;exact ⟨z',⟨Z'',ρ'',O'',rfl,g1,g2,hle.trans g3,hz⟩,hlt⟩
    | _=>exact hq _ a'' Z'' ρ'' O'' g1 g2 (hle.trans g3) g4
end
theorem o9 {t:Nat} {z:Value} {s b:Nat} (h:iE t=some (z,s,b)):∃ i,Tryz.prog.info? t=some i/\i.zero=some z/\i.size=s/\i.bytes=b:=by
 have:=inf_ok h
 cases hi:Tryz.prog.info? t with
 | none=>rw [hi] at this;cases this
 | some i=>rw [hi] at this;simp at this;exact ⟨i,rfl,this.1,this.2.1,this.2.2⟩
def oF:TypeDesc->Bool
 | .struct _ | .array _ _=>true
 | _=>false
theorem oB {t:Nat} {d:TypeDesc} (h:fQ t=some d) (w:World):(isAgg t).run Tryz.prog w=.ok (oF d) w:=by
 simp only [isAgg,Sem.run_bind,run_underlying (bD h),Result.andThen_ok]
 cases d <;> rfl
theorem eN {t:Nat} {z:Value} {s b:Nat} (h:iE t=some (z,s,b)) (w:World):(sizeOf t).run Tryz.prog w=.ok s w:=by
 obtain ⟨i,hi,_,hs,_⟩:=o9 h
 simp [sizeOf,typeInfo,hi,hs]
theorem gq {t:Nat} {z:Value} {s b:Nat} (h:iE t=some (z,s,b)) (w:World):(zeroValue t).run Tryz.prog w=.ok z w:=by
 obtain ⟨i,hi,hz,_⟩:=o9 h
 simp [zeroValue,typeInfo,hi,hz]
def Ja.b (b:Nat) (T:Nat) (cs:List Value):Ja:=⟨some b,fun o=>o=some (.cells cs.toArray T (0,0))⟩
theorem iU (b off k:Nat):(⟨b,off,none⟩:Addr).add k=⟨b,off+k,none⟩:=by unfold Addr.add;split <;> simp_all
section
variable {o:Oper} {Z:Ma} {ρ:List Ja} {O:Kr} {c:Bool} {x y:Operand}
theorem cB {v:Value} (ho:o.op=.move x) (hx:Ev Z c x v):Rb c o Z ρ O v:=fun hc w _=>by
 simp [execOp,ho,hx hc]
theorem dd {v:Value} (ho:o.op=.assign x) (hx:Ev Z c x v):Rb c o Z ρ O v:=fun hc w _=>by
 simp [execOp,ho,hx hc]
theorem oq_or {cc a b:Operand} {p q:Bool} (ho:o.op=.pick cc a b) (h1:Ev Z c cc (.bool p)) (h2:Ev Z c a (.bool true)) (h3:Ev Z (c && !p) b (.bool q)):Rb c o Z ρ O (.bool (p||q)):=fun hc w _=>by
 subst hc
 simp only [execOp,ho,h1 rfl,h2 rfl]
 cases p
 ·simp [h3 rfl,asBool]
 simp [asBool]
theorem CD {cc a b:Operand} {p q:Bool} (ho:o.op=.pick cc a b) (h1:Ev Z c cc (.bool p)) (h2:Ev Z c b (.bool false)) (h3:Ev Z (c&&p) a (.bool q)):Rb c o Z ρ O (.bool (p&&q)):=fun hc w _=>by
 subst hc
 simp only [execOp,ho,h1 rfl,h2 rfl]
 cases p
 ·simp [asBool]
 simp [h3 rfl,asBool]
section
variable {t t':Nat} {k:IntKind} {a b:Int}
theorem jL (op:BinOp) (w:World):(eqGuard op t x y (.int k a) (.int k b)).run Tryz.prog w=.ok () w:=by
 unfold eqGuard;split <;> simp
theorem qy {op:BinOp} {r:Bool} (ho:o.op=.binOp op t x y t') (hx:Ev Z c x (.int k a)) (hy:Ev Z c y (.int k b))
    (hr:(match op with | .eql=>some (a == b) | .neq=>some (a != b) | .lss=>some (decide (a<b)) | .leq=>some (decide (a<=b)) | .gtr=>some (decide (b<a)) | .geq=>some (decide (b<=a)) | _=>none)=some r):Rb c o Z ρ O (.bool r):=fun hc w _=>by
  simp only [execOp,ho,hx hc,hy hc,Sem.run_bind,jL,Result.andThen_ok]
  cases op <;> simp at hr <;> subst hr <;> simp [binOp,Op.intCmp]
theorem A1 {op:BinOp} {r:Int} (ho:o.op=.binOp op t x y t') (hx:Ev Z c x (.int k a)) (hy:Ev Z c y (.int k b))
    (hr:(match op with | .add=>some (a+b) | .sub=>some (a - b) | .mul=>some (a*b) | _=>none)=some r):Rb c o Z ρ O (.int k (k.wrap r)):=fun hc w _=>by
  simp only [execOp,ho,hx hc,hy hc,Sem.run_bind,jL,Result.andThen_ok]
  cases op <;> simp at hr <;> subst hr <;> simp [binOp,Op.intArith]
theorem wT {r:Int} (h : -9223372036854775808<=r/\r<=9223372036854775807):i64.wrap r=r:=IntWalk.i64_in r h
theorem qz {op:BinOp} {r:Int} (ho:o.op=.binOp op t x y t') (hx:Ev Z c x (.int .i64 a)) (hy:Ev Z c y (.int .i64 b))
    (hr:(match op with | .add=>some (a+b) | .sub=>some (a - b) | .mul=>some (a*b) | _=>none)=some r) (hb:c=true -> -9223372036854775808<=r/\r<=9223372036854775807):Rb c o Z ρ O (.int .i64 r):=fun hc=>by
  have h:=A1 (ρ:=ρ) (O:=O) ho hx hy hr hc
  rwa [wT (hb hc)] at h
theorem oq_quo {r:Int} (ho:o.op=.binOp .quo t x y t') (hx:Ev Z c x (.int k a)) (hy:Ev Z c y (.int k b)) (hb:c=true->b≠0) (hr:k.wrap (a.tdiv b)=r):Rb c o Z ρ O (.int k r):=fun hc w _=>by
 simp only [execOp,ho,hx hc,hy hc,Sem.run_bind,jL,Result.andThen_ok]
 simp [binOp,Op.intDiv,hb hc,hr]
theorem oq_rem {r:Int} (ho:o.op=.binOp .rem t x y t') (hx:Ev Z c x (.int k a)) (hy:Ev Z c y (.int k b)) (hb:c=true->b≠0) (hr:a.tmod b=r):Rb c o Z ρ O (.int k r):=fun hc w _=>by
 simp only [execOp,ho,hx hc,hy hc,Sem.run_bind,jL,Result.andThen_ok]
 simp [binOp,Op.intDiv,hb hc,hr]
theorem oq_bits {op:BinOp} {r:Int} (ho:o.op=.binOp op t x y t') (hx:Ev Z c x (.int k a)) (hy:Ev Z c y (.int k b))
    (hr:(match op with | .and=>some (k.wrap ((BitVec.ofInt k.bits a &&& BitVec.ofInt k.bits b).toNat:Int)) | .or=>some (k.wrap ((BitVec.ofInt k.bits a ||| BitVec.ofInt k.bits b).toNat:Int)) | .xor=>some (k.wrap ((BitVec.ofInt k.bits a ^^^ BitVec.ofInt k.bits b).toNat:Int)) | _=>none)=some r):Rb c o Z ρ O (.int k r):=fun hc w _=>by
  simp only [execOp,ho,hx hc,hy hc,Sem.run_bind,jL,Result.andThen_ok]
  cases op <;> simp only [gn,reduceCtorEq] at hr <;> subst hr <;> simp [binOp,Op.intBits]
theorem Ge {op:BinOp} {k':IntKind} {r:Int} (ho:o.op=.binOp op t x y t') (hx:Ev Z c x (.int k a)) (hy:Ev Z c y (.int k' b)) (h0:c=true->0<=b)
    (hr:(match op with | .shl=>some (k.wrap (a*2 ^ min b.toNat k.bits)) | .shr=>some (a.fdiv (2 ^ min b.toNat k.bits)) | _=>none)=some r):Rb c o Z ρ O (.int k r):=fun hc w _=>by
  simp only [execOp,ho,hx hc,hy hc,Sem.run_bind]
  have h0':¬ b<0:=by have:=h0 hc;omega
  cases op <;> simp only [gn,reduceCtorEq] at hr <;> subst hr <;> simp [eqGuard,binOp,Op.shift,h0']
theorem oq_neg {r:Int} {ty:Nat} (ho:o.op=.unOp .neg ty x) (hx:Ev Z c x (.int k a)) (hr:k.wrap (0 - a)=r):Rb c o Z ρ O (.int k r):=fun hc w _=>by
 simp [execOp,ho,hx hc,Op.unary,Op.intArith,<- hr]
theorem oq_conv {k':IntKind} {r:Int} {s d:Nat} {ds:TypeDesc} (ho:o.op=.convert s d x) (hs:fQ s=some ds) (hd:fQ d=some (.int k')) (hx:Ev Z c x (.int k a)) (hr:k'.wrap a=r):Rb c o Z ρ O (.int k' r):=fun hc w _=>by
 simp only [execOp,ho,hx hc,convert,Sem.run_bind,run_underlying (bD hs),run_underlying (bD hd),Result.andThen_ok]
 simp [Conv.intToInt,hr]
end
theorem CF {p:Bool} {ty:Nat} (ho:o.op=.unOp .not ty x) (hx:Ev Z c x (.bool p)):Rb c o Z ρ O (.bool !p):=fun hc w _=>by
 simp [execOp,ho,hx hc,Op.unary]
theorem uU {t:Nat} {p q:Bool} (hu:fQ t=some .bool) (d:Nat) (w:World):(Op.equalIn (d+1) t (.bool p) (.bool q)).run Tryz.prog w=.ok (p == q) w:=by
 simp [Op.equalIn,run_underlying (bD hu)]
theorem oq_eqB {op:BinOp} {t t':Nat} {p q r:Bool} (ho:o.op=.binOp op t x y t') (hu:fQ t=some .bool) (hx:Ev Z c x (.bool p)) (hy:Ev Z c y (.bool q))
    (hr:(match op with | .eql=>some (p == q) | .neq=>some (p != q) | _=>none)=some r):Rb c o Z ρ O (.bool r):=fun hc w _=>by
  have he:(Op.equal t (.bool p) (.bool q)).run Tryz.prog w=.ok (p == q) w:=uU hu 9999 w
  simp only [execOp,ho,hx hc,hy hc,Sem.run_bind]
  cases op <;> simp only [gn,reduceCtorEq] at hr <;> subst hr <;> simp [eqGuard,binOp,he,bne]
theorem zI (s u:Xh):(s.toList == u.toList)=decide (s=u):=by
 rw [Bool.eq_iff_iff,ByteArray.toList_eq,ByteArray.toList_eq]
 simp only [beq_iff_eq,decide_eq_true_eq]
 constructor
 ·intro h;obtain ⟨⟨x⟩⟩:=s;obtain ⟨⟨y⟩⟩:=u;simp at h;subst h;rfl
 intro h;rw [h]
theorem zJ {op:BinOp} {t t':Nat} {s u:Xh} {r:Bool} (ho:o.op=.binOp op t x y t') (hx:Ev Z c x (.string s)) (hy:Ev Z c y (.string u))
    (hr:(match op with | .eql=>some (decide (s=u)) | .neq=>some (!decide (s=u)) | .lss=>some (Op.bytesLess s.toList u.toList) | .leq=>some (Op.bytesLess s.toList u.toList||decide (s=u)) | .gtr=>some (!(Op.bytesLess s.toList u.toList||decide (s=u))) | .geq=>some (!Op.bytesLess s.toList u.toList) | _=>none)=some r):Rb c o Z ρ O (.bool r):=fun hc w _=>by
  simp only [execOp,ho,hx hc,hy hc,Sem.run_bind]
  cases op <;> simp only [gn,reduceCtorEq] at hr <;> subst hr <;> simp only [eqGuard,binOp,Op.stringOp,zI] <;> simp
theorem oq_cat {t t':Nat} {s u:Xh} (ho:o.op=.binOp .add t x y t') (hx:Ev Z c x (.string s)) (hy:Ev Z c y (.string u)) (hb:c=true->s.size+u.size<=9223372036854775807):Rb c o Z ρ O (.string (s++u)):=fun hc w _=>by
 simp only [execOp,ho,hx hc,hy hc,Sem.run_bind]
 have hm:i64.max=9223372036854775807:=by decide
 have h:¬ (((s.size+u.size:Nat):Int) > i64.max):=by have:=hb hc;rw [hm];omega
 simp only [eqGuard,binOp,Op.stringOp,if_neg h]
 simp
theorem rB {a:Addr} (ho:o.op=.nilCheck x) (hx:Ev Z c x (.pointer (some a))):Rb c o Z ρ O (.pointer (some a)):=fun hc w _=>by
 simp [execOp,ho,hx hc]
theorem DI {t f k ty:Nat} {l:List (Nat×Nat)} (h1:tZ t=some l) (h2:l[f]?=some (k,ty)):∃ (fs:Array Field) (fd:Field),fQ t=some (.struct fs)/\fs[f]?=some fd/\fd.offset=k/\fd.type=ty:=by
 obtain ⟨fs,hu,hl⟩:=DE h1
 rw [<- hl,List.getElem?_map] at h2
 cases hf:fs.toList[f]? with
 | none=>rw [hf] at h2;cases h2
 | some fd =>
  rw [hf] at h2;simp only [Option.map_some,gn,Prod.mk.injEq] at h2
  exact ⟨fs,fd,hu,by simpa using hf,h2.1,h2.2⟩
theorem t7 {s f b off k ty:Nat} {l:List (Nat×Nat)} {z:Value} {sz by':Nat} (ho:o.op=.fieldAddr s x f) (h1:tZ s=some l) (h2:l[f]?=some (k,ty)) (hi:iE ty=some (z,sz,by')) (h0:Nat.blt 0 sz=true)
    (hx:Ev Z c x (.pointer (some ⟨b,off,none⟩))):Rb c o Z ρ O (.pointer (some ⟨b,off+k,none⟩)):=fun hc w _=>by
  obtain ⟨fs,fd,hu,hf,rfl,rfl⟩:=DI h1 h2
  have hs:sz≠0:=by intro h;subst h;cases h0
  simp only [execOp,ho,hx hc,Instr.fieldAt,Sem.run_bind,run_underlying (bD hu),Result.andThen_ok,hf,fieldPlace]
  simp [Instr.sureAddr,eN hi,hs,iU]
def cn (v:Value):List Value:=match v with | .agg cs=>cs.toList | v=>[v]
theorem j6 (v:Value):v.cells.toList=cn v:=by cases v <;> rfl
def mw (t:Nat) (cs:List Value) (off:Nat):Option Value :=
 match fQ t,iE t with
 | some d,some (_,sz,_)=>cond (oF d) (cond (Nat.ble (off+sz) cs.length) (some (.agg ((cs.drop off).take sz).toArray)) none) cs[off]?
 | _,_=>none
theorem Gf {t f k ty:Nat} {l:List (Nat×Nat)} {cs:List Value} {v:Value} (ho:o.op=.field t x f) (h1:tZ t=some l) (h2:l[f]?=some (k,ty)) (hx:Ev Z c x (.agg cs.toArray)) (hr:mw ty cs k=some v):Rb c o Z ρ O v:=fun hc w _=>by
 obtain ⟨fs,fd,hu,hf,rfl,rfl⟩:=DI h1 h2
 simp only [execOp,ho,hx hc,Instr.field,Sem.run_bind,run_underlying (bD hu),Result.andThen_ok,hf]
 unfold mw at hr
 split at hr
 ·rename_i d z sz b hd hi
  simp only [asAgg,part,Sem.run_bind,Sem.run_pure,Result.andThen_ok,oB hd]
  cases hag:oF d
  ·rw [hag] at hr;simp only [dq] at hr
   simp [hr]
  rw [hag] at hr;simp only [cQ] at hr
  cases hle:Nat.ble (fd.offset+sz) cs.length
  ·rw [hle] at hr;cases hr
  rw [hle] at hr;injection hr with hr;subst hr
  simp [eN hi,List.extract_toArray]
 cases hr
theorem wU {i:Nat} {vs:List Value} {v:Value} (ho:o.op=.extract x i) (hx:Ev Z c x (.tuple vs.toArray)) (hr:vs[i]?=some v):Rb c o Z ρ O v:=fun hc w _=>by
 simp [execOp,ho,hx hc,Instr.extract,hr]
theorem A2 {fn:Fn} {l1 l2:List Operand} (ho:o.op=.makeFunc fn l1.toArray l2.toArray):Rb true o Z ρ O (.func fn (l1.map (ev Z)).toArray (l2.map (ev Z)).toArray):=fun _ w _=>by
 simp [execOp,ho,Instr.makeFunc]
theorem nr {w:World} {b T:Nat} {cs:List Value} {fr:Nat×Nat} (h:w.heap[b]?=some (.cells cs.toArray T fr)) (j:Nat):w.cell? ⟨b,j,none⟩=cs[j]?:=by
 simp [World.cell?,h]
theorem qA {w:World} {t b off:Nat} {cs:List Value} {v:Value} (hc:∀ j u,cs[j]?=some u->w.cell? ⟨b,off+j,none⟩=some u) (hr:mw t cs 0=some v):(loadVar t ⟨b,off,none⟩).run Tryz.prog w=.ok v w:=by
 unfold mw at hr
 split at hr
 ·rename_i d z sz by' hd hi
  simp only [loadVar,Sem.run_bind,oB hd,Result.andThen_ok]
  cases hag:oF d
  ·rw [hag] at hr;simp only [dq] at hr
   have:=hc 0 v hr
   simp only [add_zero] at this
   simp [this]
  rw [hag] at hr;simp only [cQ] at hr
  cases hle:Nat.ble (0+sz) cs.length
  ·rw [hle] at hr;cases hr
  rw [hle] at hr;injection hr with hr;subst hr
  have hle':sz<=cs.length:=by have:=le_of_ble_eq_true hle;omega
  have hl:(cs.take sz).length=sz:=by simp;omega
  have h2:=run_loadCells_list (P:=Tryz.prog) w ⟨b,off,none⟩ (cs.take sz) (fun j u hu=>by
   rw [iU];refine hc j u ?_
   rw [List.getElem?_take] at hu;split at hu
   ·exact hu
   cases hu)
  rw [hl] at h2
  simp [eN hi,h2]
 cases hr
theorem yT {t b off T:Nat} {cs:List Value} {v:Value} (ho:o.op=.load t x) (hx:Ev Z c x (.pointer (some ⟨b,off,none⟩))) (hm:Ja.b b T cs∈ρ) (hr:mw t (cs.drop off) 0=some v):Rb c o Z ρ O v:=fun hc w hs=>by
 have hb:w.heap[b]?=some (.cells cs.toArray T (0,0)):=hs.own _ hm
 have:=qA (w:=w) (t:=t) (b:=b) (off:=off) (cs:=cs.drop off) (v:=v) (fun j u hu=>by rw [nr hb];rwa [List.getElem?_drop] at hu) hr
 simp [execOp,ho,hx hc,Instr.loadAt,Instr.sureAddr,this]
def Sh (O:Kr) (b off:Nat) (cs:List Value):Prop:=O.S b/\∀ j u,cs[j]?=some u->O.w.cell? ⟨b,off+j,none⟩=some u
theorem Sh.mono {O O':Kr} {b off:Nat} {cs:List Value} (h:Sh O b off cs) (k:Sa O O'):Sh O' b off cs :=
 ⟨k.sh b h.1,fun j u hu=>by have:=h.2 j u hu;unfold World.cell? at *;rw [k.keep b h.1];exact this⟩
theorem uV {t b off:Nat} {cs:List Value} {v:Value} (ho:o.op=.load t x) (hx:Ev Z c x (.pointer (some ⟨b,off,none⟩))) (hm:c=true->Sh O b off cs) (hr:mw t cs 0=some v):Rb c o Z ρ O v:=fun hc w hs=>by
 have h:=hm hc
 have:=qA (w:=w) (t:=t) (b:=b) (off:=off) (cs:=cs) (v:=v) (fun j u hu=>by have:=h.2 j u hu;unfold World.cell? at *;rw [hs.keep b h.1];exact this) hr
 simp [execOp,ho,hx hc,Instr.loadAt,Instr.sureAddr,this]
theorem Gg {t n cp:Nat} {a:Option Addr} {E:Nat} (ho:o.op=.call { callee:=.builtin .len,args:=#[x],argTypes:=#[t] }) (hu:fQ t=some (.slice E)) (hx:Ev Z c x (.slice a n cp)):Rb c o Z ρ O (.int .i64 (n:Int)):=fun hc w _=>by
 simp [execOp,ho,resolve,invoke,builtin,Builtin.len_,hx hc,run_underlying (bD hu),goInt]
theorem pb {t:Nat} {s:Xh} (ho:o.op=.call { callee:=.builtin .len,args:=#[x],argTypes:=#[t] }) (hu:fQ t=some .string) (hx:Ev Z c x (.string s)):Rb c o Z ρ O (.int .i64 (s.size:Int)):=fun hc w _=>by
 simp [execOp,ho,resolve,invoke,builtin,Builtin.len_,hx hc,run_underlying (bD hu),goInt]
theorem oq_min {t:List Nat} {k:IntKind} {a b:Int} (ho:o.op=.call { callee:=.builtin .min,args:=#[x,y],argTypes:=t.toArray }) (hx:Ev Z c x (.int k a)) (hy:Ev Z c y (.int k b)):Rb c o Z ρ O (.int k (if b<a then b else a)):=fun hc w _=>by
 simp [execOp,ho,resolve,invoke,builtin,Builtin.min_,Builtin.min2,hx hc,hy hc]
theorem oq_max {t:List Nat} {k:IntKind} {a b:Int} (ho:o.op=.call { callee:=.builtin .max,args:=#[x,y],argTypes:=t.toArray }) (hx:Ev Z c x (.int k a)) (hy:Ev Z c y (.int k b)):Rb c o Z ρ O (.int k (if a<b then b else a)):=fun hc w _=>by
 simp [execOp,ho,resolve,invoke,builtin,Builtin.max_,Builtin.max2,hx hc,hy hc]
theorem rC {t b off n cp E sz by':Nat} {k:IntKind} {i:Int} {j:Nat} {z:Value} (ho:o.op=.indexAddr t x y) (hu:fQ t=some (.slice E)) (hi:iE E=some (z,sz,by'))
    (hx:Ev Z c x (.slice (some ⟨b,off,none⟩) n cp)) (hy:Ev Z c y (.int k i)) (hj:c=true->i=(j:Int)) (hlt:c=true->j<n):Rb c o Z ρ O (.pointer (some ⟨b,off+j*sz,none⟩)):=fun hc w _=>by
  have h1:=hj hc;have h2:=hlt hc
  simp only [execOp,ho,hx hc,hy hc,Instr.indexAt,asIntOf,Sem.run_bind,Sem.run_pure,Result.andThen_ok,run_underlying (bD hu)]
  simp [h1,h2,eN hi,iU]
theorem pW {t:Nat} {s:Xh} {k:IntKind} {i:Int} {j:Nat} (ho:o.op=.index t x y) (hu:fQ t=some .string)
    (hx:Ev Z c x (.string s)) (hy:Ev Z c y (.int k i)) (hj:c=true->i=(j:Int)) (hlt:c=true->j<s.size):Rb c o Z ρ O (.int .u8 ((s.data.toList.getD j 0).toNat:Int)):=fun hc w _=>by
  have h1:=hj hc;have h2:=hlt hc
  have e:s[j]?=some (s.data.toList.getD j 0):=by
    have h3:j<s.data.toList.length:=by simpa using h2
    rw [getElem?_pos s j h2,List.getD_eq_getElem?_getD,List.getElem?_eq_getElem h3];rfl
  simp only [execOp,ho,hx hc,hy hc,Instr.index,asIntOf,Sem.run_bind,Sem.run_pure,Result.andThen_ok,run_underlying (bD hu)]
  simp [h1,e]
end
theorem pu {w:World} {o:Obj} {b:Nat} (h:b<w.heap.size):(w.alloc o).heap[b]?=w.heap[b]?:=by
 simp only [World.alloc];rw [Array.getElem?_push_lt h,Array.getElem?_eq_getElem h]
theorem sY (w:World) (o:Obj):(w.alloc o).heap[w.heap.size]?=some o:=by simp only [World.alloc];exact Array.getElem?_push_size
theorem zK {α:Type} {s r:α} {l1 l2:List α} (h:s∈l1++r::l2) (hne:s≠r):s∈l1++l2:=by
 rcases List.mem_append.1 h with h | h
 ·exact List.mem_append.2 (.inl h)
 rcases List.mem_cons.1 h with h | h
 ·exact absurd h hne
 exact List.mem_append.2 (.inr h)
theorem mem_mid' {α:Type} {s r:α} {l1 l2:List α} (h:s∈l1++l2):s∈l1++r::l2:=by
 rcases List.mem_append.1 h with h | h
 ·exact List.mem_append.2 (.inl h)
 exact List.mem_append.2 (.inr (mem_cons_of_mem _ h))
theorem Ja.holds_of {r:Ja} {w w':World} (h:r.holds w) (hb:∀ b,r.blk=some b->w'.heap[b]?=w.heap[b]?):r.holds w':=by
 unfold Ja.holds at *
 cases hr:r.blk with
 | none=>rw [hr] at h;exact h
 | some b=>rw [hr] at h;simp only at h ⊢;rw [hb b hr];exact h
section
variable {β:Jc} {ρ:List Ja} {O:Kr}
theorem ga (h:∀ b,O.S b->b<O.w.heap.size) (o:Obj):Sa O ⟨O.w.alloc o,O.S⟩ :=
 ⟨by simp,fun _ h=>h,fun b hb=>pu (h b hb)⟩
theorem Zt.alloc (h:Zt β ρ O) (o:Obj) (r:Ja) (hb:r.blk=some O.w.heap.size) (hs:r.says (some o)):Zt β (r::ρ) ⟨O.w.alloc o,O.S⟩:=by
 obtain ⟨hle,hfin,hown,hblk,hnd⟩:=h
 refine ⟨⟨hle.kle.trans (ga hfin o),fun b hb hm=>(pu (lt_of_lt_of_le hb hle.kle.size)).trans (hle.same b hb hm),hle.shNew,hle.os,hle.tape,hle.output,hle.drawn⟩,fun b hb=>by have:=hfin b hb;simp;omega,?_,?_,?_⟩
 ·intro s hs'
  rcases List.mem_cons.1 hs' with rfl | hs'
  ·unfold Ja.holds;rw [hb];simp only;rw [sY];exact hs
  exact Ja.holds_of (hown s hs') fun b hb=>pu (hblk s hs' b hb).1
 ·intro s hs' b hb'
  rcases List.mem_cons.1 hs' with rfl | hs'
  ·rw [hb] at hb';injection hb' with hb';subst hb'
   exact ⟨by simp,fun hS=>absurd (hfin _ hS) (by omega),.inl hle.kle.size⟩
  obtain ⟨h1,h2,h3⟩:=hblk s hs' b hb'
  exact ⟨by simp;omega,h2,h3⟩
 refine List.Pairwise.cons ?_ hnd
 intro s hs' b hb' hb''
 rw [hb] at hb';injection hb' with hb';subst hb'
 have:=(hblk s hs' _ hb'').1;omega
theorem Zt.turn (h:Zt β ρ O) {r r':Ja} {l1 l2:List Ja} {b:Nat} {w':World} (hρ:ρ=l1++r::l2) (hb:r.blk=some b) (hb':r'.blk=some b)
    (hw:∀ i,i≠b->w'.heap[i]?=O.w.heap[i]?) (hz:w'.heap.size=O.w.heap.size) (hs:r'.says w'.heap[b]?) (ho:w'.os=O.w.os) (ht:w'.tape=O.w.tape) (hu:w'.output=O.w.output) (hdr:O.w.drawn<=w'.drawn) :
    Zt β (l1++r'::l2) ⟨w',O.S⟩/\Sa O ⟨w',O.S⟩:=by
  obtain ⟨hle,hfin,hown,hblk,hnd⟩:=h
  have hr:r∈ρ:=by rw [hρ];simp
  obtain ⟨hlt,hnS,hbase⟩:=hblk r hr b hb
  have hk:Sa O ⟨w',O.S⟩:=⟨by rw [hz];exact le_refl _,fun _ h=>h,fun i hi=>hw i fun e=>hnS (e ▸ hi)⟩
  rw [hρ] at hnd
  have hcross:∀ s∈l1++l2,s.blk≠some b:=by
    intro s hs' he
    rcases List.mem_append.1 hs' with hs' | hs'
    · exact (List.pairwise_append.1 hnd).2.2 s hs' r (by simp) b he hb
    exact (List.pairwise_cons.1 (List.pairwise_append.1 hnd).2.1).1 s hs' b hb he
  refine ⟨⟨⟨hle.kle.trans hk,fun i hi hm=>(hw i (fun e=>by subst e;exact hbase.elim (fun h=>absurd hi (by omega)) hm)).trans (hle.same i hi hm),hle.shNew,ho.trans hle.os,ht.trans hle.tape,hu.trans hle.output,hle.drawn.trans (.of hdr)⟩,fun i hi=>by rw [hz];exact hfin i hi,?_,?_,?_⟩,hk⟩
  · intro s hs'
    by_cases hsr:s=r'
    · subst hsr;unfold Ja.holds;rw [hb'];exact hs
    have hs2:s∈l1++l2:=zK hs' hsr
    have hs3:s∈ρ:=by rw [hρ];exact mem_mid' hs2
    exact Ja.holds_of (hown s hs3) fun i hi=>hw i fun e=>hcross s hs2 (e ▸ hi)
  · intro s hs' i hi
    by_cases hsr:s=r'
    · subst hsr;rw [hb'] at hi;injection hi with hi;subst hi;exact ⟨by rw [hz];exact hlt,hnS,hbase⟩
    have hs3:s∈ρ:=by rw [hρ];exact mem_mid' (zK hs' hsr)
    obtain ⟨h1,h2,h3⟩:=hblk s hs3 i hi
    exact ⟨by rw [hz];exact h1,h2,h3⟩
  refine List.pairwise_append.2 ⟨(List.pairwise_append.1 hnd).1,List.Pairwise.cons ?_ (List.pairwise_cons.1 (List.pairwise_append.1 hnd).2.1).2,?_⟩
  · intro s hs' i hi;rw [hb'] at hi;injection hi with hi;subst hi;exact hcross s (by simp [hs'])
  intro s hs' u hu' i hi
  rcases List.mem_cons.1 hu' with rfl | hu'
  · rw [hb'];intro e;injection e with e;subst e;exact hcross s (by simp [hs']) hi
  exact (List.pairwise_append.1 hnd).2.2 s hs' u (by simp [hu']) i hi
theorem Zt.perm {ρ':List Ja} (h:Zt β ρ O) (hp:ρ.Perm ρ'):Zt β ρ' O :=
 ⟨h.le,h.fin,fun r hr=>h.own r (hp.mem_iff.2 hr),fun r hr=>h.blk r (hp.mem_iff.2 hr),hp.pairwise h.nd fun hab b hb he=>hab b he hb⟩
theorem Zt.sub {ρ':List Ja} (h:Zt β ρ O) (hp:ρ'.Sublist ρ):Zt β ρ' O :=
 ⟨h.le,h.fin,fun r hr=>h.own r (hp.subset hr),fun r hr=>h.blk r (hp.subset hr),h.nd.sublist hp⟩
theorem Zt.drew (h:Zt β ρ O):Zt β ρ ⟨{ O.w with drawn:=O.w.drawn+1 },O.S⟩ :=
 ⟨⟨⟨h.le.kle.size,h.le.kle.sh,h.le.kle.keep⟩,h.le.same,h.le.shNew,h.le.os,h.le.tape,h.le.output,h.le.drawn.trans (.of (le_succ _))⟩,h.fin,h.own,h.blk,h.nd⟩
theorem Zt.pub {r:Ja} {l:List Ja} {b:Nat} (h:Zt β (r::l) O) (hb:r.blk=some b):Zt β l ⟨O.w,fun i=>O.S i\/i=b⟩/\Sa O ⟨O.w,fun i=>O.S i\/i=b⟩:=by
 obtain ⟨hle,hfin,hown,hblk,hnd⟩:=h
 obtain ⟨hlt,hnS,hbase⟩:=hblk r (by simp) b hb
 have hk:Sa O ⟨O.w,fun i=>O.S i\/i=b⟩:=⟨le_refl _,fun _ h=>.inl h,fun _ _=>rfl⟩
 refine ⟨⟨⟨hle.kle.trans hk,hle.same,fun i hi=>?_,hle.os,hle.tape,hle.output,hle.drawn⟩,fun i hi=>?_,fun s hs=>hown s (mem_cons_of_mem _ hs),fun s hs i hi=>?_,(List.pairwise_cons.1 hnd).2⟩,hk⟩
 ·rcases hi with hi | rfl
  ·exact hle.shNew i hi
  exact .inr hbase
 ·rcases hi with hi | rfl
  ·exact hfin i hi
  exact hlt
 obtain ⟨h1,h2,h3⟩:=hblk s (mem_cons_of_mem _ hs) i hi
 refine ⟨h1,fun h=>?_,h3⟩
 rcases h with h | rfl
 ·exact h2 h
 exact (List.pairwise_cons.1 hnd).1 s hs i hb hi
def wV (ρ:List Ja):List Nat:=ρ.filterMap (·.blk)
theorem Gh {r:Ja} {b:Nat} {ρ:List Ja} (h:r∈ρ) (hb:r.blk=some b):b∈wV ρ:=List.mem_filterMap.2 ⟨r,h,hb⟩
theorem vC {b:Nat} {ρ:List Ja} (h:b∈wV ρ):∃ r∈ρ,r.blk=some b:=List.mem_filterMap.1 h
theorem Zt.split {ρ1 ρ2:List Ja} (h:Zt β (ρ1++ρ2) O):Zt ⟨O,wV ρ1,none⟩ ρ1 O :=
 ⟨.refl _ _,h.fin,fun r hr=>h.own r (List.mem_append.2 (.inl hr)),fun r hr b hb =>
  ⟨(h.blk r (List.mem_append.2 (.inl hr)) b hb).1,(h.blk r (List.mem_append.2 (.inl hr)) b hb).2.1,.inr (Gh hr hb)⟩,(List.pairwise_append.1 h.nd).1⟩
theorem Zt.join {ρ1 ρ2 ρ1':List Ja} {O':Kr} (h:Zt β (ρ1++ρ2) O) (h':Zt ⟨O,wV ρ1,none⟩ ρ1' O'):Zt β (ρ1'++ρ2) O':=by
 have hbase:∀ b,b∈wV ρ1->b<O.w.heap.size/\(β.k0.w.heap.size<=b\/b∈β.M):=fun b hb=>by
  obtain ⟨r,hr,hb⟩:=vC hb
  have:=h.blk r (List.mem_append.2 (.inl hr)) b hb
  exact ⟨this.1,this.2.2⟩
 have hcross:∀ s∈ρ2,∀ b,s.blk=some b->b ∉ wV ρ1:=fun s hs b hb hm=>by
  obtain ⟨r,hr,hrb⟩:=vC hm
  exact (List.pairwise_append.1 h.nd).2.2 r hr s hs b hrb hb
 have h2:∀ s∈ρ2,∀ b,s.blk=some b->b<O.w.heap.size/\¬ O.S b/\(β.k0.w.heap.size<=b\/b∈β.M):=fun s hs=>h.blk s (List.mem_append.2 (.inr hs))
 have hk:=h'.le.kle
 refine ⟨⟨h.le.kle.trans hk,fun b hb hm=>?_,fun b hb=>?_,h'.le.os.trans h.le.os,h'.le.tape.trans h.le.tape,h'.le.output.trans h.le.output,h.le.drawn.trans h'.le.drawn⟩,h'.fin,?_,?_,?_⟩
 ·have hlt:b<O.w.heap.size:=lt_of_lt_of_le hb h.le.kle.size
  refine (h'.le.same b hlt fun hx=>?_).trans (h.le.same b hb hm)
  exact (hbase b hx).2.elim (fun h=>absurd hb (by omega)) hm
 ·rcases h'.le.shNew b hb with hS | hge | hx
  ·exact h.le.shNew b hS
  ·exact .inr (.inl (le_trans h.le.kle.size hge))
  exact .inr (hbase b hx).2
 ·intro r hr
  rcases List.mem_append.1 hr with hr | hr
  ·exact h'.own r hr
  exact Ja.holds_of (h.own r (List.mem_append.2 (.inr hr))) fun b hb=>h'.le.same b (h2 r hr b hb).1 (hcross r hr b hb)
 ·intro r hr b hb
  rcases List.mem_append.1 hr with hr | hr
  ·obtain ⟨g1,g2,g3⟩:=h'.blk r hr b hb
   refine ⟨g1,g2,?_⟩
   rcases g3 with g3 | g3
   ·exact .inl (le_trans h.le.kle.size g3)
   exact (hbase b g3).2
  obtain ⟨g1,g2,g3⟩:=h2 r hr b hb
  refine ⟨lt_of_lt_of_le g1 hk.size,fun hS=>?_,g3⟩
  rcases h'.le.shNew b hS with hS | hge | hx
  ·exact g2 hS
  ·exact absurd g1 (by exact Nat.not_lt.2 hge)
  exact hcross r hr b hb hx
 refine List.pairwise_append.2 ⟨h'.nd,(List.pairwise_append.1 h.nd).2.1,fun r hr s hs b hb hb'=>?_⟩
 rcases (h'.blk r hr b hb).2.2 with g | g
 ·exact absurd (h2 s hs b hb').1 (by exact Nat.not_lt.2 g)
 exact hcross s hs b hb' g
def Pf (f:Nat):Prop:=∃ fn,Tryz.prog.funcs[f]?=some fn/\(fn.name == "runtime.NumGoroutine")=false/\fn.body.isNone=false
def Re (f:Nat) (args:List Value) (ρ:List Ja) (O:Kr) (R:Value->List Ja->Kr->Prop):Prop :=
 Pf f/\(Zt ⟨O,wV ρ,none⟩ ρ O->Calls Tryz.prog f args.toArray O.w fun e w'=>∃ v ρ' O',e=.returned v/\w'=O'.w/\Zt ⟨O,wV ρ,none⟩ ρ' O'/\R v ρ' O')
theorem Re.mono {f:Nat} {args:List Value} {R R':Value->List Ja->Kr->Prop} (h:Re f args ρ O R) (hr:∀ v ρ' O',Sa O O'->R v ρ' O'->R' v ρ' O'):Re f args ρ O R' :=
 ⟨h.1,fun hi=>(h.2 hi).mono fun _ _ ⟨v,ρ',O',h1,h2,h3,h4⟩=>⟨v,ρ',O',h1,h2,h3,hr v ρ' O' h3.le.kle h4⟩⟩
theorem qB {f:Nat} (h:Pf f) (args:Array Value) (w:World):(callFunc f args).run Tryz.prog w=.ok (.enter f args) w:=by
 obtain ⟨fn,h1,h2,h3⟩:=h
 simp only [callFunc,Sem.run_bind,run_program,Result.andThen_ok,h1,h2,h3,Bool.false_eq_true,if_false,Sem.run_pure]
section
variable {o:Oper} {Z:Ma} {K:Value->List Ja->Kr->Prop}
theorem DJ {f:Nat} {l:List Operand} {ts:Array Nat} {args:List Value} {ρ1 ρ2:List Ja} {R:Value->List Ja->Kr->Prop} (ho:o.op=.call { callee:=.value (.func f),args:=l.toArray,argTypes:=ts })
    (ha:l.map (ev Z)=args) (hp:ρ.Perm (ρ1++ρ2)) (hc:Re f args ρ1 O R) (h:∀ v ρ' O',Sa O O'->R v ρ' O'->K v (ρ'++ρ2) O'):Lc o Z ρ O K:=fun β hi Nx hk=>by
  have hi2:=hi.perm hp
  unfold execOp
  simp only [ho,ev,resolve,Deferred.ofValue,Sem.run_bind,Sem.run_pure,Result.andThen_ok,invoke,map_toArray,ha,qB hc.1,Wc]
  simp only [Array.append_empty,Array.empty_append]
  exact (hc.2 hi2.split).mono fun e w' ⟨v,ρ',O',h1,h2,h3,h4⟩=>by
    subst h2
    exact ⟨v,h1,hk v (ρ'++ρ2) O' (hi2.join h3) h3.le.kle (h v ρ' O' h3.le.kle h4)⟩
theorem Gi {f:Nat} {l:List Operand} {ts:Array Nat} {args:List Value} {R:Value->List Ja->Kr->Prop} (ho:o.op=.call { callee:=.value (.func f),args:=l.toArray,argTypes:=ts })
    (ha:l.map (ev Z)=args) (hc:Re f args [] O R) (h:∀ v ρ' O',Sa O O'->R v ρ' O'->K v (ρ'++ρ) O'):Lc o Z ρ O K :=
  DJ ho ha Vh hc h
theorem Gj {f:Nat} {x:Operand} {l:List Operand} {ts:Array Nat} {first captured args:List Value} {ρ1 ρ2:List Ja} {R:Value->List Ja->Kr->Prop} (ho:o.op=.call { callee:=.value x,args:=l.toArray,argTypes:=ts })
    (hx:ev Z x=.func (.func f) first.toArray captured.toArray) (ha:first++(l.map (ev Z))++captured=args) (hp:ρ.Perm (ρ1++ρ2)) (hc:Re f args ρ1 O R) (h:∀ v ρ' O',Sa O O'->R v ρ' O'->K v (ρ'++ρ2) O'):Lc o Z ρ O K:=fun β hi Nx hk=>by
  have hi2:=hi.perm hp
  unfold execOp
  simp only [ho,hx,resolve,Deferred.ofValue,Sem.run_bind,Sem.run_pure,Result.andThen_ok,invoke,map_toArray,List.append_toArray,ha,qB hc.1,Wc]
  exact (hc.2 hi2.split).mono fun e w' ⟨v,ρ',O',h1,h2,h3,h4⟩=>by
    subst h2
    exact ⟨v,h1,hk v (ρ'++ρ2) O' (hi2.join h3) h3.le.kle (h v ρ' O' h3.le.kle h4)⟩
theorem ol_box {t:Nat} {x:Operand} {cs:List Value} (ho:o.op=.box t x) (hx:cn (ev Z x)=cs) (h:∀ b O',Sa O O'->K (.pointer (some ⟨b,0,none⟩)) (Ja.b b t cs::ρ) O'):Lc o Z ρ O K:=fun β hi Nx hk=>by
 have hcs:(ev Z x).cells=cs.toArray:=by rw [<- hx,<- j6]
 unfold execOp
 simp only [ho,Instr.box,newVar,newRow,Sem.run_bind,run_newObj_alloc,Result.andThen_ok,Sem.run_pure,Wc,hcs]
 exact hk _ _ _ (hi.alloc _ (Ja.b O.w.heap.size t cs) rfl rfl) (ga hi.fin _) (h _ _ (ga hi.fin _))
theorem yU {t:Nat} {cs:List Value} {sz by':Nat} (ho:o.op=.alloc t) (hz:iE t=some (.agg cs.toArray,sz,by')) (h:∀ b O',Sa O O'->K (.pointer (some ⟨b,0,none⟩)) (Ja.b b t cs::ρ) O'):Lc o Z ρ O K:=fun β hi Nx hk=>by
 unfold execOp
 simp only [ho,Instr.alloc,newVar,newRow,Sem.run_bind,gq hz,run_newObj_alloc,Result.andThen_ok,Sem.run_pure,Wc,Value.cells]
 exact hk _ _ _ (hi.alloc _ (Ja.b O.w.heap.size t cs) rfl rfl) (ga hi.fin _) (h _ _ (ga hi.fin _))
theorem Gk {t:Nat} {z:Value} {sz by':Nat} {cs:List Value} (ho:o.op=.alloc t) (hz:iE t=some (z,sz,by')) (hx:cn z=cs) (h:∀ b O',Sa O O'->K (.pointer (some ⟨b,0,none⟩)) (Ja.b b t cs::ρ) O'):Lc o Z ρ O K:=fun β hi Nx hk=>by
 have hcs:z.cells=cs.toArray:=by rw [<- hx,<- j6]
 unfold execOp
 simp only [ho,Instr.alloc,newVar,newRow,Sem.run_bind,gq hz,run_newObj_alloc,Result.andThen_ok,Sem.run_pure,Wc,hcs]
 exact hk _ _ _ (hi.alloc _ (Ja.b O.w.heap.size t cs) rfl rfl) (ga hi.fin _) (h _ _ (ga hi.fin _))
def Mf (ρ:List Ja) (r r':Ja) (ρ':List Ja):Prop:=∃ l1 l2,ρ=l1++r::l2/\ρ'=l1++r'::l2
theorem Mf.h {r r':Ja} {l:List Ja}:Mf (r::l) r r' (r'::l):=⟨[],l,rfl,rfl⟩
theorem zL {w:World} {g:Nat} {cs:Array Value} {i:Nat} (h:i≠g):(w.setRow g cs).heap[i]?=w.heap[i]?:=by
 simp only [World.setRow];rw [Array.getElem?_modify,if_neg (fun e=>h e.symm)]
theorem pz {w:World} {b off T:Nat} {cs vs:List Value} (hb:w.heap[b]?=some (.cells cs.toArray T (0,0))) (hl:off+vs.length<=cs.length) (h1:vs.all Value.oneCell'=true) :
    ∃ w',(storeCells ⟨b,off,none⟩ vs).run Tryz.prog w=.ok () w'/\(∀ i,i≠b->w'.heap[i]?=w.heap[i]?)/\w'.heap.size=w.heap.size/\w'.heap[b]?=some (.cells (cs.take off++vs++cs.drop (off+vs.length)).toArray T (0,0))/\w'.os=w.os/\w'.tape=w.tape/\w'.output=w.output:=by
  have h:=run_storeCells_at Tryz.prog b off T vs 0 cs.toArray w hb (by simpa using hl) (fun v hv=>List.all_eq_true.1 h1 v hv)
  simp only [add_zero] at h
  exact ⟨_,h,fun i hi=>zL hi,by simp [World.setRow],setRow_heap w b _ _ T _ hb,rfl,rfl,rfl⟩
theorem wW {t:Nat} {x y:Operand} {b off T sz by':Nat} {z:Value} {cs vs:List Value} {ρ':List Ja} (ho:o.op=.store t x y) (hx:ev Z x=.pointer (some ⟨b,off,none⟩)) (hv:cn (ev Z y)=vs)
    (hz:iE t=some (z,sz,by')) (hsz:vs.length=sz) (h1:vs.all Value.oneCell'=true) (hl:Nat.ble (off+vs.length) cs.length=true) (hu:Mf ρ (Ja.b b T cs) (Ja.b b T (cs.take off++vs++cs.drop (off+vs.length))) ρ')
    (h:∀ O',Sa O O'->K undef ρ' O'):Lc o Z ρ O K:=fun β hi Nx hk=>by
  obtain ⟨l1,l2,hρ,hρ'⟩:=hu
  have hb:O.w.heap[b]?=some (.cells cs.toArray T (0,0)):=hi.own (Ja.b b T cs) (by rw [hρ];simp)
  obtain ⟨w',hrun,g1,g2,g3,g4,g5,g6⟩:=pz hb (le_of_ble_eq_true hl) h1
  have hcs:(ev Z y).cells=vs.toArray:=by rw [<- hv,<- j6]
  have hsz':vs.toArray.size=sz:=by simpa using hsz
  unfold execOp
  simp only [ho,hx,Instr.storeAt,Instr.sureAddr,storeVar,Sem.run_bind,Sem.run_pure,Result.andThen_ok,eN hz,hcs,hsz',ne_eq,not_true_eq_false,if_false,hrun,Wc]
  obtain ⟨hi',hk'⟩:=hi.turn (r:=Ja.b b T cs) (r':=Ja.b b T (cs.take off++vs++cs.drop (off+vs.length))) hρ rfl rfl g1 g2 g3 g4 g5 g6 (oA _ _ _ _ _ hrun)
  rw [<- hρ'] at hi'
  exact hk _ _ _ hi' hk' (h _ hk')
theorem A3 {cs:List Value} {k:Nat} {v:Value} (h:k<cs.length):cs.set k v=cs.take k++[v]++cs.drop (k+1):=by
 rw [List.set_eq_take_append_cons_drop,if_pos h];simp
theorem yV {t:Nat} {x y:Operand} {b T sz by':Nat} {z:Value} {cs vs:List Value} {ρ':List Ja} (ho:o.op=.store t x y) (hx:ev Z x=.pointer (some ⟨b,0,none⟩)) (hv:ev Z y=.agg vs.toArray)
    (hz:iE t=some (z,sz,by')) (hsz:vs.length=sz) (h1:vs.all Value.oneCell'=true) (hu:Mf ρ (Ja.b b T cs) (Ja.b b T vs) ρ') (hl:vs.length=cs.length)
    (h:∀ O',Sa O O'->K undef ρ' O'):Lc o Z ρ O K:=by
  refine wW (T:=T) ho hx (vs:=vs) (by rw [hv];rfl) hz hsz h1 (cs:=cs) (ble_eq_true_of_le (by omega)) ?_ h
  have:cs.take 0++vs++cs.drop (0+vs.length)=vs:=by simp [hl]
  rw [this];exact hu
end
def Se (rv:ResultVar) (Z:Ma) (ρ:List Ja) (v:Value):Prop:=match rv with
 | .tmp t=>Z t=v
 | .cell t T=>∃ b off Tb cs,Z t=.pointer (some ⟨b,off,none⟩)/\Ja.b b Tb cs∈ρ/\mw T (cs.drop off) 0=some v
theorem Se.cell {t T b off Tb:Nat} {Z:Ma} {cs:List Value} {v:Value} (h1:Z t=.pointer (some ⟨b,off,none⟩)) (h2:Ja.b b Tb cs∈ρ) (h3:mw T (cs.drop off) 0=some v):Se (.cell t T) Z ρ v:=⟨b,off,Tb,cs,h1,h2,h3⟩
def RV (rs:List ResultVar) (Z:Ma) (ρ:List Ja) (v:Value):Prop:=match rs with
 | []=>v=.tuple #[]
 | [r]=>Se r Z ρ v
 | [r,s]=>∃ v1 v2,Se r Z ρ v1/\Se s Z ρ v2/\v=.tuple #[v1,v2]
 | [r,s,t]=>∃ v1 v2 v3,Se r Z ρ v1/\Se s Z ρ v2/\Se t Z ρ v3/\v=.tuple #[v1,v2,v3]
 | _=>False
def Gl (tmps:Array Value) (rv:ResultVar):Sem Value:=match rv with
 | .tmp t=>pure (tmps.getD t undef)
 | .cell x t=>do loadVar t (<- asAddr (tmps.getD x undef))
theorem su {df:List Deferred} {n:Nat} {a:Act} {Z:Ma} {rv:ResultVar} {v:Value} (hr:Pd df n a Z) (hi:Zt β ρ O) (h:Se rv Z ρ v) :
    (Gl a.tmps rv).run Tryz.prog O.w=.ok v O.w:=by
  unfold Gl
  cases rv with
  | tmp t=>simp only [Se] at h;simp only [hr.2.2,h,Sem.run_pure]
  | cell t T =>
    obtain ⟨b,off,Tb,cs,h1,h2,h3⟩:=h
    have hb:O.w.heap[b]?=some (.cells cs.toArray Tb (0,0)):=hi.own _ h2
    have:=qA (w:=O.w) (t:=T) (b:=b) (off:=off) (cs:=cs.drop off) (v:=v) (fun j u hu=>by rw [nr hb];rwa [List.getElem?_drop] at hu) h3
    simp only [hr.2.2,h1,asAddr,Sem.run_bind,Sem.run_pure,Result.andThen_ok,this]
theorem run_RV {df:List Deferred} {n:Nat} {a:Act} {Z:Ma} {fn:Func} {rs:List ResultVar} {v:Value} (hfn:fn.results=rs.toArray) (hr:Pd df n a Z) (hi:Zt β ρ O) (h:RV rs Z ρ v):(results fn a.tmps).run Tryz.prog O.w=.ok v O.w:=by
 have hres:results fn a.tmps=(do let vs <- fn.results.mapM (Gl a.tmps);pure (if h:vs.size=1 then vs[0] else .tuple vs)):=rfl
 rw [hres,hfn]
 clear hres
 match rs,h with
 | [],h=>simp only [RV] at h;subst h;simp
 | [r],h=>have h1:=su hr hi h;simp [h1]
 | [r,s],⟨v1,v2,h1,h2,h3⟩=>have g1:=su hr hi h1;have g2:=su hr hi h2;subst h3;simp [g1,g2]
 | [r,s,t],⟨v1,v2,v3,h1,h2,h3,h4⟩=>have g1:=su hr hi h1;have g2:=su hr hi h2;have g3:=su hr hi h3;subst h4;simp [g1,g2,g3]
def Ke (ρ:List Ja) (O:Kr) (ρ':List Ja) (O':Kr):Prop:=O'.w=O.w/\∀ β,Zt β ρ O->Zt β ρ' O'/\Sa O O'
theorem Ke.drop {ρ':List Ja} (h:ρ'.Sublist ρ):Ke ρ O ρ' O:=⟨rfl,fun _ hi=>⟨hi.sub h,.refl _⟩⟩
theorem Ke.none:Ke ρ O [] O:=.drop (List.nil_sublist _)
def Gm (rs:List ResultVar) (R:Value->List Ja->Kr->Prop):Exit->Yb:=fun e Z ρ O=>match e with
 | .ret | .normal=>∀ β,Zt β ρ O->∃ v ρ' O',RV rs Z ρ v/\Ke ρ O ρ' O'/\R v ρ' O'
 | _=>False
theorem qC {f n:Nat} {fn:Func} {c:Code} {args:List Value} {rs:List ResultVar} {R:Value->List Ja->Kr->Prop} (hf:Tryz.prog.funcs[f]?=some fn) (hok:Pf f) (hb:fn.body=some c) (hn:fn.ntmps=n) (hres:fn.results=rs.toArray) (hsz:Nat.ble args.length n=true)
    (h:WC ⟨O,wV ρ,none⟩ n c (Gm rs R) (F3 args.toArray) ρ O):Re f args ρ O R :=
  ⟨hok,fun hi=>calls_of_wp hf hb (by
    have hr:=F5 args.toArray n (by simpa using le_of_ble_eq_true hsz)
    rw [hn]
    refine h hi _ hr _ fun e a' Z' ρ' O' g1 g2 g3 g4=>?_
    have key:(∃ v ρ'' O'',RV rs Z' ρ' v/\Ke ρ' O' ρ'' O''/\R v ρ'' O'')->∃ v,(results fn a'.tmps).run Tryz.prog O'.w=.ok v O'.w/\(fun e w'=>∃ v ρ' O',e=Ending.returned v/\w'=O'.w/\Zt ⟨O,wV ρ,none⟩ ρ' O'/\R v ρ' O') (.returned v) O'.w:=fun ⟨v,ρ'',O'',k1,k2,k3⟩ =>
      ⟨v,run_RV hres g1 g2 k1,v,ρ'',O'',rfl,k2.1.symm,(k2.2 _ g2).1,k3⟩
    cases e with
    | ret=>exact ⟨g1.2.1,key (g4 _ g2)⟩
    | normal=>exact ⟨g1.2.1,key (g4 _ g2)⟩
    | _=>exact g4.elim)⟩
end
theorem nog:(Tryz.prog.funcs.toList.all fun fn => !(fn.name == "runtime.NumGoroutine"))=true:=by kernel_rfl
theorem CG {f:Nat} {fn:Func} {c:Code} (hf:Tryz.prog.funcs[f]?=some fn) (hb:fn.body=some c):Pf f:=by
  refine ⟨fn,hf,?_,by rw [hb];rfl⟩
  have h:=List.all_eq_true.mp nog fn (Array.mem_toList_iff.mpr (Array.mem_of_getElem? hf))
  cases e:fn.name == "runtime.NumGoroutine"
  · rfl
  rw [e] at h;cases h
def Rc (f:Nat) (args:List Value) (O:Kr) (R:Value->Kr->Prop):Prop:=Re f args [] O fun v ρ' O'=>ρ'=[]/\R v O'
theorem Rc.mono {f:Nat} {args:List Value} {O:Kr} {R R':Value->Kr->Prop} (h:Rc f args O R) (hr:∀ v O',Sa O O'->R v O'->R' v O'):Rc f args O R' :=
 Re.mono h fun v _ O' hk h=>⟨h.1,hr v O' hk h.2⟩
def OpG (c:Bool) (o:Oper) (Z:Ma) (ρ:List Ja) (O:Kr) (K:Value->Kr->Prop):Prop :=
 (c=true->Lc o Z ρ O fun v ρ' O'=>ρ'=ρ/\K v O')/\(c=false->K undef O)
section
variable {β:Jc} {n:Nat} {ops:Array Oper} {o:Oper} {Z:Ma} {ρ:List Ja} {O:Kr} {c:Bool}
theorem oG {K:Value->List Ja->Kr->Prop} {f:Nat} {l:List Operand} {ts:Array Nat} {args:List Value} {R:Value->Kr->Prop} (ho:o.op=.call { callee:=.value (.func f),args:=l.toArray,argTypes:=ts })
    (ha:l.map (ev Z)=args) (hc:Rc f args O R) (h:∀ v O',Sa O O'->R v O'->K v ρ O'):Lc o Z ρ O K :=
  Gi ho ha hc fun v ρ' O' hk hr=>by obtain ⟨rfl,hr⟩:=hr;exact h v O' hk hr
theorem yW {K:Value->List Ja->Kr->Prop} {f:Nat} {x:Operand} {l:List Operand} {ts:Array Nat} {first captured args:List Value} {R:Value->Kr->Prop} (ho:o.op=.call { callee:=.value x,args:=l.toArray,argTypes:=ts })
    (hx:ev Z x=.func (.func f) first.toArray captured.toArray) (ha:first++(l.map (ev Z))++captured=args) (hc:Rc f args O R) (h:∀ v O',Sa O O'->R v O'->K v ρ O'):Lc o Z ρ O K :=
  Gj ho hx ha Vh hc fun v ρ' O' hk hr=>by obtain ⟨rfl,hr⟩:=hr;exact h v O' hk hr
theorem wX {K:Value->Kr->Prop} {f:Nat} {l:List Operand} {ts:Array Nat} {args:List Value} {R:Value->Kr->Prop} (ho:o.op=.call { callee:=.value (.func f),args:=l.toArray,argTypes:=ts })
    (ha:c=true->l.map (ev Z)=args) (hc:c=true->Rc f args O R) (h:∀ v O',Sa O O'->(c=true->R v O')->K v O'):OpG c o Z ρ O K :=
  ⟨fun hct=>oG ho (ha hct) (hc hct) fun v O' hk hr=>⟨rfl,h v O' hk fun _=>hr⟩,fun hcf=>h undef O (.refl _) fun h=>by rw [hcf] at h;cases h⟩
theorem wl_g {rest:List Oper} {K:Yb} {d:Nat} (hg:Wb ops Z o c) (hd':o.dst=some d) (hlt:Nat.blt d n=true) (h:OpG c o Z ρ O fun v O'=>WL β n ops rest K (upd Z d (gv c v)) ρ O'):WL β n ops (o::rest) K Z ρ O :=
 fun hi df a hr Q hk=>by
  simp only [<- ie hd'] at h
  have hd:=jl hd' hlt
  unfold wpList
  rw [lI hr,hg]
  cases c with
  | false =>
   have h2:=h.2 rfl
   simp only [ko] at h2
   exact h2 hi _ (hr.put hd undef) Q hk
  | true =>
   refine .inl (mY hr.eval (h.1 rfl β hi (fun v w=>wpList Tryz.prog ops Q rest (a.put o.dst v) w) fun v ρ' O' hi' hle hw=>?_) fun _ _ h=>h)
   obtain ⟨rfl,hw⟩:=hw
   simp only [nq] at hw
   exact hw hi' _ (hr.put hd v) Q fun a' Z' ρ'' O'' h1 h2 h3 h4=>hk a' Z' ρ'' O'' h1 h2 (hle.trans h3) h4
end
theorem Lc.frame {β:Jc} {o:Oper} {Z:Ma} {ρ ρf:List Ja} {O:Kr} {K:Value->List Ja->Kr->Prop} (h:Lc o Z ρ O K) (hi:Zt β (ρ++ρf) O) (Nx:Value->World->Prop) (hk:∀ v ρ' O',Zt β (ρ'++ρf) O'->Sa O O'->K v ρ' O'->Nx v O'.w):Wc Nx ((execOp (ev Z) o).run Tryz.prog O.w) :=
 h ⟨O,wV ρ,none⟩ hi.split Nx fun v ρ' O' hi' hle hK=>hk v ρ' O' (hi.join hi') hle hK
theorem vD:∀ (l:List Value) (k off:Nat) (cells:Array Value),off+k+l.length<=cells.size ->
    ((l.zipIdx k).foldl (fun (cs:Array Value) (p:Value×Nat)=>cs.setIfInBounds (off+p.2) p.1) cells).toList=cells.toList.take (off+k)++l++cells.toList.drop (off+k+l.length)
  | [],k,off,cells,_=>by simp
  | v::l,k,off,cells,h=>by
    simp only [length_cons] at h
    have ih:=vD l (k+1) off (cells.setIfInBounds (off+k) v) (by simp;omega)
    simp only [zipIdx_cons,foldl_cons]
    rw [ih]
    have e:=list_seg_step cells.toList (off+k) v l (by simp;omega)
    simp only [Array.toList_setIfInBounds]
    have e1:off+(k+1)=off+k+1:=by omega
    rw [e1]
    simpa [add_assoc] using e
theorem zM (v:Value) (off:Nat) (cells:Array Value) (h:off+(cn v).length<=cells.size) :
    (v.cells.zipIdx.foldl (fun (cs:Array Value) (x:Value×Nat)=>match x with | (c,j)=>cs.setIfInBounds (off+j) c) cells).toList=cells.toList.take off++cn v++cells.toList.drop (off+(cn v).length):=by
  have:=vD (cn v) 0 off cells (by simpa using h)
  simp only [add_zero] at this
  rw [<- this,<- j6,<- Array.foldl_toList,Array.toList_zipIdx]
theorem yX {place:Nat->Option (Nat×Nat)} {cells:List Value} {i off sz:Nat} {v:Value} {rest:List (Nat×Value)} (hp:place i=some (off,sz)) (hv:(cn v).length=sz) (hl:off+sz<=cells.length) :
    Instr.fill place cells.toArray ((i,v)::rest)=Instr.fill place (cells.take off++cn v++cells.drop (off+sz)).toArray rest:=by
  have hvs:v.cells.size=sz:=by rw [<- hv,<- j6];simp
  have h:=zM v off cells.toArray (by simp [hv];omega)
  simp only [hv] at h
  have h2:v.cells.zipIdx.foldl (fun (cs:Array Value) (x:Value×Nat)=>match x with | (c,j)=>cs.setIfInBounds (off+j) c) cells.toArray=(cells.take off++cn v++cells.drop (off+sz)).toArray:=Array.ext' h
  rw [Instr.fill]
  simp only [hp]
  rw [if_neg (by simp [hvs];omega),h2]
theorem wY {sz:Nat}:∀ (vs:List Value) (k:Nat) (pre zs:List Value),pre.length=k*sz->zs.length=vs.length*sz->(∀ v∈vs,(cn v).length=sz) ->
    Instr.fill (fun i=>some (i*sz,sz)) (pre++zs).toArray ((vs.zipIdx k).map fun p=>(p.2,p.1))=some (pre++vs.flatMap cn).toArray
  | [],k,pre,zs,_,hz,_=>by
    have:zs=[]:=eq_nil_of_length_eq_zero (by simpa using hz)
    subst this;simp [Instr.fill]
  | v::vs,k,pre,zs,hp,hz,hw=>by
    have hv:=hw v (by simp)
    have hz':zs.length=vs.length*sz+sz:=by rw [hz,length_cons,add_mul];omega
    simp only [zipIdx_cons,map_cons]
    rw [yX (off:=k*sz) (sz:=sz) rfl hv (by simp;omega)]
    have e:(pre++zs).take (k*sz)++cn v++(pre++zs).drop (k*sz+sz)=(pre++cn v)++zs.drop sz:=by
      rw [<- hp,List.take_left]
      simp [List.drop_append,Nat.add_sub_cancel_left,append_assoc]
    rw [e,wY vs (k+1) (pre++cn v) (zs.drop sz) (by simp [hp,hv,add_mul]) (by simp;omega) (fun u hu=>hw u (by simp [hu]))]
    simp
theorem wZ {t E sz by':Nat} {z:Value} (hu:fQ t=some (.slice E)) (hi:iE E=some (z,sz,by')) (hz:z.cells.size=sz) (vs:List Value) (hw:∀ v∈vs,(cn v).length=sz) (hb:vs.length*sz<=16777216) (w:World) :
    (Instr.buildSlice t vs.length ((vs.zipIdx).map fun p=>(p.2,p.1)).toArray).run Tryz.prog w=.ok (.slice (some ⟨w.heap.size,0,none⟩) vs.length vs.length) (w.alloc (.cells (vs.flatMap cn).toArray E)):=by
  have hf:∀ zs:List Value,zs.length=vs.length*sz->Instr.fill (fun i=>some (i*sz,sz)) zs.toArray ((vs.zipIdx).map fun p=>(p.2,p.1))=some (vs.flatMap cn).toArray:=fun zs hzs=>by
    have:=wY vs 0 [] zs (by simp) hzs hw;simpa using this
  simp only [Instr.buildSlice,Sem.run_bind,run_underlying (bD hu),Result.andThen_ok,eN hi]
  have hb':¬ (vs.length*sz > 2 ^ 24):=by simp;omega
  rw [if_neg hb']
  by_cases h0:vs.length*sz=0
  · have h1:=hf [] (by simpa using h0.symm)
    have hr0:Array.range 0=#[]:=by decide
    simp only [h0,if_true,hr0]
    simp [h1,newRow]
  simp only [h0,if_false,gq hi,Sem.run_bind,Sem.run_pure,Result.andThen_ok]
  have h1:=hf (((Array.range (vs.length*sz)).map (z.cells[· % z.cells.size]!)).toList) (by simp)
  simp only [Array.toArray_toList] at h1
  simp [h1,newRow]
def zN (o:Oper):Option (Nat×List Value×(Nat->Value)):=match o.op with
 | .alloc T=>match iE T with
  | some (z,_,_)=>some (T,cn z,fun b=>.pointer (some ⟨b,0,none⟩))
  | none=>none
 | .buildSlice t 0 ps=>match ps.toList,fQ t with
  | [],some (.slice E)=>match iE E with
   | some _=>some (E,[],fun b=>.slice (some ⟨b,0,none⟩) 0 0)
   | none=>none
  | _,_=>none
 | _=>none
theorem A4 {o:Oper} {T:Nat} {cs:List Value} {mk:Nat->Value} (h:zN o=some (T,cs,mk)) (Z:Ma) (w:World):(execOp (ev Z) o).run Tryz.prog w=.ok (.value (mk w.heap.size)) (w.alloc (.cells cs.toArray T)):=by
 unfold zN at h
 split at h
 ·rename_i T' ho
  split at h
  ·rename_i z sz by' hz
   simp only [gn,Prod.mk.injEq] at h
   obtain ⟨rfl,rfl,rfl⟩:=h
   have hcs:z.cells=(cn z).toArray:=by rw [<- j6]
   simp only [execOp,ho,Instr.alloc,newVar,newRow,Sem.run_bind,gq hz,run_newObj_alloc,Result.andThen_ok,Sem.run_pure,hcs]
  cases h
 ·rename_i t ps ho
  split at h
  ·rename_i E hps hu
   split at h
   ·rename_i x hz
    obtain ⟨z,sz,by'⟩:=x
    simp only [gn,Prod.mk.injEq] at h
    obtain ⟨rfl,rfl,rfl⟩:=h
    have hps':ps=#[]:=by apply Array.ext';simpa using hps
    subst hps'
    simp [execOp,ho,Instr.buildSlice,run_underlying (bD hu),eN hz,newRow,Instr.fill]
    have hr0:Array.range 0=#[]:=by decide
    rw [hr0];simp
   cases h
  cases h
 cases h
def iK (ord:List (Nat×Nat)):List Nat:=(ord.filter fun p=>Nat.beq p.2 2).map (·.1)
def oH (L:Array Bool) (ps:List Nat):Array Bool:=ps.foldl (fun L i=>L.setIfInBounds i true) L
def Kb (o:Oper) (Z:Ma) (T:Nat) (cs:List Value) (mk:Nat->Value):Prop:=o.guard=none/\∀ w,(execOp (ev Z) o).run Tryz.prog w=.ok (.value (mk w.heap.size)) (w.alloc (.cells cs.toArray T))
theorem Kb.det {o:Oper} {Z:Ma} {T T':Nat} {cs cs':List Value} {mk mk':Nat->Value} (h:Kb o Z T cs mk) (h':Kb o Z T' cs' mk'):T=T'/\cs=cs'/\mk=mk':=by
 have h1:=(h.2 default).symm.trans (h'.2 default)
 injection h1 with _ h2
 have h3:=congrArg (fun w:World=>w.heap[(default:World).heap.size]?) h2
 simp only [sY,gn] at h3
 injection h3 with h4 h5
 refine ⟨h5,by simpa using h4,funext fun n=>?_⟩
 have g1:=(h.2 { (default:World) with heap:=Array.replicate n default }).symm.trans (h'.2 { (default:World) with heap:=Array.replicate n default })
 injection g1 with g2 _
 injection g2 with g2
 simpa using g2
def t8 (ops:Array Oper) (o:Oper) (p:Nat):Bool:=match (ops[p]?).bind (·.dst) with
 | some d => !(o.looksAt ops).contains d&&o.dst != some d
 | none=>false
def zO (ops:Array Oper) (o:Oper) (p:Nat):Bool:=match ops[p]?,o.dst with
 | some q,some d => !(q.looksAt ops).contains d
 | some _,none=>true
 | none,_=>false
def w0 (n:Nat) (ops:Array Oper) (p:Nat):Bool:=match ops[p]? with
 | some o=>o.guard.isNone&&(match o.dst with | some d=>Nat.blt d n | none=>false)
 | none=>false
def tn (ops:Array Oper) (p:Nat):Bool:=match ops[p]? with
 | some o=>(zN o).isSome&&o.guard.isNone
 | none=>false
def A5 (ops:Array Oper) (A:List Nat) (o:Oper) (P:List Nat):Bool:=P.all fun p=>t8 ops o p&&(!A.contains p||zO ops o p)
def Gn (ops:Array Oper) (L:Array Bool) (A:List Nat) (P:List Nat):Bool:=P.all fun p=>A.contains p || !(Region.ready .any ops (oH L (P.filter fun q => !Nat.beq q p))).contains p
def kG (n:Nat) (ops:Array Oper):Array Bool->List Nat->List (Nat×Nat)->Bool
  | _,_,[]=>true
  | L,A,(i,k)::r=>match k,ops[i]? with
      | 0,some o=>(Region.ready .any ops L).contains i&&Region.free .any ops L i&&A5 ops A o (iK r)&&kG n ops (L.setIfInBounds i true) A r
      | 1,some o=>(Region.ready .any ops L).contains i&&(Region.ready .any ops (oH L (iK r)) == [i])&&A5 ops A o (iK r)&&Gn ops L A (iK r)&&kG n ops (L.setIfInBounds i true) A r
      | 2,some o=>(Region.ready .any ops L).contains i&&(Region.ready .any ops (oH L (iK r)) == [i])&&A.contains i&&A5 ops A o (iK r)&&Gn ops L A (iK r)&&kG n ops (L.setIfInBounds i true) A r
      | 3,some _=>kG n ops L (i::A) r
      | 4,some _=>kG n ops L A r
      | _,_=>false
def qD (ops:List Oper):List (Nat×Nat)->Option (List (Nat×Oper))
 | []=>some []
 | (i,q)::r=>match ops[i]?,qD ops r with
  | some o,some l=>some ((q,o)::l)
  | _,_=>none
def WD (β:Jc) (n:Nat) (ops:Array Oper) (K:Yb):List (Nat×Oper)->Ma->List Ja->List Ja->Kr->Prop
  | [],Z,ρd,ρs,O=>∀ κ1,Sa O κ1->K Z (ρd++ρs) κ1
  | (0,o)::r,Z,ρd,ρs,O=>wO n o.dst=true/\((o.guard=none/\∃ v,Rb true o Z ρs O v/\WD β n ops K r (ry Z o.dst v) ρd ρs O)\/(∃ c v,Wb ops Z o c/\Rb c o Z ρs O v/\WD β n ops K r (ry Z o.dst (gv c v)) ρd ρs O))
  | (1,o)::r,Z,ρd,ρs,O=>wO n o.dst=true/\((o.guard=none/\∀ κ1,Sa O κ1->Lc o Z (ρd++ρs) κ1 fun v ρ' O'=>∃ ρd',ρ'=ρd'++ρs/\WD β n ops K r (ry Z o.dst v) ρd' ρs O') \/
      (∃ c,Wb ops Z o c/\∀ κ1,Sa O κ1->OpG c o Z (ρd++ρs) κ1 fun v O'=>WD β n ops K r (ry Z o.dst (gv c v)) ρd ρs O'))
  | (2,o)::r,Z,ρd,ρs,O=>∃ T cs mk d,Kb o Z T cs mk/\o.dst=some d/\∀ b O',Sa O O'->WD β n ops K r (upd Z d (mk b)) (Ja.b b T cs::ρd) ρs O'
  | (3,o)::r,Z,ρd,ρs,O=>(∃ T cs mk,Kb o Z T cs mk)/\WD β n ops K r Z ρd ρs O
  | (_,_)::r,Z,ρd,ρs,O=>∃ r0 ρd',ρd.Perm (r0::ρd')/\WD β n ops K r Z ρd' (r0::ρs) O
structure Wd where
 op:Nat
 slot:Nat
 val:Value
 res:Ja
def ov (E:List Wd) (Z:Ma):Ma:=fun t=>((E.find? fun e=>Nat.beq e.slot t).map (·.val)).getD (Z t)
theorem Gp (Z:Ma):ov [] Z=Z:=rfl
theorem zP {E:List Wd} {Z:Ma} {t:Nat} (h:∀ e∈E,e.slot≠t):ov E Z t=Z t:=by
 unfold ov
 have:E.find? (fun e=>Nat.beq e.slot t)=none:=List.find?_eq_none.2 fun e he hb=>h e he (eq_of_beq_eq_true hb)
 rw [this];rfl
theorem Gq {E:List Wd} {Z:Ma} {d:Nat} {v:Value} (h:∀ e∈E,e.slot≠d):ov E (upd Z d v)=upd (ov E Z) d v:=by
 funext t
 by_cases ht:t=d
 ·subst ht
  rw [zP h];simp [upd]
 have hb:Nat.beq t d=false:=by cases hb:Nat.beq t d;rfl;exact absurd (eq_of_beq_eq_true hb) ht
 unfold ov upd
 rw [hb];rfl
theorem ua {E:List Wd} {Z:Ma} {d:Option Nat} {v:Value} (h:∀ e∈E,d≠some e.slot):ov E (ry Z d v)=ry (ov E Z) d v:=by
 cases d with
 | none=>rfl
 | some d=>exact Gq fun e he h'=>h e he (by rw [h'])
theorem wm {E:List Wd} {e:Wd} {Z:Ma}:ov (e::E) Z=upd (ov E Z) e.slot e.val:=by
 funext t
 unfold ov upd
 simp only [List.find?_cons]
 by_cases ht:e.slot=t
 ·subst ht;simp
 have hb:Nat.beq e.slot t=false:=by cases hb:Nat.beq e.slot t;rfl;exact absurd (eq_of_beq_eq_true hb) ht
 have hb':Nat.beq t e.slot=false:=by cases hb:Nat.beq t e.slot;rfl;exact absurd (eq_of_beq_eq_true hb).symm ht
 rw [hb,hb'];rfl
theorem ov_mid {E1 E2:List Wd} {e:Wd} {Z:Ma} (h:∀ f∈E1++E2,f.slot≠e.slot):ov (E1++e::E2) Z=ov (E1++E2) (upd Z e.slot e.val):=by
 induction E1 with
 | nil=>rw [nil_append,wm,nil_append,Gq (by simpa using h)]
 | cons f E1 ih =>
  rw [cons_append,wm,ih (fun g hg=>h g (mem_cons_of_mem _ hg)),cons_append,wm]
theorem DK {ops:Array Oper} {E:List Wd} {Z:Ma} {o:Oper} (hs:∀ cs b,o.op≠.select cs b) (h:∀ e∈E,e.slot ∉ o.looksAt ops):execOp (ev (ov E Z)) o=execOp (ev Z) o :=
 execOp_congr o hs fun x hx=>by
  cases x with
  | tmp t=>exact zP fun e he h'=>h e he (List.mem_append_left _ (List.mem_filterMap.2 ⟨.tmp t,by simpa using hx,by rw [h']⟩))
  | _=>rfl
theorem A6 {ops:Array Oper} {E:List Wd} {Z:Ma} {o:Oper} {c:Bool} (h:∀ e∈E,e.slot ∉ o.looksAt ops) (hg:Wb ops Z o c):Wb ops (ov E Z) o c:=by
 unfold Wb Region.wanted at *
 cases hgd:o.guard with
 | none=>rw [hgd] at hg;exact hg
 | some jw =>
  obtain ⟨j,want⟩:=jw
  rw [hgd] at hg
  simp only at hg ⊢
  rw [<- hg]
  have:iQ ops (ov E Z) j=iQ ops Z j:=by
   unfold iQ
   cases hd:(ops[j]?).bind (·.dst) with
   | none=>rfl
   | some d =>
    simp only [Option.map_some]
    rw [zP fun e he h'=>h e he (List.mem_append_right _ (by rw [hgd];simp [hd,h']))]
  rw [this]
theorem lS {P:Program} {md:Region.Mode} {ops:Array Oper} {Q:Exit->Act->World->Prop} {S S':World->Prop} (hS:∀ w,S' w->S w):∀ (fuel:Nat) (listed:Array Bool) (a:Act) (w:World),wpAnyH P md ops Q S' fuel listed a w->wpAnyH P md ops Q S fuel listed a w
 | 0,_,_,_,h=>h
 | fuel+1,_,_,_,h=>⟨h.1,fun i hi=>wpOp_mono (fun a' w' h'=>⟨hS w' h'.1,lS hS fuel _ a' w' h'.2⟩) (h.2 i hi)⟩
theorem fR {L:Array Bool} {j:Nat} (hj:j<L.size):L.getD j true=L.getD j false:=by
 simp [Array.getD_eq_getD_getElem?,Array.getElem?_eq_getElem hj]
theorem A7 (L:Array Bool):∀ (ps:List Nat) ,(oH L ps).size=L.size:=by
 intro ps
 induction ps generalizing L with
 | nil=>rfl
 | cons p ps ih=>unfold oH at *;rw [foldl_cons,ih];simp
theorem w5 {L:Array Bool} {j:Nat}:∀ {ps:List Nat},(oH L ps).getD j false=true↔L.getD j false=true\/(j∈ps/\j<L.size):=by
 intro ps
 induction ps generalizing L with
 | nil=>simp [oH]
 | cons p ps ih =>
  unfold oH at *
  rw [foldl_cons,ih]
  by_cases hj:p=j
  ·subst hj
   by_cases hlt:p<L.size
   ·simp [hlt]
   simp [hlt]
  rw [getD_set_ne false hj]
  have:j≠p:=fun e=>hj e.symm
  simp [this]
theorem Rb.mono {c:Bool} {o:Oper} {Z:Ma} {ρ:List Ja} {O O':Kr} {v:Value} (h:Rb c o Z ρ O v) (k:Sa O O'):Rb c o Z ρ O' v :=
 fun hc w hs=>h hc w ⟨fun b hb=>(hs.keep b (k.sh b hb)).trans (k.keep b hb),hs.own⟩
theorem WD.mono {β:Jc} {n:Nat} {ops:Array Oper} {K:Yb} {O O':Kr} (k:Sa O O'):∀ {l:List (Nat×Oper)} {Z:Ma} {ρd ρs:List Ja},WD β n ops K l Z ρd ρs O->WD β n ops K l Z ρd ρs O'
 | [],_,_,_,h=>fun κ1 k1=>h κ1 (k.trans k1)
 | (0,o)::r,_,_,_,⟨h1,h2⟩=>⟨h1,h2.imp (fun ⟨g,v,g1,g2⟩=>⟨g,v,g1.mono k,WD.mono k g2⟩) (fun ⟨c,v,g,g1,g2⟩=>⟨c,v,g,g1.mono k,WD.mono k g2⟩)⟩
 | (1,o)::r,_,_,_,⟨h1,h2⟩=>⟨h1,h2.imp (fun ⟨g,g1⟩=>⟨g,fun κ1 k1=>g1 κ1 (k.trans k1)⟩) (fun ⟨c,g,g1⟩=>⟨c,g,fun κ1 k1=>g1 κ1 (k.trans k1)⟩)⟩
 | (2,o)::r,_,_,_,⟨T,cs,mk,d,h1,h2,h3⟩=>⟨T,cs,mk,d,h1,h2,fun b κ1 k1=>h3 b κ1 (k.trans k1)⟩
 | (3,o)::r,_,_,_,⟨h1,h2⟩=>⟨h1,WD.mono k h2⟩
 | (_+4,o)::r,_,_,_,⟨r0,ρd',h1,h2⟩=>⟨r0,ρd',h1,WD.mono k h2⟩
theorem uW:∀ (l l':List Nat),l.Nodup->(∀ x∈l,x∈l')->l.length<=l'.length
 | [],_,_,_=>by simp
 | x::l,l',hn,hs=>by
  have hx:=hs x (by simp)
  have h:=uW l (l'.erase x) (List.nodup_cons.1 hn).2 fun y hy=>(List.mem_erase_of_ne (fun (e:y=x)=>(List.nodup_cons.1 hn).1 (by rw [<- e];exact hy))).2 (hs y (mem_cons_of_mem _ hy))
  rw [List.length_erase_of_mem hx] at h
  have:0<l'.length:=List.length_pos_of_mem hx
  simp only [length_cons];omega
section
variable {β:Jc} {n:Nat} {ops:Array Oper} {K:Yb} {ρs:List Ja}
theorem pX {i k:Nat} {r:List (Nat×Nat)}:iK ((i,k)::r)=if k=2 then i::iK r else iK r:=by
 unfold iK
 by_cases hk:k=2
 ·subst hk;simp [filter_cons]
 have:Nat.beq k 2=false:=by cases hb:Nat.beq k 2;rfl;exact absurd (eq_of_beq_eq_true hb) hk
 simp [filter_cons,this,hk]
theorem Kb.same {o:Oper} {Z Z':Ma} {T:Nat} {cs:List Value} {mk:Nat->Value} (hs:∀ cs b,o.op≠.select cs b) (h:Kb o Z T cs mk) (he:∀ t∈o.looksAt ops,Z' t=Z t):Kb o Z' T cs mk :=
 ⟨h.1,fun w=>by
  rw [<- h.2 w,execOp_congr o hs fun x hx=>?_]
  cases x with
  | tmp t=>exact he t (List.mem_append_left _ (List.mem_filterMap.2 ⟨.tmp t,by simpa using hx,rfl⟩))
  | _=>rfl⟩
theorem w6 {Z:Ma} {d:Option Nat} {v:Value} {t:Nat} (h:d≠some t):ry Z d v t=Z t:=by
 cases d with
 | none=>rfl
 | some d =>
  have hb:Nat.beq t d=false:=by cases hb:Nat.beq t d;rfl;exact absurd (by rw [eq_of_beq_eq_true hb]) h
  simp only [ry,upd,hb,dq]
structure Ld (ops:Array Oper) (A P:List Nat) (L LE:Array Bool) (E:List Wd) (Z:Ma):Prop where
 sz:L.size=ops.size
 szE:LE.size=ops.size
 get:∀ j,LE.getD j false=true↔L.getD j false=true\/∃ e∈E,e.op=j
 pd:∀ e∈E,e.op∈P
 is:∀ e∈E,e.op∈A/\∃ o T cs mk b,ops[e.op]?=some o/\Kb o Z T cs mk/\o.dst=some e.slot/\e.val=mk b/\e.res=Ja.b b T cs
 nd:(E.map (·.op)).Nodup
section
variable {A P:List Nat} {L LE:Array Bool} {E:List Wd} {Z:Ma}
theorem Ld.free {i:Nat} (h:Ld ops A P L LE E Z) (hf:Region.free .any ops L i=true):Region.free .any ops LE i=true:=by
 unfold Region.free at *
 cases ho:ops[i]? with
 | none=>rw [ho] at hf;exact hf
 | some oi =>
  rw [ho] at hf
  simp only [List.all_eq_true,List.mem_range] at hf ⊢
  intro j hj
  have h1:=hf j hj
  simp only [or_eq_true] at h1 ⊢
  rcases h1 with (h1 | h1) | h1
  ·exact .inl (.inl h1)
  ·refine .inl (.inr ?_)
   rw [fR (by rw [h.szE];exact hj)]
   rw [fR (by rw [h.sz];exact hj)] at h1
   exact (h.get j).2 (.inl h1)
  exact .inr h1
theorem Ld.ready {i:Nat} (h:Ld ops A P L LE E Z) (hi:i∈Region.ready .any ops L) (hn:∀ e∈E,e.op≠i):i∈Region.ready .any ops LE:=by
 rw [mem_ready] at *
 obtain ⟨h0,o,ho,hall⟩:=hi
 have hlt:i<ops.size:=(Array.getElem?_eq_some_iff.1 ho).1
 refine ⟨?_,o,ho,fun e he hb=>(h.get _).2 (.inl (hall e he hb))⟩
 rw [fR (by rw [h.szE];exact hlt)]
 rw [fR (by rw [h.sz];exact hlt)] at h0
 cases hc:LE.getD i false with
 | false=>rfl
 | true =>
  rcases (h.get i).1 hc with h1 | ⟨e,he,h1⟩
  ·rw [h0] at h1;cases h1
  exact absurd h1 (hn e he)
theorem Ld.ready_all {j:Nat} {P':List Nat} (h:Ld ops A P L LE E Z) (hP:∀ e∈E,e.op∈P') (hj:j∈Region.ready .any ops LE) (hn:j ∉ P'):j∈Region.ready .any ops (oH L P'):=by
 rw [mem_ready] at *
 obtain ⟨h0,o,ho,hall⟩:=hj
 have hlt:j<ops.size:=(Array.getElem?_eq_some_iff.1 ho).1
 refine ⟨?_,o,ho,fun e he hb=>?_⟩
 ·rw [fR (by rw [A7,h.sz];exact hlt)]
  rw [fR (by rw [h.szE];exact hlt)] at h0
  cases hc:(oH L P').getD j false with
  | false=>rfl
  | true =>
   rcases w5.1 hc with h1 | ⟨h1,_⟩
   ·rw [(h.get j).2 (.inl h1)] at h0;cases h0
   exact absurd h1 hn
 refine w5.2 ?_
 have h1:=hall e he hb
 rcases (h.get _).1 h1 with h2 | ⟨f,hf,h2⟩
 ·exact .inl h2
 refine .inr ⟨h2 ▸ hP f hf,?_⟩
 rw [h.sz,<- h.szE]
 rcases lt_or_ge e.on LE.size with h3 | h3
 ·exact h3
 simp [Array.getD_eq_getD_getElem?,Array.getElem?_eq_none h3] at h1
end
theorem wn {L:Array Bool} {i j:Nat} (hi:i<L.size):(L.setIfInBounds i true).getD j false=true↔L.getD j false=true\/i=j:=by
 by_cases hij:i=j
 ·subst hij;simp [hi]
 rw [getD_set_ne false hij];simp [hij]
theorem qE {o:Oper} {p d:Nat} {o':Oper} (h:t8 ops o p=true) (ho:ops[p]?=some o') (hd:o'.dst=some d):d ∉ o.looksAt ops/\o.dst≠some d:=by
 unfold t8 at h
 rw [ho] at h
 simp only [fP,hd,and_eq_true,not_eq_true',bne_iff_ne,ne_eq] at h
 exact ⟨by simpa using h.1,h.2⟩
theorem vE {o:Oper} {p:Nat} {q:Oper} (h:zO ops o p=true) (hq:ops[p]?=some q):∀ t∈q.looksAt ops,o.dst≠some t:=fun t ht hd=>by
 unfold zO at h
 rw [hq,hd] at h
 simp only [not_eq_true'] at h
 simp [ht] at h
theorem w7 {A P:List Nat} {o:Oper} (h:A5 ops A o P=true):∀ p∈P,t8 ops o p=true/\(p∈A->zO ops o p=true):=fun p hp=>by
 have:=List.all_eq_true.1 h p hp
 simp only [and_eq_true,or_eq_true,not_eq_true'] at this
 refine ⟨this.1,fun ha=>?_⟩
 rcases this.2 with h1 | h1
 ·simp [ha] at h1
 exact h1
def pZ (ops:Array Oper) (P:List Nat):Bool:=P.all fun p=>P.all fun q=>Nat.beq p q||(match ops[p]? with | some o=>t8 ops o q | none=>false)
theorem xa {P:List Nat} (h:pZ ops P=true) {p q:Nat} {o o':Oper} {d:Nat} (hp:p∈P) (hq:q∈P) (hne:p≠q) (ho:ops[p]?=some o) (ho':ops[q]?=some o') (hd:o'.dst=some d):d ∉ o.looksAt ops/\o.dst≠some d:=by
 have:=List.all_eq_true.1 (List.all_eq_true.1 h p hp) q hq
 simp only [or_eq_true,ho] at this
 rcases this with h1 | h1
 ·exact absurd (eq_of_beq_eq_true h1) hne
 exact qE h1 ho' hd
end
section
variable {β:Jc} {n:Nat} {ops:Array Oper} {K:Yb}
theorem Ld.step {A P:List Nat} {L LE:Array Bool} {E:List Wd} {Z Z':Ma} {i:Nat} (hsel:Region.noSelect ops=true) (h:Ld ops A P L LE E Z) (hi:i<ops.size) (hσ:∀ p∈P,p∈A->∀ o,ops[p]?=some o->∀ t∈o.looksAt ops,Z' t=Z t):Ld ops A P (L.setIfInBounds i true) (LE.setIfInBounds i true) E Z' :=
 ⟨by simp [h.sz],by simp [h.szE],fun j=>by rw [wn (by rw [h.szE];exact hi),wn (by rw [h.sz];exact hi),h.get j];constructor <;> (rintro ((h | h) | h) <;> simp [h]),h.pd,fun e he=>by
  obtain ⟨h1,o,T,cs,mk,b,h2,h3,h4⟩:=h.is e he
  exact ⟨h1,o,T,cs,mk,b,h2,h3.same (ops:=ops) (fun cs b=>Region.noSelect_spec hsel _ o cs b h2) (hσ _ (h.pd e he) h1 o h2),h4⟩,h.nd⟩
theorem A8 {p:Nat} (h:w0 n ops p=true):∃ o d,ops[p]?=some o/\o.guard=none/\o.dst=some d/\Nat.blt d n=true:=by
 unfold w0 at h
 cases ho:ops[p]? with
 | none=>rw [ho] at h;cases h
 | some o =>
  rw [ho] at h
  simp only [and_eq_true] at h
  obtain ⟨h2,h4⟩:=h
  cases hd:o.dst with
  | none=>rw [hd] at h4;cases h4
  | some d =>
   rw [hd] at h4
   exact ⟨o,d,rfl,by simpa using h2,hd,h4⟩
def EH:Array Bool->List (Nat×Nat)->Array Bool
 | L,[]=>L
 | L,(i,k)::r=>EH (cond (Nat.blt k 3) (L.setIfInBounds i true) L) r
theorem Gr (hsel:Region.noSelect ops=true) (mf:Nat) (Lf:Array Bool):∀ (N m:Nat) (ord:List (Nat×Nat)) (l:List (Nat×Oper)) (L LE:Array Bool) (A:List Nat) (E:List Wd) (Z:Ma) (ρd ρs:List Ja) (O:Kr),N=m+ord.length->(ord.filter fun p=>Nat.blt p.2 3).length+mf=m+E.length->EH L ord=Lf ->
    Ld ops A (iK ord) L LE E Z->((ord.filter fun p=>Nat.blt p.2 3).map (·.1)).Nodup->(∀ p∈iK ord,w0 n ops p=true)->pZ ops (iK ord)=true->(∀ p∈iK ord,p∈A->∃ o T cs mk,ops[p]?=some o/\Kb o Z T cs mk) ->
    kG n ops L A ord=true->qD ops.toList ord=some l ->
    WD β n ops K l Z ρd ρs O->Zt β (ρd++(E.map (·.res)++ρs)) O->∀ ⦃df⦄ a,Pd df n a (ov E Z)->∀ Q:Act->World->Prop,
    (∀ a' Z' ρd' ρs' O',Pd df n a' Z'->Zt β (ρd'++ρs') O'->Sa O O'->K Z' (ρd'++ρs') O'->wpAnyH Tryz.prog .any ops (NP Q) (Sc ρs' O') mf Lf a' O'.w)->wpAnyH Tryz.prog .any ops (NP Q) (Sc ρs O) m LE a O.w:=by
  intro N
  induction N using Nat.strongRecOn with
  | _ N ih =>
  intro m ord l L LE A E Z ρd ρs O hN hlen hLf hE hnd hlate hapart hann hok hp hw hi df a hr Q hk
  have hstab:Sc ρs O O.w:=⟨fun _ _=>rfl,fun r hr=>hi.own r (by simp [hr])⟩
  have early:∀ (m':Nat),m=m'+1->∀ j,j∈Region.ready .any ops LE->j∈iK ord->j∈A->wpOp Tryz.prog ops (NP Q) j (fun a' w'=>Sc ρs O w'/\wpAnyH Tryz.prog .any ops (NP Q) (Sc ρs O) m' (LE.setIfInBounds j true) a' w') a O.w:=by
    intro m' hm j hj hjp hjA
    obtain ⟨o,d,ho,hg,hd,hdn⟩:=A8 (hlate j hjp)
    obtain ⟨o',T,cs,mk,ho',hlo⟩:=hann j hjp hjA
    rw [ho] at ho';injection ho' with ho';subst ho'
    have hlt:j<ops.size:=(Array.getElem?_eq_some_iff.1 ho).1
    have hs:∀ cs b,o.op≠.select cs b:=fun cs b=>Region.noSelect_spec hsel j o cs b ho
    have hjE:∀ e∈E,e.op≠j:=fun e he h=>by
      have h1:=(mem_ready.1 hj).1
      rw [fR (by rw [hE.szE];exact hlt),(hE.get j).2 (.inr ⟨e,he,h⟩)] at h1
      cases h1
    have hslot:∀ e∈E,e.slot ∉ o.looksAt ops:=fun e he=>by
      obtain ⟨_,o',T',cs',mk',b',g1,_,g3,_⟩:=hE.is e he
      exact (xa hapart hjp (hE.pd e he) (fun h=>hjE e he h.symm) ho g1 g3).1
    have hlo':=hlo.same (ops:=ops) (Z':=ov E Z) hs fun t ht=>zP fun e he h=>hslot e he (by rw [h];exact ht)
    unfold wpOp
    simp only [ho]
    rw [if_pos (by simp [Region.wanted,hg])]
    refine .inl ?_
    unfold Oper.wp
    rw [hr.eval,hlo'.2]
    simp only [Oper.upon_value]
    have hkl:=ga hi.fin (.cells cs.toArray T)
    have hi':=hi.alloc (.cells cs.toArray T) (Ja.b O.w.heap.size T cs) rfl rfl
    have hst':Sc ρs O (O.w.alloc (.cells cs.toArray T)):=⟨hkl.keep,fun r hr=>hi'.own r (by simp [hr])⟩
    refine ⟨hst',lS (fun w hw=>⟨fun b hb=>(hw.keep b hb).trans (hkl.keep b hb),hw.own⟩) _ _ _ _ (ih (m'+ord.length) (by omega) m' ord l L (LE.setIfInBounds j true) A (⟨j,d,mk O.w.heap.size,Ja.b O.w.heap.size T cs⟩::E) Z ρd ρs ⟨O.w.alloc (.cells cs.toArray T),O.S⟩ rfl (by simp only [length_cons];omega) hLf ?_ hnd hlate hapart hann hok hp (hw.mono hkl) ?_ _ ?_ Q fun a' Z' ρ' ρ'' O' g1 g2 g3 g4=>hk a' Z' ρ' ρ'' O' g1 g2 (hkl.trans g3) g4)⟩
    · refine ⟨hE.sz,by simp [hE.szE],fun j'=>?_,?_,?_,?_⟩
      · rw [wn (by rw [hE.szE];exact hlt),hE.get j']
        constructor
        · rintro ((h | ⟨e,he,h⟩) | h)
          · exact .inl h
          · exact .inr ⟨e,mem_cons_of_mem _ he,h⟩
          exact .inr ⟨_,mem_cons_self,h⟩
        rintro (h | ⟨e,he,h⟩)
        · exact .inl (.inl h)
        rcases List.mem_cons.1 he with rfl | he
        · exact .inr h
        exact .inl (.inr ⟨e,he,h⟩)
      · intro e he
        rcases List.mem_cons.1 he with rfl | he
        · exact hjp
        exact hE.pd e he
      · intro e he
        rcases List.mem_cons.1 he with rfl | he
        · exact ⟨hjA,o,T,cs,mk,_,ho,hlo,hd,rfl,rfl⟩
        exact hE.is e he
      simp only [map_cons]
      exact List.nodup_cons.2 ⟨fun h=>by obtain ⟨e,he,h⟩:=List.mem_map.1 h;exact hjE e he h,hE.nd⟩
    · refine hi'.perm ?_
      simp only [map_cons,cons_append]
      exact (perm_middle).symm
    rw [wm]
    have:=hr.put (d:=o.dst) (jl hd hdn) (mk O.w.heap.size)
    rw [ie hd] at this
    exact this
  match ord,hN,hlen,hLf,hE,hnd,hlate,hapart,hann,hok,hp,early with
  | [],hN,hlen,hLf,hE,hnd,hlate,hapart,hann,hok,hp,early =>
    simp only [qD,gn] at hp;subst hp
    simp only [List.filter_nil,length_nil] at hlen
    have hE0:E=[]:=by
      cases E with
      | nil=>rfl
      | cons e E=>exact absurd (hE.pd e (by simp)) (by simp [iK])
    subst hE0
    have hm:m=mf:=by simp at hlen;omega
    subst hm
    simp only [EH] at hLf
    have hLE:LE=L:=by
      apply Array.ext (by rw [hE.szE,hE.sz])
      intro j h1 h2
      have:=hE.get j
      simp only [not_mem_nil,false_and,exists_false,or_false,Array.getD_eq_getD_getElem?,Array.getElem?_eq_getElem h1,Array.getElem?_eq_getElem h2,Option.getD_some] at this
      exact Bool.eq_iff_iff.2 this
    rw [hLE,hLf]
    exact hk a Z ρd ρs O (by rw [Gp] at hr;exact hr) (by simpa using hi) (.refl _) (hw O (.refl _))
  | (i,k)::r,hN,hlen,hLf,hE,hnd,hlate,hapart,hann,hok,hp,early =>
    simp only [qD] at hp
    split at hp
    · rename_i o l' ho hl
      have ho:ops[i]?=some o:=by simpa using ho
      injection hp with hp;subst hp
      have hlt:i<ops.size:=(Array.getElem?_eq_some_iff.1 ho).1
      have hs:∀ cs b,o.op≠.select cs b:=fun cs b=>Region.noSelect_spec hsel i o cs b ho
      have hpf:(iK r).length<=(r.filter fun p=>Nat.blt p.2 3).length:=by
        unfold iK
        simp only [length_map]
        refine List.Sublist.length_le ?_
        have:(r.filter fun p=>Nat.beq p.2 2)=((r.filter fun p=>Nat.blt p.2 3).filter fun p=>Nat.beq p.2 2):=by
          rw [List.filter_filter]
          apply List.filter_congr
          intro x _
          cases hb:Nat.beq x.2 2
          · rfl
          rw [eq_of_beq_eq_true hb];rfl
        rw [this]
        exact List.filter_sublist
      simp only [length_cons] at hN
      have plain:k<2->A5 ops A o (iK r)=true->(∀ e∈E,e.slot ∉ o.looksAt ops)/\(∀ e∈E,o.dst≠some e.slot)/\Ld ops A (iK r) L LE E Z/\(∃ m',m=m'+1/\(r.filter fun p=>Nat.blt p.2 3).length+mf=m'+E.length)/\(∀ p∈iK r,w0 n ops p=true)/\pZ ops (iK r)=true/\((r.filter fun p=>Nat.blt p.2 3).map (·.1)).Nodup/\i ∉ iK r /\
          (∀ v,∀ p∈iK r,p∈A->∀ o',ops[p]?=some o'->∀ t∈o'.looksAt ops,ry Z o.dst v t=Z t)/\(∀ v,∀ p∈iK r,p∈A->∃ o' T cs mk,ops[p]?=some o'/\Kb o' (ry Z o.dst v) T cs mk):=by
        intro hk2 hind
        rw [pX,if_neg (by omega)] at hE hlate hapart hann
        have hb3:Nat.blt k 3=true:=by simp [Nat.blt];omega
        simp only [filter_cons,hb3,if_true,length_cons,map_cons,List.nodup_cons] at hlen hnd
        have hspec:=w7 hind
        have hsame:∀ v,∀ p∈iK r,p∈A->∀ o',ops[p]?=some o'->∀ t∈o'.looksAt ops,ry Z o.dst v t=Z t:=fun v p hp hA o' ho' t ht=>w6 (vE ((hspec p hp).2 hA) ho' t ht)
        refine ⟨fun e he=>?_,fun e he=>?_,hE,?_,hlate,hapart,hnd.2,fun h=>?_,hsame,fun v p hp hA=>?_⟩
        · obtain ⟨_,o',T',cs',mk',b',g1,_,g3,_⟩:=hE.is e he
          exact (qE (hspec _ (hE.pd e he)).1 g1 g3).1
        · obtain ⟨_,o',T',cs',mk',b',g1,_,g3,_⟩:=hE.is e he
          exact (qE (hspec _ (hE.pd e he)).1 g1 g3).2
        · have:=uW (E.map (·.op)) (iK r) hE.nd fun x hx=>by obtain ⟨e,he,rfl⟩:=List.mem_map.1 hx;exact hE.pd e he
          simp only [length_map] at this
          exact ⟨m - 1,by omega,by omega⟩
        · refine hnd.1 ?_
          obtain ⟨x,hx,hxi⟩:=List.mem_map.1 h
          obtain ⟨hx1,hx2⟩:=List.mem_filter.1 hx
          refine List.mem_map.2 ⟨x,List.mem_filter.2 ⟨hx1,?_⟩,hxi⟩
          rw [eq_of_beq_eq_true hx2];rfl
        obtain ⟨o',T,cs,mk,h1,h2⟩:=hann p hp hA
        exact ⟨o',T,cs,mk,h1,h2.same (ops:=ops) (fun cs b=>Region.noSelect_spec hsel _ o' cs b h1) (hsame v p hp hA o' h1)⟩
      have waitsA:∀ {P':List Nat},Gn ops L A P'=true->(∀ e∈E,e.op∈P')->∀ j∈P',j∈Region.ready .any ops LE->j∈A:=by
        intro P' hwt hEP j hj hrd
        have:=List.all_eq_true.1 hwt j hj
        simp only [or_eq_true,not_eq_true'] at this
        rcases this with h | h
        · simpa using h
        exfalso
        have hjE:∀ e∈E,e.op≠j:=fun e he he'=>by
          obtain ⟨h0,o',ho',_⟩:=mem_ready.1 hrd
          rw [fR (by rw [hE.szE];exact (Array.getElem?_eq_some_iff.1 ho').1),(hE.get j).2 (.inr ⟨e,he,he'⟩)] at h0
          cases h0
        have hr2:=hE.ready_all (P':=P'.filter fun q => !Nat.beq q j) (fun e he=>List.mem_filter.2 ⟨hEP e he,by
          have hb:Nat.beq e.op j=false:=by cases hb:Nat.beq e.op j;rfl;exact absurd (eq_of_beq_eq_true hb) (hjE e he)
          rw [hb];rfl⟩) hrd (fun hm=>by have:=(List.mem_filter.1 hm).2;simp at this)
        simp [hr2] at h
      match k,hok,hw,early,hE,hlate,hapart,hann,hnd,hlen,hLf,plain with
      | 0,hok,hw,early,hE,hlate,hapart,hann,hnd,hlen,hLf,plain =>
        simp only [kG,ho,and_eq_true] at hok
        obtain ⟨⟨⟨h1,h2⟩,h3⟩,hok2⟩:=hok
        obtain ⟨g1,g2,g3,⟨m',rfl,glen⟩,g5,g6,g7,hir,g8,g9⟩:=plain (by omega) h3
        have hrdy:(Region.ready .any ops LE).contains i=true:=by simpa using g3.ready (by simpa using h1) (fun e he (h:e.op=i)=>hir (by rw [<- h];exact g3.pd e he))
        obtain ⟨hd,hw⟩:=hw
        rcases hw with ⟨hg,v,hv,hw⟩ | ⟨c,v,hg,hv,hw⟩
        · refine wpAnyH_take ho hsel (g3.free h2) hrdy (fun _ _ _ h=>by cases h.1) (v:=v) (.inl ⟨by simp [Region.wanted,hg],fun w hw'=>by rw [hr.eval,DK hs g1];exact hv rfl w hw'⟩) hstab ?_
          exact ih (m'+r.length) (by omega) m' r l' _ _ A E _ ρd ρs O rfl glen hLf (g3.step hsel hlt (g8 v)) g7 g5 g6 (g9 v) hok2 hl hw hi _ (by rw [ua g2];exact hr.put hd v) Q hk
        · refine wpAnyH_take ho hsel (g3.free h2) hrdy (fun _ _ _ h=>by cases h.1) (v:=gv c v) ?_ hstab (ih (m'+r.length) (by omega) m' r l' _ _ A E _ ρd ρs O rfl glen hLf (g3.step hsel hlt (g8 _)) g7 g5 g6 (g9 _) hok2 hl hw hi _ (by rw [ua g2];exact hr.put hd _) Q hk)
          have hg':=A6 g1 hg
          cases c with
          | true=>exact .inl ⟨by rw [lI hr];exact hg',fun w hw'=>by rw [hr.eval,nq,DK hs g1];exact hv rfl w hw'⟩
          | false=>exact .inr ⟨by rw [lI hr];exact hg',ko v⟩
      | 1,hok,hw,early,hE,hlate,hapart,hann,hnd,hlen,hLf,plain =>
        simp only [kG,ho,and_eq_true,beq_iff_eq] at hok
        obtain ⟨⟨⟨⟨h1,h2⟩,h3⟩,h4⟩,hok2⟩:=hok
        obtain ⟨g1,g2,g3,⟨m',rfl,glen⟩,g5,g6,g7,hir,g8,g9⟩:=plain (by omega) h3
        have hrdy:=g3.ready (by simpa using h1) (fun e he (h:e.op=i)=>hir (by rw [<- h];exact g3.pd e he))
        have hperm:(ρd++(E.map (·.res)++ρs)).Perm ((ρd++ρs)++E.map (·.res)):=by
          rw [append_assoc];exact List.Perm.append_left ρd List.perm_append_comm
        have hperm2:∀ ρ':List Ja,((ρ'++ρs)++E.map (·.res)).Perm (ρ'++(E.map (·.res)++ρs)):=fun ρ'=>by
          rw [append_assoc];exact List.Perm.append_left ρ' List.perm_append_comm
        refine wpAnyH_all rfl (fun h=>by rw [h] at hrdy;cases hrdy) fun j hj=>?_
        by_cases hjp:j∈iK r
        · exact early m' rfl j hj (by rw [pX,if_neg (by omega)];exact hjp) (waitsA h4 g3.pd j hjp hj)
        · have hji:j=i:=by have:=g3.ready_all g3.pd hj hjp;rw [h2] at this;simpa using this
          subst hji
          unfold wpOp
          simp only [ho]
          obtain ⟨hd,hw⟩:=hw
          rcases hw with ⟨hg,hw⟩ | ⟨c,hg,hw⟩
          · rw [if_pos (by simp [Region.wanted,hg])]
            have hout:=(hw O (.refl _)).frame (hi.perm hperm) (fun v w=>Sc ρs O w/\wpAnyH Tryz.prog .any ops (NP Q) (Sc ρs O) m' (LE.setIfInBounds j true) (a.put o.dst v) w) fun v ρ' O' hi' hle' hw'=>by
              obtain ⟨ρd',rfl,hw'⟩:=hw'
              have hi2:=hi'.perm (hperm2 ρd')
              exact ⟨⟨hle'.keep,fun r hr=>hi2.own r (by simp [hr])⟩,lS (fun w hw=>⟨fun b hb=>(hw.keep b (hle'.sh b hb)).trans (hle'.keep b hb),hw.own⟩) _ _ _ _ (ih (m'+r.length) (by omega) m' r l' _ _ A E _ ρd' ρs O' rfl glen hLf (g3.step hsel hlt (g8 v)) g7 g5 g6 (g9 v) hok2 hl hw' hi2 _ (by rw [ua g2];exact hr.put hd v) Q fun a' Z' ρ'' ρ3 O'' h1 h2 h3 h4=>hk a' Z' ρ'' ρ3 O'' h1 h2 (hle'.trans h3) h4)⟩
            rw [<- DK hs g1] at hout
            exact .inl (mY hr.eval hout fun _ _ h=>h)
          · have hg':=A6 g1 hg
            rw [lI hr,hg']
            have hw0:=hw O (.refl _)
            cases c with
            | false =>
              have h2:=hw0.2 rfl
              simp only [ko] at h2
              exact ⟨hstab,ih (m'+r.length) (by omega) m' r l' _ _ A E _ ρd ρs O rfl glen hLf (g3.step hsel hlt (g8 _)) g7 g5 g6 (g9 _) hok2 hl h2 hi _ (by rw [ua g2];exact hr.put hd _) Q hk⟩
            | true =>
              have hout:=(hw0.1 rfl).frame (hi.perm hperm) (fun v w=>Sc ρs O w/\wpAnyH Tryz.prog .any ops (NP Q) (Sc ρs O) m' (LE.setIfInBounds j true) (a.put o.dst v) w) fun v ρ' O' hi' hle' hw'=>by
                obtain ⟨rfl,hw'⟩:=hw'
                simp only [nq] at hw'
                have hi2:=hi'.perm (hperm2 ρd)
                exact ⟨⟨hle'.keep,fun r hr=>hi2.own r (by simp [hr])⟩,lS (fun w hw=>⟨fun b hb=>(hw.keep b (hle'.sh b hb)).trans (hle'.keep b hb),hw.own⟩) _ _ _ _ (ih (m'+r.length) (by omega) m' r l' _ _ A E _ ρd ρs O' rfl glen hLf (g3.step hsel hlt (g8 v)) g7 g5 g6 (g9 v) hok2 hl hw' hi2 _ (by rw [ua g2];exact hr.put hd v) Q fun a' Z' ρ'' ρ3 O'' h1 h2 h3 h4=>hk a' Z' ρ'' ρ3 O'' h1 h2 (hle'.trans h3) h4)⟩
              rw [<- DK hs g1] at hout
              exact .inl (mY hr.eval hout fun _ _ h=>h)
      | 2,hok,hw,early,hE,hlate,hapart,hann,hnd,hlen,hLf,plain =>
        simp only [kG,ho,and_eq_true] at hok
        obtain ⟨⟨⟨⟨⟨h1,h2⟩,hiA⟩,h3⟩,h4⟩,hok2⟩:=hok
        have hpc:iK ((i,2)::r)=i::iK r:=by rw [pX,if_pos rfl]
        have hf:((i,2)::r).filter (fun p=>Nat.blt p.2 3)=(i,2)::r.filter (fun p=>Nat.blt p.2 3):=by simp [filter_cons,Nat.blt]
        rw [hf] at hlen hnd
        simp only [length_cons,map_cons,List.nodup_cons] at hlen hnd
        have hspec:=w7 h3
        by_cases hiE:∃ e∈E,e.op=i
        · obtain ⟨e,he,hei⟩:=hiE
          obtain ⟨E1,E2,rfl⟩:=List.append_of_mem he
          obtain ⟨_,o',T,cs,mk,b,q1,q2,q3,q4,q5⟩:=hE.is e he
          rw [hei,ho] at q1;injection q1 with q1;subst q1
          obtain ⟨T2,cs2,mk2,d,w1,w2,w3⟩:=hw
          obtain ⟨rfl,rfl,rfl⟩:=q2.det w1
          rw [q3] at w2;injection w2 with w2;subst w2
          have hne:∀ f∈E1++E2,f.op≠i:=fun f hf h=>by
            have hnd':=hE.nd
            simp only [map_append,map_cons] at hnd'
            have:=(List.nodup_append.1 hnd')
            rcases List.mem_append.1 hf with hf | hf
            · exact this.2.2 f.op (mem_map_of_mem hf) e.op (by simp) (by rw [h,hei])
            exact (List.nodup_cons.1 this.2.1).1 (by rw [hei,<- h];exact mem_map_of_mem hf)
          have hmem:∀ f∈E1++E2,f∈E1++e::E2:=fun f hf=>mem_mid' hf
          have hpd:∀ f∈E1++E2,f.op∈iK r:=fun f hf=>by
            have:=hE.pd f (hmem f hf)
            rw [hpc] at this
            rcases List.mem_cons.1 this with h | h
            · exact absurd h (hne f hf)
            exact h
          have hsl:∀ f∈E1++E2,f.slot≠e.slot:=fun f hf h=>by
            obtain ⟨_,o',T',cs',mk',b',g1,_,g3,_⟩:=hE.is f (hmem f hf)
            exact (qE (hspec _ (hpd f hf)).1 g1 g3).2 (by rw [q3,h])
          have hsame:∀ v,∀ p∈iK r,p∈A->∀ o',ops[p]?=some o'->∀ t∈o'.looksAt ops,upd Z e.slot v t=Z t:=fun v p hp hA o' ho' t ht=>by
            have:=w6 (Z:=Z) (v:=v) (vE ((hspec p hp).2 hA) ho' t ht)
            rwa [ie q3] at this
          refine ih (m+r.length) (by omega) m r l' (L.setIfInBounds i true) LE A (E1++E2) _ _ ρs O rfl (by simp only [length_append,length_cons] at hlen ⊢;omega) hLf ?_ hnd.2 (fun p hp=>hlate p (by rw [hpc];exact mem_cons_of_mem _ hp)) ?_ (fun p hp hA=>?_) hok2 hl (w3 b O (.refl _)) ?_ a ?_ Q hk
          · refine ⟨by simp [hE.sz],hE.szE,fun j=>?_,hpd,fun f hf=>?_,?_⟩
            · rw [wn (by rw [hE.sz];exact hlt),hE.get j]
              constructor
              · rintro (h | ⟨f,hf,h⟩)
                · exact .inl (.inl h)
                by_cases hfe:f=e
                · subst hfe;exact .inl (.inr (by rw [<- hei];exact h))
                exact .inr ⟨f,zK hf hfe,h⟩
              rintro ((h | h) | ⟨f,hf,h⟩)
              · exact .inl h
              · exact .inr ⟨e,he,by rw [hei];exact h⟩
              exact .inr ⟨f,hmem f hf,h⟩
            · obtain ⟨k1,o',T',cs',mk',b',k2,k3,k4⟩:=hE.is f (hmem f hf)
              exact ⟨k1,o',T',cs',mk',b',k2,k3.same (ops:=ops) (fun cs b=>Region.noSelect_spec hsel _ o' cs b k2) (hsame _ _ (hpd f hf) k1 o' k2),k4⟩
            have hnd':=hE.nd
            simp only [map_append,map_cons] at hnd' ⊢
            exact List.Nodup.sublist (List.Sublist.append_left (List.sublist_cons_self _ _) _) hnd'
          · rw [hpc] at hapart
            unfold pZ at *
            refine List.all_eq_true.2 fun p hp=>List.all_eq_true.2 fun q hq=>?_
            exact List.all_eq_true.1 (List.all_eq_true.1 hapart p (mem_cons_of_mem _ hp)) q (mem_cons_of_mem _ hq)
          · obtain ⟨o',T',cs',mk',k1,k2⟩:=hann p (by rw [hpc];exact mem_cons_of_mem _ hp) hA
            exact ⟨o',T',cs',mk',k1,k2.same (ops:=ops) (fun cs b=>Region.noSelect_spec hsel _ o' cs b k1) (hsame _ p hp hA o' k1)⟩
          · refine hi.perm ?_
            rw [<- q5]
            simp only [map_append,map_cons,append_assoc,cons_append]
            refine (List.Perm.append_left ρd (perm_middle)).trans ?_
            exact perm_middle
          rw [ov_mid hsl,q4] at hr
          exact hr
        · have hsub:∀ x∈E.map (·.op),x∈iK r:=fun x hx=>by
              obtain ⟨e,he,rfl⟩:=List.mem_map.1 hx
              have:=hE.pd e he
              rw [hpc] at this
              rcases List.mem_cons.1 this with h | h
              · exact absurd ⟨e,he,h⟩ hiE
              exact h
          have hsub':∀ e∈E,e.op∈iK r:=fun e he=>hsub _ (mem_map_of_mem he)
          obtain ⟨m',rfl⟩:∃ m',m=m'+1:=by
            have:=uW (E.map (·.op)) (iK r) hE.nd hsub
            simp only [length_map] at this
            exact ⟨m - 1,by omega⟩
          have hirdy:=hE.ready (by simpa using h1) (fun e he h=>hiE ⟨e,he,h⟩)
          refine wpAnyH_all rfl (fun h=>by rw [h] at hirdy;cases hirdy) fun j hj=>?_
          by_cases hjp:j∈iK r
          · exact early m' rfl j hj (by rw [hpc];exact mem_cons_of_mem _ hjp) (waitsA h4 hsub' j hjp hj)
          · have:=hE.ready_all hsub' hj hjp
            have h2':Region.ready .any ops (oH L (iK r))=[i]:=by simpa using h2
            rw [h2'] at this
            have hji:j=i:=by simpa using this
            subst hji
            exact early m' rfl j hj (by rw [hpc];exact mem_cons_self) (by simpa using hiA)
      | 3,hok,hw,early,hE,hlate,hapart,hann,hnd,hlen,hLf,plain =>
        simp only [kG,ho] at hok
        have hpc:iK ((i,3)::r)=iK r:=by rw [pX,if_neg (by omega)]
        have hf:((i,3)::r).filter (fun p=>Nat.blt p.2 3)=r.filter (fun p=>Nat.blt p.2 3):=by simp [filter_cons,Nat.blt]
        rw [hf] at hlen hnd
        rw [hpc] at hE hlate hapart hann
        obtain ⟨⟨T,cs,mk,hlr⟩,hw⟩:=hw
        refine ih (m+r.length) (by omega) m r l' L LE (i::A) E Z ρd ρs O rfl hlen hLf ⟨hE.sz,hE.szE,hE.get,hE.pd,fun e he=>⟨mem_cons_of_mem _ (hE.is e he).1,(hE.is e he).2⟩,hE.nd⟩ hnd hlate hapart (fun p hp hA=>?_) hok hl hw hi a hr Q hk
        rcases List.mem_cons.1 hA with rfl | hA
        · exact ⟨o,T,cs,mk,ho,hlr⟩
        · exact hann p hp hA
      | 4,hok,hw,early,hE,hlate,hapart,hann,hnd,hlen,hLf,plain =>
        simp only [kG,ho] at hok
        have hpc:iK ((i,4)::r)=iK r:=by rw [pX,if_neg (by omega)]
        have hf:((i,4)::r).filter (fun p=>Nat.blt p.2 3)=r.filter (fun p=>Nat.blt p.2 3):=by simp [filter_cons,Nat.blt]
        rw [hf] at hlen hnd
        rw [hpc] at hE hlate hapart hann
        obtain ⟨r0,ρd',hpk,hw⟩:=hw
        have hperm:(ρd++(E.map (·.res)++ρs)).Perm (ρd'++(E.map (·.res)++(r0::ρs))):=by
          refine (hpk.append_right _).trans ?_
          rw [cons_append,<- append_assoc,<- append_assoc]
          exact (perm_middle).symm
        refine lS (fun w hw=>⟨hw.keep,fun r hr=>hw.own r (mem_cons_of_mem _ hr)⟩) _ _ _ _ (ih (m+r.length) (by omega) m r l' L LE A E Z ρd' (r0::ρs) O rfl hlen hLf hE hnd hlate hapart hann hok hl hw (hi.perm hperm) a hr Q hk)
      | (k'+5),hok,hw,early,hE,hlate,hapart,hann,hnd,hlen,hLf,plain=>simp only [kG,Bool.false_eq_true] at hok
    cases hp
theorem mixed:Tryz.prog.follows .mixedOrders=true:=by kernel_rfl
def DL (ops:Array Oper) (ord:List (Nat×Nat)):List Nat:=(iK ord).filter (tn ops)
def CH (n:Nat) (l:List Oper) (L:Array Bool) (ord:List (Nat×Nat)):Bool :=
 decide (((ord.filter fun p=>Nat.blt p.2 3).map (·.1)).Nodup)&&(iK ord).all (w0 n l.toArray)&&pZ l.toArray (iK ord)&&kG n l.toArray L (DL l.toArray ord) ord
def Gs (n:Nat) (l:List Oper) (ord:List (Nat×Nat)):Bool :=
 Region.noSelect l.toArray&&Nat.beq (ord.filter fun p=>Nat.blt p.2 3).length l.length&&CH n l (Array.replicate l.length false) ord&&(Region.ready .any l.toArray (EH (Array.replicate l.length false) ord)).isEmpty
theorem A9 {ops:Array Oper} {p:Nat} (h:tn ops p=true) (Z:Ma):∃ o T cs mk,ops[p]?=some o/\Kb o Z T cs mk:=by
 unfold tn at h
 cases ho:ops[p]? with
 | none=>rw [ho] at h;cases h
 | some o =>
  rw [ho] at h
  simp only [and_eq_true] at h
  obtain ⟨⟨T,cs,mk⟩,hx⟩:=Option.isSome_iff_exists.1 h.1
  exact ⟨o,T,cs,mk,rfl,by simpa using h.2,A4 hx Z⟩
theorem wd_part {mf:Nat} {l:List Oper} {Z:Ma} {ρd ρs:List Ja} {O:Kr} {L:Array Bool} {ord:List (Nat×Nat)} {lo:List (Nat×Oper)} (hsel:Region.noSelect l.toArray=true) (hL:L.size=l.length) (hok:CH n l L ord=true) (hl:qD l ord=some lo)
    (h:WD β n l.toArray K lo Z ρd ρs O) (hi:Zt β (ρd++ρs) O) {df:List Deferred} (a:Act) (hr:Pd df n a Z) (Q:Act->World->Prop) (hk:∀ a' Z' ρd' ρs' O',Pd df n a' Z'->Zt β (ρd'++ρs') O'->Sa O O'->K Z' (ρd'++ρs') O'->wpAnyH Tryz.prog .any l.toArray (NP Q) (Sc ρs' O') mf (EH L ord) a' O'.w) :
    wpAnyH Tryz.prog .any l.toArray (NP Q) (Sc ρs O) ((ord.filter fun p=>Nat.blt p.2 3).length+mf) L a O.w:=by
  unfold CH at hok
  simp only [and_eq_true] at hok
  obtain ⟨⟨⟨h3,h4⟩,h4'⟩,h5⟩:=hok
  exact Gr hsel mf (EH L ord) _ ((ord.filter fun p=>Nat.blt p.2 3).length+mf) ord lo L L (DL l.toArray ord) [] Z ρd ρs O rfl (by simp) rfl ⟨by simpa using hL,by simpa using hL,fun j=>by simp,by simp,by simp,by simp⟩ (by simpa using h3) (fun p hp=>List.all_eq_true.1 h4 p hp) h4' (fun p _ hA=>A9 (List.mem_filter.1 hA).2 Z) h5 (by simpa using hl) h (by simpa using hi) a (by rw [Gp];exact hr) Q hk
theorem wc_draw {K:Exit->Yb} {id:Nat} {l:List Oper} {Z:Ma} {ρ ρd:List Ja} {O:Kr} (ord:List (Nat×Nat)) {lo:List (Nat×Oper)} (ρs:List Ja) (hp:ρ.Perm (ρd++ρs)) (hok:Gs n l ord=true)
    (hl:qD l ord=some lo) (h:∀ O',Sa O O'->WD β n l.toArray (K .normal) lo Z ρd ρs O'):WC β n (.region id l.toArray true) K Z ρ O:=fun hi df a hr Q hq=>by
  unfold Gs at hok
  simp only [and_eq_true] at hok
  obtain ⟨⟨⟨h1,h2⟩,h3⟩,h4⟩:=hok
  have hlen:=eq_of_beq_eq_true h2
  have hk1:Sa O ⟨{ O.w with drawn:=O.w.drawn+1 },O.S⟩:=⟨le_refl _,fun _ h=>h,fun _ _=>rfl⟩
  have hs:=wd_part (mf:=0) h1 (by simp) h3 hl (h _ hk1) (hi.perm hp).drew a hr (fun a w=>Q .normal a w) fun a' Z' ρd' ρs' O' g1 g2 g3 g4=>⟨by simpa using h4,rfl,hq _ a' Z' _ O' g1 g2 (hk1.trans g3) g4⟩
  have h6:=wpAny_of_held _ _ _ _ hs
  have hsz:l.toArray.size=l.length:=by simp
  rw [hlen,add_zero,<- hsz] at h6
  exact wP (rA mixed (by simpa using h6)) fun e a w h=>by rw [h.1];exact h.2
end
section
variable {β:Jc} {n:Nat} {ops:Array Oper} {K:Yb} {ρs:List Ja} {o:Oper} {r:List (Nat×Oper)} {Z:Ma} {ρd:List Ja} {O:Kr}
theorem wd_nil (h:∀ κ1,Sa O κ1->K Z (ρd++ρs) κ1):WD β n ops K [] Z ρd ρs O:=h
theorem wd_q {v:Value} {d:Nat} (hg:o.guard=none) (hd:o.dst=some d) (hlt:Nat.blt d n=true) (h:Rb true o Z ρs O v) (hw:WD β n ops K r (upd Z d v) ρd ρs O):WD β n ops K ((0,o)::r) Z ρd ρs O:=⟨jl hd hlt,.inl ⟨hg,v,h,by rw [ie hd];exact hw⟩⟩
theorem wd_qg {v:Value} {c:Bool} {d:Nat} (hg:Wb ops Z o c) (hd:o.dst=some d) (hlt:Nat.blt d n=true) (h:Rb c o Z ρs O v) (hw:WD β n ops K r (upd Z d (gv c v)) ρd ρs O):WD β n ops K ((0,o)::r) Z ρd ρs O:=⟨jl hd hlt,.inr ⟨c,v,hg,h,by rw [ie hd];exact hw⟩⟩
theorem wd_l {d:Nat} (hg:o.guard=none) (hd:o.dst=some d) (hlt:Nat.blt d n=true) (h:∀ κ1,Sa O κ1->Lc o Z (ρd++ρs) κ1 fun v ρ' O'=>∃ ρd',ρ'=ρd'++ρs/\WD β n ops K r (upd Z d v) ρd' ρs O'):WD β n ops K ((1,o)::r) Z ρd ρs O:=⟨jl hd hlt,.inl ⟨hg,by simp only [ie hd];exact h⟩⟩
theorem wd_l0 (hg:o.guard=none) (hd:o.dst=none) (h:∀ κ1,Sa O κ1->Lc o Z (ρd++ρs) κ1 fun _ ρ' O'=>∃ ρd',ρ'=ρd'++ρs/\WD β n ops K r Z ρd' ρs O'):WD β n ops K ((1,o)::r) Z ρd ρs O:=⟨by rw [hd];rfl,.inl ⟨hg,by simp only [hd];exact h⟩⟩
theorem wd_g {c:Bool} {d:Nat} (hg:Wb ops Z o c) (hd:o.dst=some d) (hlt:Nat.blt d n=true) (h:∀ κ1,Sa O κ1->OpG c o Z (ρd++ρs) κ1 fun v O'=>WD β n ops K r (upd Z d (gv c v)) ρd ρs O'):WD β n ops K ((1,o)::r) Z ρd ρs O:=⟨jl hd hlt,.inr ⟨c,hg,by simp only [ie hd];exact h⟩⟩
theorem wd_late {T:Nat} {cs:List Value} {mk:Nat->Value} {d:Nat} (hlo:Kb o Z T cs mk) (hd:o.dst=some d) (h:∀ b O',Sa O O'->WD β n ops K r (upd Z d (mk b)) (Ja.b b T cs::ρd) ρs O'):WD β n ops K ((2,o)::r) Z ρd ρs O:=⟨T,cs,mk,d,hlo,hd,h⟩
theorem wd_tell {T:Nat} {cs:List Value} {mk:Nat->Value} (hlo:Kb o Z T cs mk) (h:WD β n ops K r Z ρd ρs O):WD β n ops K ((3,o)::r) Z ρd ρs O:=⟨⟨T,cs,mk,hlo⟩,h⟩
end
section
variable {β:Jc} {n:Nat} {y:Code} {K:Exit->Yb} {Z:Ma} {ρ:List Ja} {O:Kr} {id id':Nat}
theorem fz (h:WC β n y K Z ρ O):CC β n y K .normal Z ρ O:=h
theorem uX (h:K .ret Z ρ O):CC β n y K .ret Z ρ O:=h
theorem mZ (h:K (.exit id) Z ρ O):CC β n y K (.exit id) Z ρ O:=h
theorem sw (h:K .normal Z ρ O):nS id K .normal Z ρ O:=h
theorem Ba (h:K .ret Z ρ O):nS id K .ret Z ρ O:=h
theorem na (he:Nat.beq id' id=true) (h:K .normal Z ρ O):nS id K (.exit id') Z ρ O:=by simp only [nS,he];exact h
theorem xb (he:Nat.beq id' id=false) (h:K (.exit id') Z ρ O):nS id K (.exit id') Z ρ O:=by simp only [nS,he];exact h
end
def Qc (Z:Ma):List (Nat×Value)->Prop
 | []=>True
 | (d,v)::l=>Z d=v/\Qc Z l
theorem yY {Z:Ma}:∀ {L:List (Nat×Value)},Qc Z L->wN Z L=Z
 | [],_=>rfl
 | (d,v)::l,⟨h1,h2⟩=>by rw [wN,yY h2,F4 h1]
def Sd (ρ:List Ja) (r:Ja) (l:List Ja):Prop:=ρ.Perm (r::l)
theorem Sd.h {r:Ja} {l:List Ja}:Sd (r::l) r l:=List.Perm.refl _
def Kd (ρ' ρ:List Ja):Prop:=∃ l,ρ.Perm (ρ'++l)
theorem Kd.nil {ρ:List Ja}:Kd [] ρ:=⟨ρ,List.Perm.refl _⟩
theorem Kd.cons {r:Ja} {ρ ρ' l:List Ja} (h:Sd ρ r l) (h':Kd ρ' l):Kd (r::ρ') ρ:=by
 obtain ⟨m,hm⟩:=h'
 exact ⟨m,h.trans (List.Perm.cons r hm)⟩
theorem Zt.subm {β:Jc} {ρ ρ':List Ja} {O:Kr} (h:Zt β ρ O) (hs:Kd ρ' ρ):Zt β ρ' O:=by
 obtain ⟨l,hl⟩:=hs
 exact (h.perm hl).sub (List.sublist_append_left _ _)
section
variable {β:Jc} {n:Nat} {x y:Code} {K:Exit->Yb} {Z:Ma} {ρ:List Ja} {O:Kr} {X:Type}
theorem Gt {ρ':List Ja} (hs:Kd ρ' ρ) (h:WC β n x K Z ρ' O):WC β n x K Z ρ O:=fun hi=>h (hi.subm hs)
theorem wc_pub {r:Ja} {l:List Ja} {b:Nat} (hp:Sd ρ r l) (hb:r.blk=some b) (h:∀ O',Sa O O'->O'.S b->r.says O'.w.heap[b]?->WC β n x K Z l O'):WC β n x K Z ρ O:=fun hi df a hr Q hq=>by
 have hi2:=hi.perm hp
 obtain ⟨h1,h2⟩:=hi2.pub hb
 have hs:=hi2.own r (by simp)
 unfold Ja.holds at hs;rw [hb] at hs
 exact h _ h2 (.inr rfl) hs h1 a hr Q fun e a' Z' ρ' O' g1 g2 g3 g4=>hq e a' Z' ρ' O' g1 g2 (h2.trans g3) g4
def midK (L:X->List (Nat×Value)) (R:X->List Ja) (J:X->Kr->Prop) (K:Exit->Yb):Exit->Yb:=fun e Z ρ O=>match e with
 | .normal=>∃ z,Qc Z (L z)/\Kd (R z) ρ/\J z O
 | e=>K e Z ρ O
def xc (L:X->List (Nat×Value)) (R:X->List Ja) (J:X->Kr->Prop) (μ:X->Nat) (z:X) (K:Exit->Yb):Exit->Yb:=fun e Z ρ O=>match e with
 | .normal=>∃ z',Qc Z (L z')/\Kd (R z') ρ/\J z' O/\μ z'<μ z
 | e=>K e Z ρ O
theorem ub (L:X->List (Nat×Value)) (R:X->List Ja) (J:X->Kr->Prop) (μ:X->Nat) (z0:X) (h1:Qc Z (L z0)) (h2:Kd (R z0) ρ) (h3:J z0 O)
    (round:∀ z τ O',Sa O O'->J z O'->WC β n x (xc L R J μ z K) (wN τ (L z)) (R z) O'):WC β n (.loop x) K Z ρ O :=
  zH (fun z Z' ρ' O'=>Qc Z' (L z)/\Kd (R z) ρ'/\J z O') μ z0 ⟨h1,h2,h3⟩ fun z Z' ρ' O' hk ⟨g1,g2,g3⟩ =>
    Gt g2 (by
      have h:=round z Z' O' hk g3
      rw [yY g1] at h
      refine qv h fun e Z'' ρ'' O'' _ g=>?_
      cases e with
      | normal=>obtain ⟨z',k1,k2,k3,k4⟩:=g;exact ⟨z',⟨k1,k2,k3⟩,k4⟩
      | _=>exact g)
theorem zQ {L:X->List (Nat×Value)} {R:X->List Ja} {J:X->Kr->Prop} {μ:X->Nat} {z:X} (z':X) (h1:Qc Z (L z')) (h2:Kd (R z') ρ) (h3:J z' O) (h4:μ z'<μ z):xc L R J μ z K .normal Z ρ O:=⟨z',h1,h2,h3,h4⟩
theorem CI {L:X->List (Nat×Value)} {R:X->List Ja} {J:X->Kr->Prop} {μ:X->Nat} {z:X} (h:K .ret Z ρ O):xc L R J μ z K .ret Z ρ O:=h
theorem lT {L:X->List (Nat×Value)} {R:X->List Ja} {J:X->Kr->Prop} {μ:X->Nat} {z:X} {id:Nat} (h:K (.exit id) Z ρ O):xc L R J μ z K (.exit id) Z ρ O:=h
end
section
variable {Z:Ma} {ρ:List Ja} {O:Kr} {R:Value->List Ja->Kr->Prop}
theorem pA {rs:List ResultVar} {v:Value} {ρ':List Ja} {O':Kr} (hv:RV rs Z ρ v) (hs:Ke ρ O ρ' O') (h:R v ρ' O'):Gm rs R .ret Z ρ O:=fun _ _=>⟨v,ρ',O',hv,hs,h⟩
theorem zR {t:Nat} {v:Value} (h:Z t=v):RV [.tmp t] Z ρ v:=h
theorem rv_2 {r s:ResultVar} {v1 v2:Value} (h1:Se r Z ρ v1) (h2:Se s Z ρ v2):RV [r,s] Z ρ (.tuple #[v1,v2]):=⟨v1,v2,h1,h2,rfl⟩
theorem rv1_t {t:Nat} {v:Value} (h:Z t=v):Se (.tmp t) Z ρ v:=h
theorem Ke.sub {ρ':List Ja} (h:Kd ρ' ρ):Ke ρ O ρ' O:=⟨rfl,fun _ hi=>⟨hi.subm h,.refl _⟩⟩
end
structure Sl (O:Kr) (a:Option Addr) (n c sz:Nat) (css:List (List Value)):Prop where
 len:css.length=n
 cap:n<=c
 wid:∀ cs∈css,cs.length=sz
 at_:0<n->∃ b off,a=some ⟨b,off,none⟩/\∀ j cs,css[j]?=some cs->Sh O b (off+j*sz) cs
theorem Sl.mono {O O':Kr} {a:Option Addr} {n c sz:Nat} {css:List (List Value)} (h:Sl O a n c sz css) (k:Sa O O'):Sl O' a n c sz css :=
 ⟨h.len,h.cap,h.wid,fun hn=>by obtain ⟨b,off,h1,h2⟩:=h.at_ hn;exact ⟨b,off,h1,fun j cs hj=>(h2 j cs hj).mono k⟩⟩
theorem nw {sz:Nat}:∀ {css:List (List Value)},(∀ cs∈css,cs.length=sz)->∀ {j i:Nat} {cs:List Value},css[j]?=some cs->i<sz->css.flatten[j*sz+i]?=cs[i]?
 | [],_,j,i,cs,h,_=>by simp at h
 | c::css,hw,0,i,cs,h,hi=>by
  simp only [List.getElem?_cons_zero,gn] at h;subst h
  have:=hw c (by simp)
  rw [Nat.zero_mul,zero_add,flatten_cons,List.getElem?_append_left (by omega)]
 | c::css,hw,j+1,i,cs,h,hi=>by
  have hc:=hw c (by simp)
  have e:(j+1)*sz+i=c.length+(j*sz+i):=by rw [hc,add_mul];omega
  rw [e,flatten_cons,List.getElem?_append_right (by omega),Nat.add_sub_cancel_left]
  exact nw (fun cs hcs=>hw cs (by simp [hcs])) (by simpa using h) hi
theorem fS {sz:Nat} {css:List (List Value)} (hw:∀ cs∈css,cs.length=sz):css.flatten.length=css.length*sz:=by
 induction css with
 | nil=>simp
 | cons c css ih=>rw [flatten_cons,length_append,ih (fun cs h=>hw cs (by simp [h])),hw c (by simp),length_cons,add_mul];omega
structure Rd (ρ:List Ja) (O:Kr) (a:Option Addr) (m sz:Nat) (css:List (List Value)):Prop where
 len:css.length=m
 wid:∀ cs∈css,cs.length=sz
 at_:0<m->∃ ad,a=some ad/\∀ w,Sc ρ O w->∀ j u,css.flatten[j]?=some u->w.cell? (ad.add j)=some u
theorem rd_sl {ρ:List Ja} {O:Kr} {a:Option Addr} {n c sz:Nat} {css:List (List Value)} (h:Sl O a n c sz css):Rd ρ O a n sz css :=
 ⟨h.len,h.wid,fun hn=>by
  obtain ⟨b,off,h1,h2⟩:=h.at_ hn
  refine ⟨_,h1,fun w hs j u hu=>?_⟩
  have hj:j<css.flatten.length:=by rcases lt_or_ge j css.flatten.length with h | h;exact h;rw [List.getElem?_eq_none h] at hu;cases hu
  rw [fS h.wid] at hj
  have hsz:0<sz:=by rcases eq_zero_or_pos sz with h | h;(rw [h] at hj;omega);exact h
  have hq:j / sz<css.length:=Nat.div_lt_of_lt_mul (by rwa [mul_comm] at hj)
  have hm:j % sz<sz:=Nat.mod_lt _ hsz
  have hd:j / sz*sz+j % sz=j:=by have:=Nat.div_add_mod j sz;rw [mul_comm] at this;exact this
  have hg:=nw h.wid (List.getElem?_eq_getElem hq) hm
  rw [hd,hu] at hg
  have hsh:=h2 _ _ (List.getElem?_eq_getElem hq)
  have:=hsh.2 _ _ hg.symm
  rw [iU]
  unfold World.cell? at *
  rw [hs.keep b hsh.1,<- hd,<- add_assoc];exact this⟩
theorem rd_b {ρ:List Ja} {O:Kr} {b T sz:Nat} {cs:List Value} {css:List (List Value)} {m:Nat} (hm:Ja.b b T cs∈ρ) (hl:css.length=m) (hw:∀ cs∈css,cs.length=sz) (hf:css.flatten=cs):Rd ρ O (some ⟨b,0,none⟩) m sz css :=
 ⟨hl,hw,fun _=>⟨_,rfl,fun w hs j u hu=>by
  have hb:w.heap[b]?=some (.cells cs.toArray T (0,0)):=hs.own _ hm
  rw [iU,zero_add,nr hb,<- hf];exact hu⟩⟩
def Ja.row (a:Option Addr) (n c T sz:Nat) (css:List (List Value)):Ja:=match a with
 | none=>⟨none,fun _=>n=0/\c=0/\css=[]⟩
 | some ad=>⟨some ad.block,fun o=>ad=⟨ad.block,0,none⟩/\css.length=n/\(∀ cs∈css,cs.length=sz)/\n<=c/\c<=maxLen/\∃ cur,o=some (.cells cur T (0,0))/\cur.size=c*sz/\cur.toList.take (n*sz)=css.flatten⟩
theorem im {a:Option Addr} {n c T sz:Nat} {css:List (List Value)} {w:World} (h:(Ja.row a n c T sz css).holds w):w.ownsRow 0 T sz (.slice a n c) n css.flatten/\css.length=n/\(∀ cs∈css,cs.length=sz):=by
 cases a with
 | none=>obtain ⟨rfl,rfl,rfl⟩:=h;exact ⟨⟨by simp,.inl ⟨rfl,rfl⟩⟩,rfl,by simp⟩
 | some ad =>
  obtain ⟨h1,h2,h3,h4,h5,cur,h6,h7,h8⟩:=h
  have hl:css.flatten.length=n*sz:=by rw [fS h3,h2]
  exact ⟨⟨hl,.inr ⟨ad.block,c,cur,by rw [h1],Nat.zero_le _,h6,h4,h5,h7,h8⟩⟩,h2,h3⟩
theorem Bb {v:Value} {n T sz:Nat} {css:List (List Value)} {w:World} (hl:css.length=n) (hw:∀ cs∈css,cs.length=sz) (h:w.ownsRow 0 T sz v n css.flatten):∃ a c,v=.slice a n c/\(Ja.row a n c T sz css).holds w/\(Ja.row a n c T sz css).blk=v.ownBlock:=by
 rcases h.2 with ⟨rfl,rfl⟩ | ⟨g,cap,cur,rfl,_,h1,h2,h3,h4,h5⟩
 ·exact ⟨none,0,rfl,⟨rfl,rfl,eq_nil_of_length_eq_zero hl⟩,rfl⟩
 exact ⟨some ⟨g,0,none⟩,cap,rfl,⟨rfl,hl,hw,h2,h3,cur,h1,h4,h5⟩,rfl⟩
theorem Zt.growD {β:Jc} {r r':Ja} {l:List Ja} {O:Kr} {w':World} (h:Zt β (r::l) O) (hg:O.w.grownBy w' r.blk) (hb:r'.blk=none\/r'.blk=r.blk\/r'.blk=some O.w.heap.size) (hs:r'.holds w') (hlt:∀ b,r'.blk=some b->b<w'.heap.size) (hdr:Pe O.w.drawn w'.drawn) :
    Zt β (r'::l) ⟨w',O.S⟩/\Sa O ⟨w',O.S⟩:=by
  obtain ⟨hle,hfin,hown,hblk,hnd⟩:=h
  have hother:∀ i,i<O.w.heap.size->r.blk≠some i->w'.heap[i]?=O.w.heap[i]?:=fun i hi hne=>hg.block i hi (fun e=>hne e.symm)
  have hr:=hblk r (by simp)
  have hk:Sa O ⟨w',O.S⟩:=⟨hg.size,fun _ h=>h,fun i hi=>hother i (hfin i hi) fun e=>(hr i e).2.1 hi⟩
  have hr':∀ b,r'.blk=some b->(r.blk=some b\/O.w.heap.size=b):=fun b e=>by
    rcases hb with h | h | h
    · rw [h] at e;cases e
    · rw [h] at e;exact .inl e
    rw [h] at e;injection e with e;exact .inr e
  refine ⟨⟨⟨hle.kle.trans hk,fun i hi hm=>(hother i (lt_of_lt_of_le hi hle.kle.size) fun e=>?_).trans (hle.same i hi hm),hle.shNew,hg.os.trans hle.os,hg.tape.trans hle.tape,hg.output.trans hle.output,hle.drawn.trans hdr⟩,fun i hi=>lt_of_lt_of_le (hfin i hi) hg.size,?_,?_,?_⟩,hk⟩
  · exact (hr i e).2.2.elim (fun h=>absurd hi (by omega)) hm
  · intro s hs'
    rcases List.mem_cons.1 hs' with rfl | hs'
    · exact hs
    exact Ja.holds_of (hown s (mem_cons_of_mem _ hs')) fun i hi=>hother i (hblk s (mem_cons_of_mem _ hs') i hi).1 fun e=>(List.pairwise_cons.1 hnd).1 s hs' i e hi
  · intro s hs' i hi
    rcases List.mem_cons.1 hs' with rfl | hs'
    · refine ⟨hlt i hi,fun hS=>?_,?_⟩
      · rcases hr' i hi with h | h
        · exact (hr i h).2.1 hS
        exact absurd (hfin i hS) (by omega)
      rcases hr' i hi with h | h
      · exact (hr i h).2.2
      exact .inl (by have:=hle.kle.size;omega)
    obtain ⟨h1,h2,h3⟩:=hblk s (mem_cons_of_mem _ hs') i hi
    exact ⟨lt_of_lt_of_le h1 hg.size,h2,h3⟩
  refine List.Pairwise.cons (fun s hs' i hi hi'=>?_) (List.pairwise_cons.1 hnd).2
  rcases hr' i hi with h | h
  · exact (List.pairwise_cons.1 hnd).1 s hs' i h hi'
  have:=(hblk s (mem_cons_of_mem _ hs') i hi').1;omega
theorem Zt.grow {β:Jc} {r r':Ja} {l:List Ja} {O:Kr} {w':World} (h:Zt β (r::l) O) (hg:O.w.grownBy w' r.blk) (hb:r'.blk=none\/r'.blk=r.blk\/r'.blk=some O.w.heap.size) (hs:r'.holds w') (hlt:∀ b,r'.blk=some b->b<w'.heap.size) (hdr:O.w.drawn<=w'.drawn) :
    Zt β (r'::l) ⟨w',O.S⟩/\Sa O ⟨w',O.S⟩ :=
  h.growD hg hb hs hlt (.of hdr)
theorem Zt.nilrow {β:Jc} {ρ:List Ja} {O:Kr} (h:Zt β ρ O) (T sz:Nat):Zt β (Ja.row none 0 0 T sz []::ρ) O :=
 ⟨h.le,h.fin,fun r hr=>by rcases List.mem_cons.1 hr with rfl | hr;exact ⟨rfl,rfl,rfl⟩;exact h.own r hr,fun r hr=>by rcases List.mem_cons.1 hr with rfl | hr;(intro b hb;cases hb);exact h.blk r hr,List.Pairwise.cons (fun _ _ b hb=>by cases hb) h.nd⟩
section
variable {β:Jc} {o:Oper} {Z:Ma} {ρ:List Ja} {O:Kr} {K:Value->List Ja->Kr->Prop}
theorem EI {n:Nat} {x:Code} {K:Exit->Yb} (T sz:Nat) (h:WC β n x K Z (Ja.row none 0 0 T sz []::ρ) O):WC β n x K Z ρ O:=fun hi=>h (hi.nilrow T sz)
theorem qF {w:World} {b:Nat} {o:Obj} (h:w.heap[b]?=some o):b<w.heap.size:=by
 rcases lt_or_ge b w.heap.size with h' | h'
 ·exact h'
 rw [Array.getElem?_eq_none h'] at h;cases h
theorem zS {a:Option Addr} {n c T sz:Nat} {css:List (List Value)} {w:World} (h:(Ja.row a n c T sz css).holds w) (b:Nat) (hb:(Ja.row a n c T sz css).blk=some b):b<w.heap.size:=by
 cases a with
 | none=>cases hb
 | some ad =>
  obtain ⟨h1,h2,h3,h4,h5,cur,h6,h7,h8⟩:=h
  injection hb with hb;subst hb
  exact qF h6
theorem wb {t ty T:Nat} {a:Option Addr} {n c c2:Nat} {z:Value} {sz by':Nat} (hu:fQ t=some (.slice T)) (hi:iE T=some (z,sz,by')) (hc:n<=c) (w:World):(Builtin.append_ #[t,t] ty #[.slice a n c,.slice none 0 c2]).run Tryz.prog w=.ok (.slice a n c) w:=by
 have hnc:n+0<=c:=by omega
 cases a <;> simp [Builtin.append_,run_underlying (bD hu),eN hi,Builtin.lenOf,Builtin.firstCells,hc,storeCells]
theorem EJ {s x:Operand} {t T:Nat} {a a2:Option Addr} {n c m c2 sz by':Nat} {z:Value} {css css2:List (List Value)} {l:List Ja}
    (ho:o.op=.call { callee:=.builtin .append,args:=#[s,x],argTypes:=#[t,t] }) (hu:fQ t=some (.slice T)) (hi:iE T=some (z,sz,by')) (hz:Nat.beq z.cells.size sz=true) (h0:Nat.blt 0 sz=true)
    (hs:ev Z s=.slice a n c) (hx:ev Z x=.slice a2 m c2) (hp:Sd ρ (Ja.row a n c T sz css) l) (hr:Rd ρ O a2 m sz css2) (h1:∀ cs∈css2,∀ u∈cs,u.oneCell'=true)
    (hb:(n+m)*by'<=140737488355328/\n+m<=140737488355328) (h:∀ a' c' O',Sa O O'->K (.slice a' (n+m) c') (Ja.row a' (n+m) c' T sz (css++css2)::l) O'):Lc o Z ρ O K:=fun β hinv Nx hk=>by
  have hi2:=hinv.perm hp
  have hrow:=hi2.own _ (mem_cons_self)
  obtain ⟨hown,hl1,hw1⟩:=im hrow
  obtain ⟨i,hinf,hz0,hsz,hby⟩:=o9 hi
  have hsz0:0<sz:=by have h:=h0;simp [Nat.blt] at h;omega
  have hcl:(css++css2).length=n+m:=by rw [length_append,hl1,hr.len]
  have hcw:∀ cs∈css++css2,cs.length=sz:=fun cs hcs=>(List.mem_append.1 hcs).elim (hw1 cs) (hr.wid cs)
  have key:∃ v' w',(Builtin.append_ #[t,t] o.type #[.slice a n c,.slice a2 m c2]).run Tryz.prog O.w=.ok v' w'/\w'.ownsRow 0 T sz v' (n+m) (css++css2).flatten/\O.w.grownBy w' (Value.slice a n c).ownBlock/\(v'.ownBlock=(Value.slice a n c).ownBlock\/v'.ownBlock=some O.w.heap.size):=by
    rw [List.flatten_append]
    cases a2 with
    | none =>
      have hm0:m=0:=by
        rcases eq_zero_or_pos m with h | h
        · exact h
        obtain ⟨ad,e,_⟩:=hr.at_ h;cases e
      subst hm0
      have hc2:css2=[]:=eq_nil_of_length_eq_zero hr.len
      subst hc2
      have hnc:n<=c:=by
        rcases hown.2 with ⟨e,rfl⟩ | ⟨g,cap,cur,e,_,_,e2,_⟩
        · omega
        injection e with _ _ e;omega
      exact ⟨_,O.w,wb hu hi hnc O.w,by simpa using hown,World.grownBy.refl _ _,.inl rfl⟩
    | some ad =>
      have hnews:∀ j u,css2.flatten[j]?=some u->O.w.cell? (ad.add j)=some u:=fun j u hu'=>by
        rcases eq_zero_or_pos m with h | h
        · have hc2:css2=[]:=eq_nil_of_length_eq_zero (by rw [hr.len,h])
          subst hc2;simp at hu'
        obtain ⟨ad',e,hcell⟩:=hr.at_ h
        injection e with e;subst e
        exact hcell _ hinv.stab j u hu'
      obtain ⟨v',w',g1,g2,g3,_,g5⟩:=run_append_own_at (P:=Tryz.prog) O.w 0 t o.type T i z sz by' (bD hu) hinf hz0 hsz hby (eq_of_beq_eq_true hz) hsz0 (.slice a n c) n css.flatten hown ad m c2 css2.flatten (by rw [fS hr.wid,hr.len]) hnews (fun u hu'=>by obtain ⟨cs,h3,h4⟩:=List.mem_flatten.1 hu';exact h1 cs h3 u h4) (by have:=hb.2;unfold maxLen;omega) hb.1 (Nat.zero_le _)
      exact ⟨v',w',g1,g2,g3,g5⟩
  obtain ⟨v',w',g1,g2,g3,g4⟩:=key
  obtain ⟨a',c',rfl,k1,k2⟩:=Bb hcl hcw g2
  have hblk:(Ja.row a n c T sz css).blk=(Value.slice a n c).ownBlock:=by cases a <;> rfl
  obtain ⟨hi3,hk3⟩:=hi2.grow (r':=Ja.row a' (n+m) c' T sz (css++css2)) (by rw [hblk];exact g3) (by rw [hblk,k2];exact .inr g4) k1 (zS k1) (oA _ _ _ _ _ g1)
  unfold execOp
  simp only [ho,resolve,invoke,builtin,Sem.run_bind,Sem.run_pure,Result.andThen_ok,map_toArray,map_cons,map_nil,hs,hx,g1,Wc]
  exact hk _ _ _ hi3 hk3 (h _ _ _ hk3)
end
def Tf (cs:List Value) (k:Nat) (vs cs':List Value):Prop:=cs'=cs.take k++vs++cs.drop (k+vs.length)/\k+vs.length<=cs.length
def Rf (Z:Ma) (fl:List (Nat×Nat)):List Value->List (Nat×Operand)->List Value->Prop
 | zs,[],cs=>zs=cs
 | zs,(i,x)::r,cs=>∃ k ty vs zs' z by',fl[i]?=some (k,ty)/\iE ty=some (z,vs.length,by')/\cn (ev Z x)=vs/\Tf zs k vs zs'/\Rf Z fl zs' r cs
theorem vF {Z:Ma} {fl:List (Nat×Nat)} {place:Nat->Option (Nat×Nat)} (hpl:∀ i k ty z sz by',fl[i]?=some (k,ty)->iE ty=some (z,sz,by')->place i=some (k,sz)) :
    ∀ (parts:List (Nat×Operand)) (zs cs:List Value),Rf Z fl zs parts cs->Instr.fill place zs.toArray (parts.map fun p=>(p.1,ev Z p.2))=some cs.toArray
  | [],zs,cs,h=>by cases h;simp [Instr.fill]
  | (i,x)::r,zs,cs,⟨k,ty,vs,zs',z,by',h1,h2,h3,h4,h5⟩=>by
    simp only [map_cons]
    rw [yX (hpl i k ty z vs.length by' h1 h2) (by rw [h3]) h4.2,h3,<- h4.1]
    exact vF hpl r zs' cs h5
def uc (f:Field):Sem (Nat×Nat):=do pure (f.offset,<- sizeOf f.type)
theorem xd (w:World):∀ (fs:List Field),(∀ f∈fs,∃ z sz by',iE f.type=some (z,sz,by'))->∃ ps:List (Nat×Nat),(fs.mapM uc).run Tryz.prog w=.ok ps w/\∀ (i:Nat) (f:Field) z sz by',fs[i]?=some f->iE f.type=some (z,sz,by')->ps[i]?=some (f.offset,sz)
 | [],_=>⟨[],by simp,by simp⟩
 | f::fs,h=>by
  obtain ⟨ps,h1,h2⟩:=xd w fs fun g hg=>h g (by simp [hg])
  obtain ⟨z,sz,by',hf⟩:=h f (by simp)
  refine ⟨(f.offset,sz)::ps,?_,?_⟩
  ·have h0:(uc f).run Tryz.prog w=.ok (f.offset,sz) w:=by unfold uc;simp [eN hf]
   simp only [List.mapM_cons,Sem.run_bind,h0,Result.andThen_ok,h1,Sem.run_pure]
  intro i g z' sz' by'' hi hz
  cases i with
  | zero=>simp only [List.getElem?_cons_zero,gn] at hi;subst hi;rw [hf] at hz;simp only [gn,Prod.mk.injEq] at hz;simp [hz.2.1]
  | succ i=>simp only [List.getElem?_cons_succ] at hi ⊢;exact h2 i g z' sz' by'' hi hz
section
variable {o:Oper} {Z:Ma} {ρ:List Ja} {O:Kr} {c:Bool} {x y:Operand}
theorem Bc {t sz by':Nat} {parts:List (Nat×Operand)} {fl:List (Nat×Nat)} {zs cs:List Value} (ho:o.op=.build t parts.toArray) (hz:iE t=some (.agg zs.toArray,sz,by')) (hf:tZ t=some fl) (hall:(fl.all fun p=>(iE p.2).isSome)=true) (h:Rf Z fl zs parts cs):Rb true o Z ρ O (.agg cs.toArray):=fun _ w _=>by
 obtain ⟨fs,hu,hfl⟩:=DE hf
 have hin:∀ f∈fs.toList,∃ z sz by',iE f.type=some (z,sz,by'):=fun f hf=>by
  have:=List.all_eq_true.1 hall (f.offset,f.type) (by rw [<- hfl];exact List.mem_map.2 ⟨f,hf,rfl⟩)
  obtain ⟨⟨z,sz,by'⟩,h⟩:=Option.isSome_iff_exists.1 this
  exact ⟨z,sz,by',h⟩
 obtain ⟨ps,hp1,hp2⟩:=xd w fs.toList hin
 have hm:(fs.mapM uc).run Tryz.prog w=.ok ps.toArray w:=by
  have:fs=fs.toList.toArray:=by simp
  rw [this,List.mapM_toArray,Sem.run_map,hp1];rfl
 have hfill:=vF (Z:=Z) (fl:=fl) (place:=(ps.toArray[·]?)) (fun i k ty z sz by' h1 h2=>by
  rw [<- hfl,List.getElem?_map] at h1
  cases hfi:fs.toList[i]? with
  | none=>rw [hfi] at h1;cases h1
  | some f =>
   rw [hfi] at h1;simp only [Option.map_some,gn,Prod.mk.injEq] at h1
   obtain ⟨rfl,rfl⟩:=h1
   simpa using hp2 i f z sz by' hfi h2) parts zs cs h
 have hb:(Instr.build t (parts.map fun p=>(p.1,ev Z p.2)).toArray).run Tryz.prog w=.ok (.agg cs.toArray) w:=by
  unfold Instr.build
  simp only [Sem.run_bind,gq hz,Result.andThen_ok,run_underlying (bD hu)]
  have hm':Sem.run Tryz.prog (fs.mapM fun f=>do pure (f.offset,<- sizeOf f.type)) w=.ok ps.toArray w:=hm
  rw [hm']
  simp only [Result.andThen_ok,Value.cells,hfill,Sem.run_pure]
 simp only [execOp,ho,Sem.run_bind,map_toArray]
 have:(parts.map fun (p:Nat×Operand)=>match p with | (i,x)=>(i,ev Z x))=parts.map fun p=>(p.1,ev Z p.2):=rfl
 rw [this,hb]
 simp
theorem bs_map (parts:List (Nat×Operand)) (vs:List Value) (h:parts.map (fun p=>(p.1,ev Z p.2))=vs.zipIdx.map fun p=>(p.2,p.1)):(parts.toArray.map fun (p:Nat×Operand)=>match p with | (i,x)=>(i,ev Z x))=(vs.zipIdx.map fun p=>(p.2,p.1)).toArray:=by
 rw [map_toArray,<- h]
theorem late_bs {t E len sz by':Nat} {z:Value} {parts:List (Nat×Operand)} (vs:List Value) (hg:o.guard=none) (ho:o.op=.buildSlice t len parts.toArray) (hu:fQ t=some (.slice E)) (hi:iE E=some (z,sz,by')) (hz:Nat.beq z.cells.size sz=true)
    (hp:parts.map (fun p=>(p.1,ev Z p.2))=vs.zipIdx.map fun p=>(p.2,p.1)) (hl:vs.length=len) (hw:∀ v∈vs,(cn v).length=sz) (hb:len*sz<=16777216):Kb o Z E (vs.flatMap cn) (fun b=>.slice (some ⟨b,0,none⟩) len len) :=
  ⟨hg,fun w=>by
    subst hl
    have h:=wZ hu hi (eq_of_beq_eq_true hz) vs hw hb w
    simp only [execOp,ho,bs_map parts vs hp,Sem.run_bind,h,Result.andThen_ok,Sem.run_pure]⟩
theorem CJ {T:Nat} {z:Value} {sz by':Nat} {cs:List Value} (hg:o.guard=none) (ho:o.op=.alloc T) (hz:iE T=some (z,sz,by')) (hc:cn z=cs):Kb o Z T cs (fun b=>.pointer (some ⟨b,0,none⟩)):=by
 subst hc
 exact ⟨hg,fun w=>A4 (T:=T) (cs:=cn z) (mk:=fun b=>.pointer (some ⟨b,0,none⟩)) (by unfold zN;rw [ho];simp only [hz]) Z w⟩
theorem DM {z:Array Value} {n:Nat} (h:0<z.size):madeCells z (n*z.size)=((List.replicate n z.toList).flatten).toArray:=by
 have hw:∀ cs∈List.replicate n z.toList,cs.length=z.size:=fun cs hcs=>by rw [(List.mem_replicate.1 hcs).2];simp
 apply Array.ext'
 apply ext_getElem?
 intro i
 unfold madeCells
 simp only [Array.toList_map,Array.toList_range,List.getElem?_map]
 by_cases hi:i<n*z.size
 ·have hq:i / z.size<n:=Nat.div_lt_of_lt_mul (by rwa [mul_comm] at hi)
  have hm:i % z.size<z.size:=Nat.mod_lt _ h
  have hd:i / z.size*z.size+i % z.size=i:=by have:=Nat.div_add_mod i z.size;rw [mul_comm] at this;exact this
  have hg:=nw hw (j:=i / z.size) (i:=i % z.size) (cs:=z.toList) (by simp [hq]) hm
  rw [hd] at hg
  rw [hg,List.getElem?_range hi]
  simp [hm]
 rw [List.getElem?_eq_none (by simpa using hi),List.getElem?_eq_none (by rw [fS hw];simpa using hi)];rfl
theorem EK {t E sz by' n:Nat} {z:Value} {zs:List Value} (hg:o.guard=none) (ho:o.op=.makeSlice t x x) (hx:ev Z x=.int .i64 (n:Int)) (hu:fQ t=some (.slice E)) (hi:iE E=some (z,sz,by')) (hz:cn z=zs) (hzl:zs.length=sz) (h0:Nat.blt 0 sz=true) (hb:by'*n<=281474976710656/\n<=281474976710656):Kb o Z E (List.replicate n zs).flatten (fun b=>.slice (some ⟨b,0,none⟩) n n) :=
 ⟨hg,fun w=>by
  obtain ⟨i,hinf,hz0,hsz,hby⟩:=o9 hi
  have hr:=run_make (P:=Tryz.prog) w t E i z (bD hu) hinf hz0 .i64 .i64 n n (by omega) (by omega) (by rw [hby];have:=hb.1;omega) (by omega)
  simp only [Int.toNat_natCast] at hr
  have hcs:z.cells=zs.toArray:=by rw [<- hz,<- j6]
  have hsz':z.cells.size=sz:=by rw [hcs];simpa using hzl
  have h0':0<z.cells.size:=by rw [hsz'];have h:=h0;simp [Nat.blt] at h;omega
  rw [hsz,<- hsz',DM h0',hcs] at hr
  simp only [execOp,ho,hx,Sem.run_bind,hr,Result.andThen_ok,Sem.run_pure]⟩
theorem DN {T:Nat} {cs:List Value} {mk:Nat->Value} {K:Value->List Ja->Kr->Prop} (h:Kb o Z T cs mk) (hk:∀ b O',Sa O O'->K (mk b) (Ja.b b T cs::ρ) O'):Lc o Z ρ O K:=fun β hi Nx hn=>by
 rw [h.2]
 exact hn _ _ ⟨O.w.alloc (.cells cs.toArray T),O.S⟩ (hi.alloc _ (Ja.b O.w.heap.size T cs) rfl rfl) (ga hi.fin _) (hk _ _ (ga hi.fin _))
end
section
variable {o:Oper} {Z:Ma} {ρ:List Ja} {O:Kr} {c:Bool} {x y y2:Operand}
theorem Bd (a:Option Addr):a.map (·.add 0)=a:=by cases a <;> simp [Addr.add]
theorem lU {i:Int} {k m:Nat} {code:BoundsCode} (h:i=(k:Int)) (hk:k<=m) (kd:IntKind) (w:World):(Instr.sliceBound (.int kd i) m code).run Tryz.prog w=.ok k w:=by
 subst h
 simp [Instr.sliceBound,asIntOf,hk]
theorem tp {t E sz by' n cp k:Nat} {z:Value} {a:Option Addr} {kd:IntKind} {i:Int} (ho:o.op=.slice t x none (some y) none) (hu:fQ t=some (.slice E)) (hi:iE E=some (z,sz,by')) (hx:Ev Z c x (.slice a n cp)) (hy:Ev Z c y (.int kd i)) (hik:c=true->i=(k:Int)) (hk:c=true->k<=cp):Rb c o Z ρ O (.slice a k cp):=fun hc w _=>by
 simp only [execOp,ho,Option.map_none,Option.map_some,hx hc,hy hc,Instr.sliceAt,Instr.slice,Instr.sliceBounds,Sem.run_bind,run_underlying (bD hu),Result.andThen_ok,Sem.run_pure,lU (hik hc) (hk hc),eN hi]
 simp [Bd]
theorem xe {t E sz by' n cp k:Nat} {z:Value} {a:Option Addr} {kd:IntKind} {i:Int} (ho:o.op=.slice t x (some y) none none) (hu:fQ t=some (.slice E)) (hi:iE E=some (z,sz,by')) (hx:Ev Z c x (.slice a n cp)) (hy:Ev Z c y (.int kd i)) (hik:c=true->i=(k:Int)) (hk:c=true->k<=n):Rb c o Z ρ O (.slice (if cp=k then a else a.map (·.add (k*sz))) (n - k) (cp - k)):=fun hc w _=>by
 simp only [execOp,ho,Option.map_none,Option.map_some,hx hc,hy hc,Instr.sliceAt,Instr.slice,Instr.sliceBounds,Sem.run_bind,run_underlying (bD hu),Result.andThen_ok,Sem.run_pure,lU (hik hc) (hk hc),eN hi]
theorem EL {t l h:Nat} {s:Xh} {kd kd2:IntKind} {i j:Int} (ho:o.op=.slice t x (some y) (some y2) none) (hu:fQ t=some .string) (hx:Ev Z c x (.string s)) (hy:Ev Z c y (.int kd i)) (hy2:Ev Z c y2 (.int kd2 j)) (hil:c=true->i=(l:Int)) (hjh:c=true->j=(h:Int)) (hlh:c=true->l<=h) (hk:c=true->h<=s.size):Rb c o Z ρ O (.string (s.extract l h)):=fun hc w _=>by
 simp only [execOp,ho,Option.map_none,Option.map_some,hx hc,hy hc,hy2 hc,Instr.sliceAt,Instr.slice,Instr.sliceBounds,Sem.run_bind,run_underlying (bD hu),Result.andThen_ok,Sem.run_pure]
 simp [lU (code:=.sliceAlen) (hjh hc) (hk hc),lU (code:=.sliceB) (hil hc) (hlh hc)]
theorem vG {t h:Nat} {s:Xh} {kd2:IntKind} {j:Int} (ho:o.op=.slice t x none (some y2) none) (hu:fQ t=some .string) (hx:Ev Z c x (.string s)) (hy2:Ev Z c y2 (.int kd2 j)) (hjh:c=true->j=(h:Int)) (hk:c=true->h<=s.size):Rb c o Z ρ O (.string (s.extract 0 h)):=fun hc w _=>by
 simp only [execOp,ho,Option.map_none,Option.map_some,hx hc,hy2 hc,Instr.sliceAt,Instr.slice,Instr.sliceBounds,Sem.run_bind,run_underlying (bD hu),Result.andThen_ok,Sem.run_pure]
 simp [lU (code:=.sliceAlen) (hjh hc) (hk hc)]
theorem vH {t l:Nat} {s:Xh} {kd:IntKind} {i:Int} (ho:o.op=.slice t x (some y) none none) (hu:fQ t=some .string) (hx:Ev Z c x (.string s)) (hy:Ev Z c y (.int kd i)) (hil:c=true->i=(l:Int)) (hk:c=true->l<=s.size):Rb c o Z ρ O (.string (s.extract l s.size)):=fun hc w _=>by
 simp only [execOp,ho,Option.map_none,Option.map_some,hx hc,hy hc,Instr.sliceAt,Instr.slice,Instr.sliceBounds,Sem.run_bind,run_underlying (bD hu),Result.andThen_ok,Sem.run_pure]
 simp [lU (code:=.sliceB) (hil hc) (hk hc)]
theorem Be {α:Type} (f:α->Value):∀ (bs:List α),(bs.map fun b=>[f b]).flatten=bs.map f
 | []=>rfl
 | b::bs=>by rw [map_cons,flatten_cons,Be f bs];rfl
theorem Gu {s d e n cp:Nat} {a:Option Addr} {xs:List Int} (ho:o.op=.convert s d x) (hs:fQ s=some (.slice e)) (he:fQ e=some (.int .u8)) (hd:fQ d=some .string) (hx:Ev Z c x (.slice a n cp)) (hr:c=true->Rd ρ O a n 1 (xs.map fun b=>[.int .u8 b])):Rb c o Z ρ O (.string (strOfNums xs)):=fun hc w hst=>by
 have hrd:=hr hc
 have hlen:xs.length=n:=by have:=hrd.len;simpa using this
 have hrun:(convert s d (.slice a n cp)).run Tryz.prog w=.ok (.string (strOfNums xs)) w:=by
  rw [run_convert_bytes_string w s d e a n cp (bD hs) (bD he) (bD hd)]
  cases a with
  | none =>
   have hn:n=0:=by
    rcases eq_zero_or_pos n with h | h
    ·exact h
    obtain ⟨ad,e,_⟩:=hrd.at_ h;cases e
   have hb:xs=[]:=eq_nil_of_length_eq_zero (by omega)
   subst hb
   simp [Conv.bytesToString];rfl
  | some ad =>
   have hcells:∀ j u,(xs.map (Value.int .u8))[j]?=some u->w.cell? (ad.add j)=some u:=fun j u hu=>by
    have hpos:0<n:=by
     rcases eq_zero_or_pos n with h | h
     ·have hb:xs=[]:=eq_nil_of_length_eq_zero (by omega)
      subst hb;simp at hu
     exact h
    obtain ⟨ad',e,h2⟩:=hrd.at_ hpos
    injection e with e;subst e
    refine h2 w hst j u ?_
    rw [Be];exact hu
   have hl:=run_loadCells_list (P:=Tryz.prog) w ad (xs.map (Value.int .u8)) hcells
   simp only [length_map,hlen] at hl
   rw [run_bytesToString w _ n cp xs hl,foldl_push_bytes]
   simp [strOfNums,Uh,ByteArray.emptyWithCapacity]<;>rfl
 simp [execOp,ho,hx hc,hrun]
end
section
variable {β:Jc} {n:Nat} {x y:Code} {K:Exit->Yb} {Z:Ma} {ρ:List Ja} {O:Kr} {c:Operand}
theorem zT {P:Prop} [Decidable P] (hc:ev Z c=.bool (decide P)) (ht:P->WC β n x K Z ρ O) (hf:¬ P->WC β n y K Z ρ O):WC β n (.cond c x y) K Z ρ O :=
 oe hc (fun h=>ht (of_decide_eq_true h)) (fun h=>hf (of_decide_eq_false h))
theorem Sl.take {O:Kr} {a:Option Addr} {n c sz m:Nat} {css:List (List Value)} (h:Sl O a n c sz css) (hm:m<=n):Sl O a m c sz (css.take m) :=
 ⟨by rw [length_take,h.len];omega,le_trans hm h.cap,fun cs hcs=>h.wid cs (mem_of_mem_take hcs),fun h0=>by
  obtain ⟨b,off,h1,h2⟩:=h.at_ (by omega)
  exact ⟨b,off,h1,fun j cs hj=>h2 j cs (by rw [List.getElem?_take] at hj;split at hj;exact hj;cases hj)⟩⟩
theorem Sl.nil {O:Kr} {sz:Nat}:Sl O none 0 0 sz []:=⟨rfl,le_refl _,by simp,fun h=>absurd h (by omega)⟩
theorem Qc.nil:Qc Z []:=trivial
theorem Qc.cons {d:Nat} {v:Value} {l:List (Nat×Value)} (h:Z d=v) (h':Qc Z l):Qc Z ((d,v)::l):=⟨h,h'⟩
theorem Zt.view {l:List Ja} {r r':Ja} (h:Zt β ρ O) (hp:Sd ρ r l) (hb:r'.blk=r.blk) (hs:∀ o,r.says o->r'.says o):Zt β (r'::l) O:=by
 have h2:=h.perm hp
 refine ⟨h2.le,h2.fin,fun s hs'=>?_,fun s hs' b hb'=>?_,List.Pairwise.cons (fun s hs' b hb'=>?_) (List.pairwise_cons.1 h2.nd).2⟩
 ·rcases List.mem_cons.1 hs' with rfl | hs'
  ·have:=h2.own r (by simp);unfold Ja.holds at *;rw [hb];cases e:r.blk <;> rw [e] at this <;> exact hs _ this
  exact h2.own s (by simp [hs'])
 ·rcases List.mem_cons.1 hs' with rfl | hs'
  ·exact h2.blk r (by simp) b (hb ▸ hb')
  exact h2.blk s (by simp [hs']) b hb'
 exact (List.pairwise_cons.1 h2.nd).1 s hs' b (hb ▸ hb')
theorem Bf {b T sz m:Nat} {cs:List Value} {css:List (List Value)} (hf:css.flatten=cs) (hl:css.length=m) (hw:∀ c∈css,c.length=sz) (hm:m<=140737488355328):∀ o,(Ja.b b T cs).says o->(Ja.row (some ⟨b,0,none⟩) m m T sz css).says o:=fun o h=>by
 have ho:o=some (.cells cs.toArray T (0,0)):=h
 refine ⟨rfl,hl,hw,le_refl _,by unfold maxLen;omega,cs.toArray,ho,?_,?_⟩
 ·have:=fS hw;rw [hf,hl] at this;simpa using this
 have:=fS hw;rw [hf,hl] at this;rw [hf,<- this];simp
theorem Gv {a:Option Addr} {m c' T sz:Nat} {css:List (List Value)} (hm:Ja.row a m c' T sz css∈ρ) (ha:0<m->a≠none) (hl:css.length=m) (hw:∀ c∈css,c.length=sz):Rd ρ O a m sz css :=
  ⟨hl,hw,fun h0=>by
    cases a with
    | none=>exact absurd rfl (ha h0)
    | some ad=>exact ⟨ad,rfl,fun w hs j u hu=>by
        obtain ⟨h1,h2,h3,h4,h5,cur,h6,h7,h8⟩:(Ja.row (some ad) m c' T sz css).holds w:=hs.own _ hm
        have hj:j<css.flatten.length:=by rcases lt_or_ge j css.flatten.length with h | h;exact h;rw [List.getElem?_eq_none h] at hu;cases hu
        rw [fS h3,h2] at hj
        rw [h1,iU,zero_add]
        have hc2:w.cell? ⟨ad.block,j,none⟩=cur.toList[j]?:=by simp [World.cell?,h6]
        rw [hc2]
        rw [<- h8,List.getElem?_take,if_pos hj] at hu;exact hu⟩⟩
theorem Bg {a:Option Addr} {m c' T sz:Nat} {css:List (List Value)} (hm:Ja.row a m c' T sz css∈ρ):∀ β,Zt β ρ O->(css.length=m/\m<=c')/\(0<m->∃ b,a=some ⟨b,0,none⟩):=fun β hi=>by
 have h:=hi.own _ hm
 cases a with
 | none=>obtain ⟨rfl,rfl,rfl⟩:=h;exact ⟨⟨rfl,le_refl _⟩,fun h=>absurd h (by omega)⟩
 | some ad=>obtain ⟨h1,h2,h3,h4,h5,cur,h6,h7,h8⟩:=h;exact ⟨⟨h2,h4⟩,fun _=>⟨ad.block,by rw [h1]⟩⟩
theorem Gw {b T:Nat} {cs:List Value} (hS:O.S b) (h:(Ja.b b T cs).says O.w.heap[b]?):Sh O b 0 cs:=⟨hS,fun j u hu=>by
 have hb:O.w.heap[b]?=some (.cells cs.toArray T (0,0)):=h
 rw [zero_add,nr hb];exact hu⟩
theorem sl_row {b m c' T sz:Nat} {css:List (List Value)} (hS:O.S b) (h:(Ja.row (some ⟨b,0,none⟩) m c' T sz css).says O.w.heap[b]?):Sl O (some ⟨b,0,none⟩) m c' sz css:=by
 obtain ⟨h1,h2,h3,h4,h5,cur,h6,h7,h8⟩:=h
 refine ⟨h2,h4,h3,fun h0=>⟨b,0,rfl,fun j cs hj=>⟨hS,fun i u hu=>?_⟩⟩⟩
 have hi:i<sz:=by
  have:=h3 cs (mem_of_getElem? hj)
  rcases lt_or_ge i cs.length with h | h
  ·omega
  rw [List.getElem?_eq_none h] at hu;cases hu
 have hg:=nw h3 hj hi
 have hjm:j<m:=by rw [<- h2];exact (List.getElem?_eq_some_iff.1 hj).1
 have hlt:j*sz+i<m*sz:=by
  have:(j+1)*sz<=m*sz:=Nat.mul_le_mul_right _ hjm
  rw [add_mul] at this;omega
 have hc2:O.w.cell? ⟨b,0+j*sz+i,none⟩=cur.toList[j*sz+i]?:=by simp [World.cell?,h6]
 rw [hc2]
 rw [<- h8,List.getElem?_take,if_pos hlt] at hg
 rw [hg];exact hu
def CK (O:Kr):Option Addr->Kr
 | none=>O
 | some ad=>⟨O.w,fun i=>O.S i\/i=ad.block⟩
theorem zU (O:Kr) (a:Option Addr):(CK O a).w=O.w:=by cases a <;> rfl
theorem wo {a:Option Addr} {m c' T sz:Nat} {css:List (List Value)} {l:List Ja} (hi:Zt β (Ja.row a m c' T sz css::l) O):Zt β l (CK O a)/\Sa O (CK O a)/\Sl (CK O a) a m c' sz css:=by
 have ho:=hi.own _ (mem_cons_self)
 cases a with
 | none =>
  obtain ⟨rfl,rfl,rfl⟩:=ho
  exact ⟨hi.sub (List.sublist_cons_self _ _),.refl _,.nil⟩
 | some ad =>
  obtain ⟨h1,h2⟩:=hi.pub (r:=Ja.row (some ad) m c' T sz css) (b:=ad.block) rfl
  have e:ad=⟨ad.block,0,none⟩:=ho.1
  refine ⟨h1,h2,?_⟩
  have ho':(Ja.row (some ad) m c' T sz css).says O.w.heap[ad.block]?:=ho
  unfold CK
  rw [e] at ho' ⊢
  exact sl_row (O:=⟨O.w,fun i=>O.S i\/i=ad.block⟩) (.inr rfl) ho'
theorem EM {a:Option Addr} {m c' T sz:Nat} {css:List (List Value)} {l:List Ja} (hp:Sd ρ (Ja.row a m c' T sz css) l) (h:∀ O',Sa O O'->Sl O' a m c' sz css->WC β n x K Z l O'):WC β n x K Z ρ O:=fun hi df A hr Q hq=>by
 obtain ⟨h2,h3,h4⟩:=wo (hi.perm hp)
 have h1:=zU O a
 have:=h _ h3 h4 h2 A hr Q fun e a' Z' ρ' O'' g1 g2 g3 g4=>hq e a' Z' ρ' O'' g1 g2 (h3.trans g3) g4
 rwa [h1] at this
theorem EN {ops:Array Oper} {lo:List Oper} {K:Yb} {a:Option Addr} {m c' T sz:Nat} {css:List (List Value)} {l:List Ja} (hp:Sd ρ (Ja.row a m c' T sz css) l) (h:∀ O',Sa O O'->Sl O' a m c' sz css->WL β n ops lo K Z l O'):WL β n ops lo K Z ρ O:=fun hi df A hr Q hq=>by
 obtain ⟨h2,h3,h4⟩:=wo (hi.perm hp)
 have h1:=zU O a
 have:=h _ h3 h4 h2 A hr Q fun a' Z' ρ' O'' g1 g2 g3 g4=>hq a' Z' ρ' O'' g1 g2 (h3.trans g3) g4
 rwa [h1] at this
theorem wl_pub {ops:Array Oper} {lo:List Oper} {K:Yb} {r:Ja} {l:List Ja} {b:Nat} (hp:Sd ρ r l) (hb:r.blk=some b) (h:∀ O',Sa O O'->O'.S b->r.says O'.w.heap[b]?->WL β n ops lo K Z l O'):WL β n ops lo K Z ρ O:=fun hi df a hr Q hq=>by
 have hi2:=hi.perm hp
 obtain ⟨h1,h2⟩:=hi2.pub hb
 have hs:=hi2.own r (by simp)
 unfold Ja.holds at hs;rw [hb] at hs
 exact h _ h2 (.inr rfl) hs h1 a hr Q fun a' Z' ρ' O' g1 g2 g3 g4=>hq a' Z' ρ' O' g1 g2 (h2.trans g3) g4
theorem sy {r:Int} (h:0<=r/\r<=255):u8.wrap r=r:=by
 have e:u8.wrap r=r % 256:=rfl
 rw [e];omega
variable {o:Oper} {x y:Operand} {c:Bool} {t t':Nat} {a b:Int}
def Lit (Z:Ma):Nat->List (Nat×Operand)->List (List Value)->Prop
 | _,[],css=>css=[]
 | k,(i,x)::r,css=>∃ cs css',css=cs::css'/\i=k/\cn (ev Z x)=cs/\Lit Z (k+1) r css'
theorem Lit.spec:∀ {k:Nat} {parts:List (Nat×Operand)} {css:List (List Value)},Lit Z k parts css->parts.map (fun p=>(p.1,ev Z p.2))=((parts.map fun p=>ev Z p.2).zipIdx k).map (fun p=>(p.2,p.1))/\(parts.map fun p=>ev Z p.2).map cn=css
 | _,[],_,h=>by subst h;exact ⟨rfl,rfl⟩
 | k,(i,x)::r,_,⟨cs,css',e1,e2,h1,h2⟩=>by
  subst e1;subst e2
  obtain ⟨h3,h4⟩:=h2.spec
  refine ⟨?_,?_⟩
  ·simp only [map_cons,zipIdx_cons,h3]
  simp only [map_cons,h4,h1]
theorem Bh {t E len sz by':Nat} {z:Value} {parts:List (Nat×Operand)} {css:List (List Value)} (hg:o.guard=none) (ho:o.op=.buildSlice t len parts.toArray) (hu:fQ t=some (.slice E)) (hi:iE E=some (z,sz,by')) (hz:Nat.beq z.cells.size sz=true)
    (hp:Lit Z 0 parts css) (hl:Nat.beq css.length len=true) (hw:(css.all fun cs=>Nat.beq cs.length sz)=true) (hb:Nat.ble (len*sz) 16777216=true):Kb o Z E css.flatten (fun b=>.slice (some ⟨b,0,none⟩) len len):=by
  obtain ⟨h1,h2⟩:=hp.spec
  have h3:=late_bs (o:=o) (Z:=Z) (parts.map fun p=>ev Z p.2) hg ho hu hi hz h1 (by have:=congrArg List.length h2;have h4:=eq_of_beq_eq_true hl;simp at this ⊢;omega) (fun v hv=>by
    have:cn v∈css:=by rw [<- h2];exact mem_map_of_mem hv
    exact eq_of_beq_eq_true (List.all_eq_true.1 hw _ this)) (le_of_ble_eq_true hb)
  rwa [List.flatMap_def,h2] at h3
theorem ol_lit {K:Value->List Ja->Kr->Prop} {t E len sz by':Nat} {z:Value} {parts:List (Nat×Operand)} {css:List (List Value)} (hg:o.guard=none) (ho:o.op=.buildSlice t len parts.toArray) (hu:fQ t=some (.slice E)) (hi:iE E=some (z,sz,by')) (hz:Nat.beq z.cells.size sz=true)
    (hp:Lit Z 0 parts css) (hl:Nat.beq css.length len=true) (hw:(css.all fun cs=>Nat.beq cs.length sz)=true) (hb:Nat.ble (len*sz) 16777216=true) (hb2:Nat.ble len 16777216=true) (h:∀ b O',Sa O O'->K (.slice (some ⟨b,0,none⟩) len len) (Ja.row (some ⟨b,0,none⟩) len len E sz css::ρ) O'):Lc o Z ρ O K:=fun β hinv Nx hk=>by
  refine DN (Bh hg ho hu hi hz hp hl hw hb) (K:=fun v ρ' O'=>∃ b,v=.slice (some ⟨b,0,none⟩) len len/\ρ'=Ja.b b E css.flatten::ρ/\K v (Ja.row (some ⟨b,0,none⟩) len len E sz css::ρ) O') (fun b O' hk=>⟨b,rfl,rfl,h b O' hk⟩) β hinv Nx fun v ρ' O' h1 h2 h3=>?_
  obtain ⟨b,rfl,rfl,h4⟩:=h3
  have hbb:=le_of_ble_eq_true hb2
  exact hk _ _ O' (h1.view (r':=Ja.row (some ⟨b,0,none⟩) len len E sz css) Sd.h rfl (Bf rfl (eq_of_beq_eq_true hl) (fun c hc=>eq_of_beq_eq_true (List.all_eq_true.1 hw c hc)) (by omega))) h2 h4
end
def WS (β:Jc) (n:Nat) (ops:Array Oper) (K:Yb) (m:Nat) (L:Array Bool) (Z:Ma) (ρd ρs:List Ja) (O:Kr):Prop :=
 Zt β (ρd++ρs) O->∀ ⦃df⦄ a,Pd df n a Z->∀ Q:Act->World->Prop,(∀ a' Z' ρ' O',Pd df n a' Z'->Zt β ρ' O'->Sa O O'->K Z' ρ' O'->Q a' O'.w)->wpAnyH Tryz.prog .any ops (NP Q) (Sc ρs O) m L a O.w
section
variable {β:Jc} {n m:Nat} {ops:Array Oper} {K:Yb} {L:Array Bool} {Z:Ma} {ρ ρd ρs:List Ja} {O:Kr} {o:Oper} {i d:Nat} {v:Value}
theorem Sc.of {O':Kr} (h:Zt β (ρd++ρs) O') (hk:Sa O O'):Sc ρs O O'.w:=⟨hk.keep,fun r hr=>h.own r (List.mem_append.2 (.inr hr))⟩
theorem Gx {K:Exit->Yb} {id:Nat} {l:List Oper} (hp:ρ.Perm (ρd++ρs)) (h:∀ O',Sa O O'->WS β n l.toArray (K .normal) l.length (Array.replicate l.length false) Z ρd ρs O'):WC β n (.region id l.toArray true) K Z ρ O:=fun hi df a hr Q hq=>by
 have hk1:Sa O ⟨{ O.w with drawn:=O.w.drawn+1 },O.S⟩:=⟨le_refl _,fun _ h=>h,fun _ _=>rfl⟩
 have hs:=h _ hk1 (hi.perm hp).drew a hr (fun a w=>Q .normal a w) fun a' Z' ρ' O' g1 g2 g3 g4=>hq _ a' Z' ρ' O' g1 g2 (hk1.trans g3) g4
 exact wP (wa mixed (by simpa using hs)) fun e a w h=>by rw [h.1];exact h.2
theorem ws_done (hr:(Region.ready .any ops L).isEmpty=true) (h:K Z (ρd++ρs) O):WS β n ops K m L Z ρd ρs O:=fun hi df a hra Q hq =>
 wpAnyH_done (by simpa using hr) ⟨rfl,hq a Z _ O hra hi (.refl _) h⟩ m
def okQ (ops:Array Oper) (L:Array Bool) (i:Nat):Bool:=Region.noSelect ops&&Region.free .any ops L i&&(Region.ready .any ops L).contains i
theorem ws_q (i:Nat) (hok:okQ ops L i=true) (ho:ops[i]?=some o) (hg:o.guard=none) (hd:o.dst=some d) (hlt:Nat.blt d n=true) (h:Rb true o Z ρs O v) (hw:WS β n ops K m (L.setIfInBounds i true) (upd Z d v) ρd ρs O):WS β n ops K (m+1) L Z ρd ρs O:=fun hi df a hr Q hq=>by
 unfold okQ at hok
 simp only [and_eq_true] at hok
 refine wpAnyH_take ho hok.1.1 hok.1.2 hok.2 (fun _ _ _ h=>by cases h.1) (v:=v) (.inl ⟨by simp [Region.wanted,hg],fun w hw'=>by rw [hr.eval];exact h rfl w hw'⟩) (Sc.of hi (.refl _)) ?_
 rw [<- ie hd] at hw
 exact hw hi _ (hr.put (jl hd hlt) v) Q hq
def Me (β:Jc) (n:Nat) (ops:Array Oper) (K:Yb) (m:Nat) (L:Array Bool) (Z:Ma) (ρd ρs:List Ja) (O:Kr) (i:Nat):Prop :=
 ∃ o,ops[i]?=some o/\wO n o.dst=true/\((o.guard=none/\Lc o Z (ρd++ρs) O fun v ρ' O'=>∃ ρd',ρ'=ρd'++ρs/\WS β n ops K m (L.setIfInBounds i true) (ry Z o.dst v) ρd' ρs O') \/
  (∃ c,Wb ops Z o c/\OpG c o Z (ρd++ρs) O fun v O'=>WS β n ops K m (L.setIfInBounds i true) (ry Z o.dst (gv c v)) ρd ρs O'))
theorem step_l (ho:ops[i]?=some o) (hg:o.guard=none) (hd:o.dst=some d) (hlt:Nat.blt d n=true) (h:Lc o Z (ρd++ρs) O fun v ρ' O'=>∃ ρd',ρ'=ρd'++ρs/\WS β n ops K m (L.setIfInBounds i true) (upd Z d v) ρd' ρs O'):Me β n ops K m L Z ρd ρs O i :=
 ⟨o,ho,jl hd hlt,.inl ⟨hg,by simp only [ie hd];exact h⟩⟩
theorem step_l0 (ho:ops[i]?=some o) (hg:o.guard=none) (hd:o.dst=none) (h:Lc o Z (ρd++ρs) O fun _ ρ' O'=>∃ ρd',ρ'=ρd'++ρs/\WS β n ops K m (L.setIfInBounds i true) Z ρd' ρs O'):Me β n ops K m L Z ρd ρs O i :=
 ⟨o,ho,by rw [hd];rfl,.inl ⟨hg,by simp only [hd];exact h⟩⟩
theorem Me.op (h:Me β n ops K m L Z ρd ρs O i) (hi:Zt β (ρd++ρs) O) {df:List Deferred} (a:Act) (hr:Pd df n a Z) (Q:Act->World->Prop) (hq:∀ a' Z' ρ' O',Pd df n a' Z'->Zt β ρ' O'->Sa O O'->K Z' ρ' O'->Q a' O'.w) :
    wpOp Tryz.prog ops (NP Q) i (fun a' w'=>Sc ρs O w'/\wpAnyH Tryz.prog .any ops (NP Q) (Sc ρs O) m (L.setIfInBounds i true) a' w') a O.w:=by
  obtain ⟨o,ho,hd,h⟩:=h
  unfold wpOp
  simp only [ho]
  have fin:∀ (Z':Ma) (ρ':List Ja) (O':Kr) (a':Act),Pd df n a' Z'->Zt β (ρ'++ρs) O'->Sa O O'->WS β n ops K m (L.setIfInBounds i true) Z' ρ' ρs O'->Sc ρs O O'.w/\wpAnyH Tryz.prog .any ops (NP Q) (Sc ρs O) m (L.setIfInBounds i true) a' O'.w:=fun Z' ρ' O' a' k1 k2 k3 k4 =>
    ⟨Sc.of k2 k3,lS (fun w hw=>⟨fun b hb=>(hw.keep b (k3.sh b hb)).trans (k3.keep b hb),hw.own⟩) _ _ _ _ (k4 k2 a' k1 Q fun a'' Z'' ρ'' O'' g1 g2 g3 g4=>hq a'' Z'' ρ'' O'' g1 g2 (k3.trans g3) g4)⟩
  rcases h with ⟨hg,hw⟩ | ⟨c,hg,hw⟩
  · rw [if_pos (by simp [Region.wanted,hg])]
    refine .inl (mY hr.eval (hw β hi (fun v w=>Sc ρs O w/\wpAnyH Tryz.prog .any ops (NP Q) (Sc ρs O) m (L.setIfInBounds i true) (a.put o.dst v) w) fun v ρ' O' hi' hle' hw'=>?_) fun _ _ h=>h)
    obtain ⟨ρd',rfl,hw'⟩:=hw'
    exact fin _ ρd' O' _ (hr.put hd v) hi' hle' hw'
  rw [lI hr,hg]
  cases c with
  | false =>
    have h2:=hw.2 rfl
    simp only [ko] at h2
    exact fin _ ρd O _ (hr.put hd _) hi (.refl _) h2
  | true =>
    refine .inl (mY hr.eval ((hw.1 rfl) β hi (fun v w=>Sc ρs O w/\wpAnyH Tryz.prog .any ops (NP Q) (Sc ρs O) m (L.setIfInBounds i true) (a.put o.dst v) w) fun v ρ' O' hi' hle' hw'=>?_) fun _ _ h=>h)
    obtain ⟨rfl,hw'⟩:=hw'
    simp only [nq] at hw'
    exact fin _ ρd O' _ (hr.put hd v) hi' hle' hw'
theorem ws_one (i:Nat) (hr:(Region.ready .any ops L == [i])=true) (h:Me β n ops K m L Z ρd ρs O i):WS β n ops K (m+1) L Z ρd ρs O:=fun hi df a hra Q hq =>
 wpAnyH_all (by simpa using hr) (by simp) fun j hj=>by
  simp only [mem_cons,not_mem_nil,or_false] at hj
  subst hj;exact h.op hi a hra Q hq
theorem ws_two (i j:Nat) (hr:(Region.ready .any ops L == [i,j])=true) (h:Me β n ops K m L Z ρd ρs O i) (h2:Me β n ops K m L Z ρd ρs O j):WS β n ops K (m+1) L Z ρd ρs O:=fun hi df a hra Q hq =>
 wpAnyH_all (by simpa using hr) (by simp) fun k hk=>by
  simp only [mem_cons,not_mem_nil,or_false] at hk
  rcases hk with rfl | rfl
  ·exact h.op hi a hra Q hq
  exact h2.op hi a hra Q hq
theorem Gy (i j k:Nat) (hr:(Region.ready .any ops L == [i,j,k])=true) (h:Me β n ops K m L Z ρd ρs O i) (h2:Me β n ops K m L Z ρd ρs O j) (h3:Me β n ops K m L Z ρd ρs O k):WS β n ops K (m+1) L Z ρd ρs O:=fun hi df a hra Q hq =>
 wpAnyH_all (by simpa using hr) (by simp) fun q hq'=>by
  simp only [mem_cons,not_mem_nil,or_false] at hq'
  rcases hq' with rfl | rfl | rfl
  ·exact h.op hi a hra Q hq
  ·exact h2.op hi a hra Q hq
  exact h3.op hi a hra Q hq
end
section
variable {β:Jc} {n:Nat} {ops:Array Oper} {K:Yb} {o:Oper} {r:List (Nat×Oper)} {Z:Ma} {ρd:List Ja} {O:Kr}
theorem ol_q {K:Value->List Ja->Kr->Prop} {v:Value} {ρ:List Ja} (h:Rb true o Z ρ O v) (hk:K v ρ O):Lc o Z ρ O K:=fun _ hi Nx hn=>by
 rw [h rfl O.w hi.stab]
 exact hn v ρ O hi (.refl _) hk
end
section
variable {o:Oper} {Z:Ma} {ρ:List Ja} {O:Kr} {c:Bool} {x y:Operand} {K:Value->List Ja->Kr->Prop}
theorem EO {t E len by':Nat} {cs:List Value} {v z:Value} {k:IntKind} {i:Int} {j:Nat} {d:TypeDesc} (ho:o.op=.index t x y) (hu:fQ t=some (.array len E)) (hE:fQ E=some d) (hd:oF d=false) (hi:iE E=some (z,1,by'))
    (hx:Ev Z c x (.agg cs.toArray)) (hy:Ev Z c y (.int k i)) (hj:c=true->i=(j:Int)) (hlt:c=true->j<len) (hv:c=true->cs[j]?=some v):Rb c o Z ρ O v:=fun hc w _=>by
  have h1:=hj hc;have h2:=hlt hc;have h3:=hv hc
  simp only [execOp,ho,hx hc,hy hc,Instr.index,asIntOf,Sem.run_bind,Sem.run_pure,Result.andThen_ok,run_underlying (bD hu),eN hi,part,oB hE,hd]
  simp [h1,h2,h3,eN hi,oB hE,hd,part]
theorem yZ {t E len b off sz by':Nat} {z:Value} {k:IntKind} {i:Int} {j:Nat} (ho:o.op=.indexAddr t x y) (hu:fQ t=some (.array len E)) (hi:iE E=some (z,sz,by'))
    (hx:Ev Z c x (.pointer (some ⟨b,off,none⟩))) (hy:Ev Z c y (.int k i)) (hj:c=true->i=(j:Int)) (hlt:c=true->j<len):Rb c o Z ρ O (.pointer (some ⟨b,off+j*sz,none⟩)):=fun hc w _=>by
  have h1:=hj hc;have h2:=hlt hc
  simp only [execOp,ho,hx hc,hy hc,Instr.indexAt,asIntOf,Instr.sureAddr,Sem.run_bind,Sem.run_pure,Result.andThen_ok,run_underlying (bD hu)]
  simp [h1,h2,eN hi,iU]
theorem EP {t:Nat} {b off T by':Nat} {z v:Value} {cs:List Value} {ρ':List Ja} (ho:o.op=.store t x y) (hx:ev Z x=.pointer (some ⟨b,off,none⟩)) (hv:ev Z y=v) (hv1:cn v=[v])
    (hz:iE t=some (z,1,by')) (h1:v.oneCell'=true) (hu:Mf ρ (Ja.b b T cs) (Ja.b b T (cs.set off v)) ρ') (hl:off<cs.length)
    (h:∀ O',Sa O O'->K undef ρ' O'):Lc o Z ρ O K:=by
  rw [A3 hl] at hu
  exact wW ho hx (by rw [hv];exact hv1) hz rfl (by simp [h1]) (ble_eq_true_of_le (by simp only [length_cons,length_nil];omega)) hu h
theorem Gz {sz:Nat} {css:List (List Value)} {k j:Nat} {cs vs:List Value} (hw:∀ cs∈css,cs.length=sz) (hk:css[k]?=some cs) (hj:j+vs.length<=sz) :
    css.flatten.take (k*sz+j)++vs++css.flatten.drop (k*sz+j+vs.length)=(css.set k (cs.take j++vs++cs.drop (j+vs.length))).flatten:=by
  have hlt:k<css.length:=(List.getElem?_eq_some_iff.1 hk).1
  have hcs:css[k]=cs:=(List.getElem?_eq_some_iff.1 hk).2
  have hcl:cs.length=sz:=hw cs (mem_of_getElem? hk)
  have hsplit:css=css.take k++cs::css.drop (k+1):=by
    rw [<- hcs,<- List.drop_eq_getElem_cons hlt,List.take_append_drop]
  have hpre:(css.take k).flatten.length=k*sz:=by rw [fS (fun c h=>hw c (mem_of_mem_take h)),length_take,Nat.min_eq_left (by omega)]
  rw [List.set_eq_take_append_cons_drop,if_pos hlt]
  have hf:css.flatten=(css.take k).flatten++(cs++(css.drop (k+1)).flatten):=by
    conv=>lhs;rw [hsplit]
    simp
  rw [hf]
  have t1:List.take (k*sz+j) ((css.take k).flatten++(cs++(css.drop (k+1)).flatten))=(css.take k).flatten++cs.take j:=by
    rw [List.take_append,hpre,List.take_of_length_le (by omega),Nat.add_sub_cancel_left,List.take_append_of_le_length (by omega)]
  have t2:List.drop (k*sz+j+vs.length) ((css.take k).flatten++(cs++(css.drop (k+1)).flatten))=cs.drop (j+vs.length)++(css.drop (k+1)).flatten:=by
    rw [List.drop_append,hpre,List.drop_of_length_le (by omega),show k*sz+j+vs.length - k*sz=j+vs.length by omega,List.drop_append_of_le_length (by omega)];rfl
  rw [t1,t2]
  simp
theorem GA {A V D:List Value} {N:Nat} (h:A.length+V.length<=N):(A++V++D).take N=A++V++D.take (N - (A.length+V.length)):=by
 rw [List.take_append,List.take_of_length_le (by rw [length_append];exact h),length_append]
theorem Bi {t b n c' T sz sz2 by' off k j:Nat} {z:Value} {css:List (List Value)} {cs vs:List Value} {ρ':List Ja} (ho:o.op=.store t x y) (hx:ev Z x=.pointer (some ⟨b,off,none⟩)) (hoff:off=k*sz+j) (hv:cn (ev Z y)=vs)
    (hz:iE t=some (z,sz2,by')) (hsz:vs.length=sz2) (h1:vs.all Value.oneCell'=true) (hk:css[k]?=some cs) (hj:j+vs.length<=sz) (hu:Mf ρ (Ja.row (some ⟨b,0,none⟩) n c' T sz css) (Ja.row (some ⟨b,0,none⟩) n c' T sz (css.set k (cs.take j++vs++cs.drop (j+vs.length)))) ρ')
    (h:∀ O',Sa O O'->K undef ρ' O'):Lc o Z ρ O K:=fun β hi Nx hkk=>by
  obtain ⟨l1,l2,hρ,hρ'⟩:=hu
  obtain ⟨g0,g1,g2,g3,g4,cur,g5,g6,g7⟩:(Ja.row (some ⟨b,0,none⟩) n c' T sz css).holds O.w:=hi.own _ (by rw [hρ];simp)
  have hlt:k<css.length:=(List.getElem?_eq_some_iff.1 hk).1
  have hb:O.w.heap[b]?=some (.cells cur.toList.toArray T (0,0)):=by simpa using g5
  have hkn:k*sz+sz<=n*sz:=by rw [<- Nat.succ_mul];exact Nat.mul_le_mul_right _ (by omega)
  have hnc:n*sz<=c'*sz:=Nat.mul_le_mul_right _ g3
  have hl:off+vs.length<=cur.toList.length:=by simp only [Array.length_toList,g6,hoff];omega
  obtain ⟨w',hrun,e1,e2,e3,e4,e5,e6⟩:=pz hb hl h1
  have hcs:(ev Z y).cells=vs.toArray:=by rw [<- hv,<- j6]
  have hsz':vs.toArray.size=sz2:=by simpa using hsz
  unfold execOp
  simp only [ho,hx,Instr.storeAt,Instr.sureAddr,storeVar,Sem.run_bind,Sem.run_pure,Result.andThen_ok,eN hz,hcs,hsz',ne_eq,not_true_eq_false,if_false,hrun,Wc]
  have hlen:(css.set k (cs.take j++vs++cs.drop (j+vs.length))).length=n:=by simp [g1]
  have hcl:cs.length=sz:=g2 cs (mem_of_getElem? hk)
  have hsays:(Ja.row (some ⟨b,0,none⟩) n c' T sz (css.set k (cs.take j++vs++cs.drop (j+vs.length)))).says w'.heap[b]?:=by
    refine ⟨rfl,hlen,fun d hd=>?_,g3,g4,_,e3,?_,?_⟩
    · rcases List.mem_or_eq_of_mem_set hd with hd | hd
      · exact g2 d hd
      rw [hd];simp only [length_append,length_take,length_drop];omega
    · have:=hl;simp only [Array.length_toList,g6] at this
      simp only [List.size_toArray,length_append,length_take,length_drop,Array.length_toList,g6];omega
    rw [<- Gz g2 hk hj,<- g7,hoff]
    have hcl2:cur.toList.length=c'*sz:=by simp [g6]
    have hA:(List.take (k*sz+j) cur.toList).length=k*sz+j:=by rw [length_take,hcl2];omega
    rw [GA (by rw [hA];omega),hA]
    have a1:List.take (k*sz+j) (List.take (n*sz) cur.toList)=List.take (k*sz+j) cur.toList:=by rw [List.take_take,Nat.min_eq_left (by omega)]
    have a2:List.drop (k*sz+j+vs.length) (List.take (n*sz) cur.toList)=List.take (n*sz - (k*sz+j+vs.length)) (List.drop (k*sz+j+vs.length) cur.toList):=by rw [List.drop_take]
    rw [a1,a2]
  obtain ⟨hi',hk'⟩:=hi.turn (r:=Ja.row (some ⟨b,0,none⟩) n c' T sz css) (r':=Ja.row (some ⟨b,0,none⟩) n c' T sz (css.set k (cs.take j++vs++cs.drop (j+vs.length)))) hρ rfl rfl e1 e2 hsays e4 e5 e6 (oA _ _ _ _ _ hrun)
  rw [<- hρ'] at hi'
  exact hkk _ _ _ hi' hk' (h _ hk')
end
section
variable {β:Jc} {n:Nat} {ops:Array Oper} {o:Oper} {Z:Ma} {ρ:List Ja} {O:Kr} {c:Bool} {K:Yb} {rest:List Oper} {f d:Nat} {l:List Operand} {ts:Array Nat} {args:List Value} {u:Value}
theorem wl_fun (hg:o.guard=none) (hd:o.dst=some d) (hlt:Nat.blt d n=true) (ho:o.op=.call { callee:=.value (.func f),args:=l.toArray,argTypes:=ts })
    (ha:l.map (ev Z)=args) (hc:Rc f args O fun v _=>v=u) (h:∀ O',Sa O O'->WL β n ops rest K (upd Z d u) ρ O'):WL β n ops (o::rest) K Z ρ O :=
  A0 hg hd hlt (oG ho ha hc fun v O' hk hv=>by subst hv;exact h O' hk)
theorem ar2 {x y:Operand} {v u:Value} (h:Ev Z c x v) (h2:Ev Z c y u):c=true->[x,y].map (ev Z)=[v,u]:=fun hc=>by simp [h hc,h2 hc]
end
def Xe (O:Kr):Prop:=Sh O 0 0 [.int .i64 2,.int .i64 4,.int .i64 6,.int .i64 8]/\(O.S 4/\Lib.TabIs Tryz.prog O.w "internal/strconv.uint64pow10" .u64 Lib.pow10Tab)
theorem Xe.mono {O O':Kr} (h:Xe O) (k:Sa O O'):Xe O':=⟨Sh.mono h.1 k,k.sh _ h.2.1,by
 have h2:=h.2.2
 unfold Lib.TabIs World.var? at *
 rw [show Tryz.prog.globalNamed "internal/strconv.uint64pow10" = some 4 by kernel_rfl] at *
 rw [fP] at *
 rw [k.keep _ h.2.1];exact h2⟩
theorem gok_len {O:Kr} (h:Xe O):Sh O 0 0 [.int .i64 2,.int .i64 4,.int .i64 6,.int .i64 8]:=h.1
theorem gok_pow {O:Kr} (h:Xe O):Lib.TabIs Tryz.prog O.w "internal/strconv.uint64pow10" .u64 Lib.pow10Tab:=h.2.2
def sM:Value->Bool
 | .string s=>Nat.ble s.size 140737488355328
 | _=>true
inductive PV where
 | any:PV
 | v (x:Value):PV
 | agg (cs:List PV):PV
 | slc (n:Nat) (xs:List (List PV)):PV
 | tup (vs:List PV):PV
 | ref (cs:List PV) (off:Nat):PV
 | fn (f:Nat) (caps:List PV):PV
 | ifc (t:Nat) (p:PV):PV
def Je (ds:List Value):Prop:=∀ u∈ds,u.oneCell'=true
def Wf (dss:List (List Value)):Prop:=∀ ds∈dss,Je ds
mutual
inductive Rp (O:Kr):PV->Value->Prop
 | any {x:Value}:Rp O .any x
 | v {x:Value} (h:sM x=true):Rp O (.v x) x
 | agg {cs:List PV} {ds:List Value} (h1:Je ds) (h:Xb O cs ds):Rp O (.agg cs) (.agg ds.toArray)
 | slc {xs:List (List PV)} {a:Option Addr} {n c sz:Nat} {css:List (List Value)} (h:Sl O a n c sz css) (hb:n<=140737488355328) (h1:Wf css) (hs:Mb O xs css):Rp O (.slc n xs) (.slice a n c)
 | tup {vs:List PV} {ws:List Value} (h:Xb O vs ws):Rp O (.tup vs) (.tuple ws.toArray)
 | ref {cs:List PV} {ds:List Value} {b off k:Nat} (h:Sh O b off ds) (h1:Je ds) (hs:Xb O cs ds):Rp O (.ref cs k) (.pointer (some ⟨b,off+k,none⟩))
 | fn {f:Nat} {caps:List PV} {ds:List Value} (h:Xb O caps ds):Rp O (.fn f caps) (.func (.func f) #[] ds.toArray)
 | ifc {t:Nat} {p:PV} {v:Value} (h:Rp O p v):Rp O (.ifc t p) (.iface t v)
inductive Xb (O:Kr):List PV->List Value->Prop
 | nil:Xb O [] []
 | cons {p:PV} {v:Value} {ps:List PV} {vs:List Value} (h:Rp O p v) (hs:Xb O ps vs):Xb O (p::ps) (v::vs)
inductive Mb (O:Kr):List (List PV)->List (List Value)->Prop
 | nil:Mb O [] []
 | cons {p:List PV} {v:List Value} {ps:List (List PV)} {vs:List (List Value)} (h:Xb O p v) (hs:Mb O ps vs):Mb O (p::ps) (v::vs)
end
mutual
theorem Rp.mono {O O':Kr} (k:Sa O O'):∀ {p:PV} {v:Value},Rp O p v->Rp O' p v
 | _,_,.any=>.any
 | _,_,.v h=>.v h
 | _,_,.agg h1 h=>.agg h1 (Xb.mono k h)
 | _,_,.slc h hb h1 hs=>.slc (h.mono k) hb h1 (Mb.mono k hs)
 | _,_,.tup h=>.tup (Xb.mono k h)
 | _,_,.ref h h1 hs=>.ref (h.mono k) h1 (Xb.mono k hs)
 | _,_,.fn h=>.fn (Xb.mono k h)
 | _,_,.ifc h=>.ifc (Rp.mono k h)
theorem Xb.mono {O O':Kr} (k:Sa O O'):∀ {p:List PV} {v:List Value},Xb O p v->Xb O' p v
 | _,_,.nil=>.nil
 | _,_,.cons h hs=>.cons (Rp.mono k h) (Xb.mono k hs)
theorem Mb.mono {O O':Kr} (k:Sa O O'):∀ {p:List (List PV)} {v:List (List Value)},Mb O p v->Mb O' p v
 | _,_,.nil=>.nil
 | _,_,.cons h hs=>.cons (Xb.mono k h) (Mb.mono k hs)
end
section
variable {O:Kr}
theorem Rp.val {x v:Value} (h:Rp O (.v x) v):v=x:=by cases h;rfl
theorem Rp.ok {x v:Value} (h:Rp O (.v x) v):sM x=true:=by cases h;assumption
theorem Xb.len:∀ {ps:List PV} {vs:List Value},Xb O ps vs->ps.length=vs.length
 | _,_,.nil=>rfl
 | _,_,.cons _ hs=>by simp [hs.len]
theorem Mb.len:∀ {ps:List (List PV)} {vs:List (List Value)},Mb O ps vs->ps.length=vs.length
 | _,_,.nil=>rfl
 | _,_,.cons _ hs=>by simp [hs.len]
theorem Xb.get:∀ {ps:List PV} {vs:List Value} {k:Nat} {p:PV},Xb O ps vs->ps[k]?=some p->∃ v,vs[k]?=some v/\Rp O p v
 | _,_,0,_,.cons h _,e=>by simp only [List.getElem?_cons_zero,gn] at e;subst e;exact ⟨_,rfl,h⟩
 | _,_,_+1,_,.cons _ hs,e=>by simp only [List.getElem?_cons_succ] at e ⊢;exact hs.get e
theorem Mb.get:∀ {ps:List (List PV)} {vs:List (List Value)} {k:Nat} {p:List PV},Mb O ps vs->ps[k]?=some p->∃ v,vs[k]?=some v/\Xb O p v
 | _,_,0,_,.cons h _,e=>by simp only [List.getElem?_cons_zero,gn] at e;subst e;exact ⟨_,rfl,h⟩
 | _,_,_+1,_,.cons _ hs,e=>by simp only [List.getElem?_cons_succ] at e ⊢;exact hs.get e
theorem Xb.app:∀ {ps qs:List PV} {vs ws:List Value},Xb O ps vs->Xb O qs ws->Xb O (ps++qs) (vs++ws)
 | _,_,_,_,.nil,h=>h
 | _,_,_,_,.cons h hs,g=>.cons h (hs.app g)
theorem Mb.app:∀ {ps qs:List (List PV)} {vs ws:List (List Value)},Mb O ps vs->Mb O qs ws->Mb O (ps++qs) (vs++ws)
 | _,_,_,_,.nil,h=>h
 | _,_,_,_,.cons h hs,g=>.cons h (hs.app g)
theorem Xb.drop:∀ {ps:List PV} {vs:List Value} (k:Nat),Xb O ps vs->Xb O (ps.drop k) (vs.drop k)
 | _,_,0,h=>h
 | _,_,_+1,.nil=>.nil
 | _,_,k+1,.cons _ hs=>hs.drop k
theorem Xb.take:∀ {ps:List PV} {vs:List Value} (k:Nat),Xb O ps vs->Xb O (ps.take k) (vs.take k)
 | _,_,0,_=>.nil
 | _,_,_+1,.nil=>.nil
 | _,_,k+1,.cons h hs=>.cons h (hs.take k)
theorem Mb.drop:∀ {ps:List (List PV)} {vs:List (List Value)} (k:Nat),Mb O ps vs->Mb O (ps.drop k) (vs.drop k)
 | _,_,0,h=>h
 | _,_,_+1,.nil=>.nil
 | _,_,k+1,.cons _ hs=>hs.drop k
theorem Mb.take:∀ {ps:List (List PV)} {vs:List (List Value)} (k:Nat),Mb O ps vs->Mb O (ps.take k) (vs.take k)
 | _,_,0,_=>.nil
 | _,_,_+1,.nil=>.nil
 | _,_,k+1,.cons h hs=>.cons h (hs.take k)
theorem Xb.set:∀ {ps:List PV} {vs:List Value} {k:Nat} {p:PV} {v:Value},Xb O ps vs->Rp O p v->Xb O (ps.set k p) (vs.set k v)
 | _,_,_,_,_,.nil,_=>.nil
 | _,_,0,_,_,.cons _ hs,g=>.cons g hs
 | _,_,_+1,_,_,.cons h hs,g=>.cons h (hs.set g)
theorem Mb.set:∀ {ps:List (List PV)} {vs:List (List Value)} {k:Nat} {p:List PV} {v:List Value},Mb O ps vs->Xb O p v->Mb O (ps.set k p) (vs.set k v)
 | _,_,_,_,_,.nil,_=>.nil
 | _,_,0,_,_,.cons _ hs,g=>.cons g hs
 | _,_,_+1,_,_,.cons h hs,g=>.cons h (hs.set g)
theorem Mb.flat:∀ {ps:List (List PV)} {vs:List (List Value)},Mb O ps vs->Xb O ps.flatten vs.flatten
 | _,_,.nil=>.nil
 | _,_,.cons h hs=>by simp only [flatten_cons];exact h.app hs.flat
theorem Xb.nil_inv {vs:List Value} (h:Xb O [] vs):vs=[]:=by cases h;rfl
theorem Mb.nil_inv {vs:List (List Value)} (h:Mb O [] vs):vs=[]:=by cases h;rfl
theorem Xb.cons_inv {p:PV} {ps:List PV} {vs:List Value} (h:Xb O (p::ps) vs):∃ v ws,vs=v::ws/\Rp O p v/\Xb O ps ws:=by cases h;exact ⟨_,_,rfl,by assumption,by assumption⟩
theorem Mb.cons_inv {p:List PV} {ps:List (List PV)} {vs:List (List Value)} (h:Mb O (p::ps) vs):∃ v ws,vs=v::ws/\Xb O p v/\Mb O ps ws:=by cases h;exact ⟨_,_,rfl,by assumption,by assumption⟩
end
def oc:PV->Bool
 | .v x=>x.oneCell'
 | .slc _ _ | .ref _ _ | .fn _ _ | .ifc _ _=>true
 | _=>false
def kp:PV->Option (List PV)
 | .agg cs=>some cs
 | .v x=>cond (x.oneCell') (some [.v x]) none
 | .slc n xs=>some [.slc n xs]
 | .ref cs k=>some [.ref cs k]
 | .fn f cs=>some [.fn f cs]
 | .ifc t p=>some [.ifc t p]
 | _=>none
theorem Rp.cells {O:Kr} {p:PV} {v:Value} {cs:List PV} (h:Rp O p v) (hc:kp p=some cs):∃ ds,cn v=ds/\Xb O cs ds/\Je ds:=by
 cases h with
 | any=>cases hc
 | v hx =>
  simp only [kp] at hc
  cases ho:v.oneCell' with
  | false=>rw [ho] at hc;cases hc
  | true =>
   rw [ho] at hc;simp only [cQ,gn] at hc;subst hc
   refine ⟨[v],?_,.cons (.v hx) .nil,?_⟩
   ·cases v <;> first | rfl | cases ho
   ·intro u hu;rw [List.mem_singleton.1 hu];exact ho
 | agg h1 h=>simp only [kp,gn] at hc;subst hc;exact ⟨_,rfl,h,h1⟩
 | slc h hb h1 hs=>simp only [kp,gn] at hc;subst hc;exact ⟨_,rfl,.cons (.slc h hb h1 hs) .nil,fun u hu=>by have e:=List.mem_singleton.1 hu;rw [e];rfl⟩
 | tup=>cases hc
 | ref h h1 hs=>simp only [kp,gn] at hc;subst hc;exact ⟨_,rfl,.cons (.ref h h1 hs) .nil,fun u hu=>by have e:=List.mem_singleton.1 hu;rw [e];rfl⟩
 | fn h=>simp only [kp,gn] at hc;subst hc;exact ⟨_,rfl,.cons (.fn h) .nil,fun u hu=>by have e:=List.mem_singleton.1 hu;rw [e];rfl⟩
 | ifc h=>simp only [kp,gn] at hc;subst hc;exact ⟨_,rfl,.cons (.ifc h) .nil,fun u hu=>by have e:=List.mem_singleton.1 hu;rw [e];rfl⟩
def my (t:Nat) (cs:List PV):Option PV :=
 match fQ t,iE t with
 | some d,some (_,sz,_)=>cond (oF d) (cond (Nat.ble sz cs.length) (some (.agg (cs.take sz))) none) cs[0]?
 | _,_=>none
theorem Bj {O:Kr} {t:Nat} {cs:List PV} {ds:List Value} {pv:PV} (h:Xb O cs ds) (h1:Je ds) (hr:my t cs=some pv):∃ v,mw t ds 0=some v/\Rp O pv v:=by
 unfold my at hr;unfold mw
 split at hr
 ·rename_i d z sz b hd hi
  try rw [hd,hi]
  try simp only
  cases hag:oF d
  ·rw [hag] at hr;simp only [dq] at hr ⊢
   obtain ⟨v,hv,hp⟩:=h.get hr
   exact ⟨v,hv,hp⟩
  rw [hag] at hr;simp only [cQ] at hr ⊢
  cases hle:Nat.ble sz cs.length
  ·rw [hle] at hr;cases hr
  rw [hle] at hr;simp only [cQ,gn] at hr;subst hr
  have hl:=h.len
  rw [zero_add,<- hl,hle]
  simp only [cQ,List.drop_zero]
  exact ⟨_,rfl,.agg (fun u hu=>h1 u (mem_of_mem_take hu)) (h.take sz)⟩
 cases hr
abbrev Xa:=Nat->PV
def ig (Z:Xa) (d:Nat) (v:PV):Xa:=fun t=>cond (Nat.beq t d) v (Z t)
def aw (Z:Xa):List (Nat×PV)->Xa
 | []=>Z
 | (d,v)::l=>ig (aw Z l) d v
def pc (x:Value):PV:=match x with
 | .agg cs=>.agg (cs.toList.map fun x=>cond (sM x) (.v x) .any)
 | x=>cond (sM x) (.v x) .any
def pev (Z:Xa):Operand->PV
 | .tmp t=>Z t
 | .const x=>pc x
 | .global g=>.v (.pointer (some ⟨g,0,none⟩))
 | .func f=>.fn f []
def Bk (args:List PV):Xa:=fun t=>args.getD t .any
def Xc (O:Kr) (σp:Xa) (Z:Ma):Prop:=∀ t,Rp O (σp t) (Z t)
section
variable {O O':Kr} {σp:Xa} {Z:Ma}
theorem Xc.mono (h:Xc O σp Z) (k:Sa O O'):Xc O' σp Z:=fun t=>(h t).mono k
theorem Xc.upd {d:Nat} {p:PV} {v:Value} (h:Xc O σp Z) (hp:Rp O p v):Xc O (ig σp d p) (upd Z d v):=fun t=>by
 unfold ig SX.upd;cases Nat.beq t d
 ·exact h t
 exact hp
theorem EQ {d:Nat} {v:PV} (h:σp d=v):ig σp d v=σp:=by
 funext t;unfold ig;cases e:Nat.beq t d
 ·rfl
 rw [eq_of_beq_eq_true e,h];rfl
theorem zV {x:Value}:Rp O (cond (sM x) (.v x) .any) x:=by cases e:sM x;exact .any;exact .v e
theorem lV:∀ (l:List Value),Xb O (l.map fun x=>cond (sM x) (.v x) .any) l
 | []=>.nil
 | _::l=>.cons zV (lV l)
end
def zW:Value->Bool
 | .agg cs=>cs.toList.all Value.oneCell'
 | _=>true
def pc' (x:Value):PV:=cond (zW x) (pc x) .any
theorem rp_pc {O:Kr} (x:Value):Rp O (pc' x) x:=by
 unfold pc'
 cases e:zW x
 ·exact .any
 simp only [cQ]
 unfold pc
 split
 ·rename_i cs
  have h:=lV (O:=O) cs.toList
  have:(Value.agg cs)=.agg cs.toList.toArray:=by simp
  rw [this]
  refine .agg (fun u hu=>?_) (by simpa using h)
  simp only [zW] at e
  exact List.all_eq_true.1 e u (by simpa using hu)
 exact zV
def bt (Z:Xa):Operand->PV
 | .tmp t=>Z t
 | .const x=>pc' x
 | .global g=>.v (.pointer (some ⟨g,0,none⟩))
 | .func f=>.fn f []
theorem Xc.ev {O:Kr} {σp:Xa} {Z:Ma} (h:Xc O σp Z) (x:Operand):Rp O (bt σp x) (ev Z x):=by
 cases x with
 | tmp t=>exact h t
 | const x=>exact rp_pc x
 | global g=>exact .v rfl
 | func f=>exact .fn (ds:=[]) .nil
theorem lm {O:Kr} {σp:Xa} {Z:Ma} (h:Xc O σp Z):∀ (l:List Operand),Xb O (l.map (bt σp)) (l.map (SX.ev Z))
 | []=>.nil
 | x::l=>.cons (h.ev x) (lm h l)
theorem sim0 {O:Kr} {pargs:List PV} {args:List Value} (h:Xb O pargs args):Xc O (Bk pargs) (F3 args.toArray):=fun t=>by
 unfold Bk F3
 simp only [List.getD_eq_getElem?_getD]
 cases e:pargs[t]? with
 | none=>exact .any
 | some p =>
  obtain ⟨v,hv,hp⟩:=h.get e
  simp only [hv,Option.getD_some];exact hp
inductive Ud (O:Kr):List (Value×PV)->List MapEntry->Prop
 | nil:Ud O [] []
 | cons {p:PV} {e:MapEntry} {ps:List (Value×PV)} {es:List MapEntry} (h:Rp O p e.val) (hs:Ud O ps es):Ud O ((e.key,p)::ps) (e::es)
theorem Ud.mono {O O':Kr} (k:Sa O O'):∀ {ps:List (Value×PV)} {es:List MapEntry},Ud O ps es->Ud O' ps es
 | _,_,.nil=>.nil
 | _,_,.cons h hs=>.cons (h.mono k) (hs.mono k)
structure Xd (es:List MapEntry) (clock:Nat):Prop where
 nd:es.Pairwise fun a b=>a.key≠b.key
 bn:es.Pairwise fun a b=>a.born≠b.born
 lt:∀ e∈es,e.born<clock
def Ja.mp (mo:Option Nat) (es:List MapEntry) (clock:Nat):Ja:=⟨mo,fun o=>match mo with | none=>True | some _=>o=some (.map es.toArray clock)⟩
inductive Qa where
 | mp (mo:Option Nat) (kvs:List (Value×PV)):Qa
 | mpo (b:Nat) (kvs:List (Value×PV)) (i n:Nat):Qa
 | b (b T:Nat) (cs:List PV):Qa
 | row (a:Option Addr) (n c T sz:Nat) (css:List (List PV)):Qa
 | frz (a:Option Addr) (n c:Nat) (css:List (List PV)):Qa
 | frb (b:Nat) (cs:List PV):Qa
 | raw (r:Ja):Qa
def xf:Ja:=⟨none,fun _=>True⟩
inductive Nd (O:Kr):Qa->Ja->Prop
 | mp {mo:Option Nat} {kvs:List (Value×PV)} {es:List MapEntry} {clock:Nat} (hn:mo=none->es=[]) (hw:Xd es clock) (h:Ud O kvs es):Nd O (.mp mo kvs) (Ja.mp mo es clock)
 | mpo {b i n:Nat} {kvs:List (Value×PV)} {es:List MapEntry} {clock:Nat} (hw:Xd es clock) (h:Ud O kvs es) (hi:(es[i]?).map (·.born)=some n):Nd O (.mpo b kvs i n) (Ja.mp (some b) es clock)
 | b {b T:Nat} {cs:List PV} {ds:List Value} (h1:Je ds) (h:Xb O cs ds):Nd O (.b b T cs) (Ja.b b T ds)
 | row {a:Option Addr} {n c T sz:Nat} {css:List (List PV)} {dss:List (List Value)} (hb:n<=140737488355328) (h1:Wf dss) (h:Mb O css dss):Nd O (.row a n c T sz css) (Ja.row a n c T sz dss)
 | frz {a:Option Addr} {n c sz:Nat} {css:List (List PV)} {dss:List (List Value)} (hs:Sl O a n c sz dss) (hb:n<=140737488355328) (h1:Wf dss) (h:Mb O css dss):Nd O (.frz a n c css) xf
 | frb {b:Nat} {cs:List PV} {ds:List Value} (hs:Sh O b 0 ds) (h1:Je ds) (h:Xb O cs ds):Nd O (.frb b cs) xf
 | raw {r:Ja}:Nd O (.raw r) r
inductive Ta (O:Kr):List Qa->List Ja->Prop
 | nil:Ta O [] []
 | cons {p:Qa} {r:Ja} {ps:List Qa} {rs:List Ja} (h:Nd O p r) (hs:Ta O ps rs):Ta O (p::ps) (r::rs)
section
variable {O O':Kr}
theorem Nd.mono {p:Qa} {r:Ja} (h:Nd O p r) (k:Sa O O'):Nd O' p r:=by
 cases h with
 | mp hn hw h=>exact .mp hn hw (h.mono k)
 | mpo hw h hi=>exact .mpo hw (h.mono k) hi
 | b h1 h=>exact .b h1 (h.mono k)
 | row hb h1 h=>exact .row hb h1 (h.mono k)
 | frz hs hb h1 h=>exact .frz (hs.mono k) hb h1 (h.mono k)
 | frb hs h1 h=>exact .frb (hs.mono k) h1 (h.mono k)
 | raw=>exact .raw
theorem Ta.mono (k:Sa O O'):∀ {ps:List Qa} {rs:List Ja},Ta O ps rs->Ta O' ps rs
 | _,_,.nil=>.nil
 | _,_,.cons h hs=>.cons (h.mono k) (hs.mono k)
theorem Ta.app:∀ {ps qs:List Qa} {vs ws:List Ja},Ta O ps vs->Ta O qs ws->Ta O (ps++qs) (vs++ws)
 | _,_,_,_,.nil,h=>h
 | _,_,_,_,.cons h hs,g=>.cons h (hs.app g)
theorem Ta.split:∀ {ps qs:List Qa} {rs:List Ja},Ta O (ps++qs) rs->∃ r1 r2,rs=r1++r2/\Ta O ps r1/\Ta O qs r2
 | [],_,rs,h=>⟨[],rs,rfl,.nil,h⟩
 | _::ps,_,_,.cons h hs=>by
  obtain ⟨r1,r2,rfl,h1,h2⟩:=Ta.split (ps:=ps) hs
  exact ⟨_::r1,r2,rfl,.cons h h1,h2⟩
theorem Ta.perm {ps qs:List Qa} (hp:ps.Perm qs):∀ {rs:List Ja},Ta O ps rs->∃ rs',rs.Perm rs'/\Ta O qs rs':=by
 induction hp with
 | nil=>exact fun h=>⟨_,List.Perm.refl _,h⟩
 | cons x _ ih =>
  intro rs h;cases h with
  | cons h hs=>obtain ⟨rs',h1,h2⟩:=ih hs;exact ⟨_::rs',List.Perm.cons _ h1,.cons h h2⟩
 | swap x y l =>
  intro rs h;cases h with
  | cons h hs=>cases hs with
   | cons h' hs=>exact ⟨_,List.Perm.swap _ _ _,.cons h' (.cons h hs)⟩
 | trans _ _ ih1 ih2 =>
  intro rs h
  obtain ⟨r1,h1,h2⟩:=ih1 h
  obtain ⟨r2,h3,h4⟩:=ih2 h2
  exact ⟨r2,h1.trans h3,h4⟩
theorem Ta.mem:∀ {ps:List Qa} {rs:List Ja} {p:Qa},Ta O ps rs->p∈ps->∃ r∈rs,Nd O p r
 | _,_,_,.cons h hs,hm=>by
  rcases List.mem_cons.1 hm with rfl | hm
  ·exact ⟨_,by simp,h⟩
  obtain ⟨r,h1,h2⟩:=hs.mem hm;exact ⟨r,by simp [h1],h2⟩
theorem Ta.nil_inv {rs:List Ja} (h:Ta O [] rs):rs=[]:=by cases h;rfl
theorem Ta.cons_inv {p:Qa} {ps:List Qa} {rs:List Ja} (h:Ta O (p::ps) rs):∃ r rs',rs=r::rs'/\Nd O p r/\Ta O ps rs':=by cases h;exact ⟨_,_,rfl,by assumption,by assumption⟩
end
def Ub (ρ:List Qa) (r:Qa) (l:List Qa):Prop:=ρ.Perm (r::l)
theorem aN {r:Qa} {l:List Qa}:Ub (r::l) r l:=List.Perm.refl _
theorem aC {r s:Qa} {l l':List Qa} (h:Ub l r l'):Ub (s::l) r (s::l'):=(List.Perm.cons s h).trans (List.Perm.swap r s l')
def Vb (ρ' ρ:List Qa):Prop:=∃ l,ρ.Perm (ρ'++l)
theorem bq {ρ:List Qa}:Vb [] ρ:=⟨ρ,List.Perm.refl _⟩
theorem bg {r:Qa} {ρ ρ' l:List Qa} (h:Ub ρ r l) (h':Vb ρ' l):Vb (r::ρ') ρ:=by
 obtain ⟨m,hm⟩:=h'
 exact ⟨m,h.trans (List.Perm.cons r hm)⟩
theorem Ta.pick {O:Kr} {ps l:List Qa} {p:Qa} {rs:List Ja} (h:Ta O ps rs) (hp:Ub ps p l):∃ r l',Sd rs r l'/\Nd O p r/\Ta O l l':=by
 obtain ⟨rs',h1,h2⟩:=h.perm hp
 obtain ⟨r,l',rfl,h3,h4⟩:=h2.cons_inv
 exact ⟨r,l',h1,h3,h4⟩
theorem Ta.sub {O:Kr} {ps ps':List Qa} {rs:List Ja} (h:Ta O ps rs) (hp:Vb ps' ps):∃ rs',Kd rs' rs/\Ta O ps' rs':=by
 obtain ⟨l,hl⟩:=hp
 obtain ⟨rs',h1,h2⟩:=h.perm hl
 obtain ⟨r1,r2,rfl,h3,h4⟩:=h2.split
 exact ⟨r1,⟨r2,h1⟩,h3⟩
theorem Vb.trans {a b c:List Qa} (h:Vb a b) (k:Vb b c):Vb a c:=by
 obtain ⟨l,hl⟩:=h;obtain ⟨m,hm⟩:=k
 exact ⟨l++m,hm.trans (by rw [<- append_assoc];exact List.Perm.append_right m hl)⟩
def Nc (ρ:List Qa) (r r':Qa) (ρ':List Qa):Prop:=∃ l1 l2,ρ=l1++r::l2/\ρ'=l1++r'::l2
theorem bT {r r':Qa} {l:List Qa}:Nc (r::l) r r' (r'::l):=⟨[],l,rfl,rfl⟩
theorem cE {r r' s:Qa} {l l':List Qa} (h:Nc l r r' l'):Nc (s::l) r r' (s::l'):=by
 obtain ⟨l1,l2,h1,h2⟩:=h
 exact ⟨s::l1,l2,by rw [h1];rfl,by rw [h2];rfl⟩
theorem Ta.upd {O:Kr} {ps ps':List Qa} {p p':Qa} {rs:List Ja} (h:Ta O ps rs) (hu:Nc ps p p' ps'):∃ r l1 l2,rs=l1++r::l2/\Nd O p r/\∀ O' r',Sa O O'->Nd O' p' r'->Ta O' ps' (l1++r'::l2):=by
 obtain ⟨m1,m2,rfl,rfl⟩:=hu
 obtain ⟨r1,r2,rfl,h1,h2⟩:=h.split
 obtain ⟨r,r3,rfl,h3,h4⟩:=h2.cons_inv
 exact ⟨r,r1,r3,rfl,h3,fun O' r' k hr=>(h1.mono k).app (.cons hr (h4.mono k))⟩
abbrev Ua:=Xa->List Qa->Prop
def lft (K:Ua):Yb:=fun Z ρ O=>∃ σp ρp,Xc O σp Z/\Ta O ρp ρ/\K σp ρp
def Wa (n:Nat) (ops:Array Oper) (l:List Oper) (K:Ua) (σp:Xa) (ρp:List Qa):Prop :=
 ∀ β O Z ρ,Xe O->Xc O σp Z->Ta O ρp ρ->WL β n ops l (lft K) Z ρ O
def Ka (n:Nat) (c:Code) (K:Exit->Ua) (σp:Xa) (ρp:List Qa):Prop :=
 ∀ β O Z ρ,Xe O->Xc O σp Z->Ta O ρp ρ->WC β n c (fun e=>lft (K e)) Z ρ O
def Vc (n:Nat) (ops:Array Oper) (K:Ua) (lo:List (Nat×Oper)) (σp:Xa) (ρd ρs:List Qa):Prop :=
 ∀ β O Z rd rs,Xe O->Xc O σp Z->Ta O ρd rd->Ta O ρs rs->WD β n ops (lft K) lo Z rd rs O
def Qb (o:Oper) (σp:Xa) (ρp:List Qa) (K:PV->List Qa->Prop):Prop :=
 ∀ O Z ρ,Xe O->Xc O σp Z->Ta O ρp ρ->Lc o Z ρ O fun v ρ' O'=>∃ pv ρp',Rp O' pv v/\Ta O' ρp' ρ'/\K pv ρp'
def Na (c:Bool) (o:Oper) (σp:Xa) (ρp:List Qa) (pv:PV):Prop :=
 ∀ O Z ρ,Xe O->Xc O σp Z->Ta O ρp ρ->∃ v,(c=true->Rp O pv v)/\Rb c o Z ρ O v
@[irreducible] def pgv (c:Bool) (p:PV):PV:=cond c p (.v undef)
theorem lp (p:PV):pgv true p=p:=by unfold pgv;rfl
theorem y7 (p:PV):pgv false p=.v undef:=by unfold pgv;rfl
theorem y9 {O:Kr} {c:Bool} {p:PV} {v:Value} (h:c=true->Rp O p v):Rp O (pgv c p) (gv c v):=by
 cases c
 ·rw [y7,ko];exact .v rfl
 rw [lp,nq];exact h rfl
def Pa (ops:Array Oper) (σp:Xa) (o:Oper) (c:Bool):Prop:=∀ O Z,Xc O σp Z->Wb ops Z o c
section
variable {ops:Array Oper} {Z:Xa} {o:Oper} {j d:Nat} {p c:Bool}
theorem gP (h:o.guard=some (j,true)) (hd:(ops[j]?).bind (·.dst)=some d) (hs:Z d=.v (.bool p)):Pa ops Z o p:=fun O Z' hm=>qu h hd (by have:=hm d;rw [hs] at this;exact this.val)
theorem jM (h:o.guard=some (j,false)) (hd:(ops[j]?).bind (·.dst)=some d) (hs:Z d=.v (.bool p)):Pa ops Z o (!p):=fun O Z' hm=>DF h hd (by have:=hm d;rw [hs] at this;exact this.val)
theorem GB {O:Kr} {x w:Value} (h:Rp O (pgv c (.v x)) w):w=gv c x:=by
 cases c
 ·rw [y7] at h;rw [ko];exact h.val
 rw [lp] at h;rw [nq];exact h.val
theorem ER (h:o.guard=some (j,true)) (hd:(ops[j]?).bind (·.dst)=some d) (hs:Z d=pgv c (.v (.bool p))):Pa ops Z o (c&&p):=fun O Z' hm=>Ga h hd (by have:=hm d;rw [hs] at this;exact GB this)
theorem ES (h:o.guard=some (j,false)) (hd:(ops[j]?).bind (·.dst)=some d) (hs:Z d=pgv c (.v (.bool p))):Pa ops Z o (c && !p):=fun O Z' hm=>Gb h hd (by have:=hm d;rw [hs] at this;exact GB this)
end
def Ra (Z:Xa) (c:Bool) (x:Operand) (p:PV):Prop:=c=true->bt Z x=p
theorem Ra.p {Z:Xa} {c:Bool} {x:Operand} {v:PV} (h:bt Z x=v):Ra Z c x v:=fun _=>h
theorem Ra.g {Z:Xa} {c:Bool} {x:Operand} {v:PV} (h:bt Z x=pgv c v):Ra Z c x v:=fun hc=>by rw [h,hc,lp]
theorem Xc.pe {O:Kr} {σp:Xa} {Z:Ma} {c:Bool} {x:Operand} {p:PV} (h:Xc O σp Z) (hx:Ra σp c x p):c=true->Rp O p (SX.ev Z x):=fun hc=>by have:=h.ev x;rwa [hx hc] at this
theorem Xc.ve {O:Kr} {σp:Xa} {Z:Ma} {c:Bool} {x:Operand} {y:Value} (h:Xc O σp Z) (hx:Ra σp c x (.v y)):Ev Z c x y:=fun hc=>(h.pe hx hc).val
theorem Xc.v1 {O:Kr} {σp:Xa} {Z:Ma} {x:Operand} {y:Value} (h:Xc O σp Z) (hx:bt σp x=.v y):SX.ev Z x=y:=by have:=h.ev x;rw [hx] at this;exact this.val
theorem Lc.mono {o:Oper} {Z:Ma} {ρ:List Ja} {O:Kr} {K K':Value->List Ja->Kr->Prop} (h:Lc o Z ρ O K) (hk:∀ v ρ' O',Sa O O'->K v ρ' O'->K' v ρ' O'):Lc o Z ρ O K' :=
 fun β hi Nx hn=>h β hi Nx fun v ρ' O' h1 h2 h3=>hn v ρ' O' h1 h2 (hk v ρ' O' h2 h3)
section
variable {n:Nat} {ops:Array Oper} {o:Oper} {rest:List Oper} {K:Ua} {Z:Xa} {ρ:List Qa} {d:Nat} {p:PV} {c:Bool}
theorem au (h:K Z ρ):Wa n ops [] K Z ρ:=fun _ _ _ _ _ hs hr=>eM ⟨Z,ρ,hs,hr,h⟩
theorem cg (hg:o.guard=none) (hd:o.dst=some d) (hlt:Nat.blt d n=true) (h:Na true o Z ρ p) (hw:Wa n ops rest K (ig Z d p) ρ):Wa n ops (o::rest) K Z ρ:=fun β O Z' ρ' g hs hr=>by
 obtain ⟨v,h1,h2⟩:=h O Z' ρ' g hs hr
 exact gp hg hd hlt h2 (hw β O _ _ g (hs.upd (h1 rfl)) hr)
theorem tq (hg:Pa ops Z o c) (hd:o.dst=some d) (hlt:Nat.blt d n=true) (h:Na c o Z ρ p) (hw:Wa n ops rest K (ig Z d (pgv c p)) ρ):Wa n ops (o::rest) K Z ρ:=fun β O Z' ρ' g hs hr=>by
 obtain ⟨v,h1,h2⟩:=h O Z' ρ' g hs hr
 exact wS (hg O Z' hs) hd hlt h2 (hw β O _ _ g (hs.upd (y9 h1)) hr)
theorem p5 (hg:o.guard=none) (hd:o.dst=some d) (hlt:Nat.blt d n=true) (h:Qb o Z ρ fun p ρ'=>Wa n ops rest K (ig Z d p) ρ'):Wa n ops (o::rest) K Z ρ:=fun β O Z' ρ' g hs hr =>
 A0 hg hd hlt ((h O Z' ρ' g hs hr).mono fun v ρ1 κ1 hk ⟨pv,ρp,h1,h2,h3⟩=>h3 β κ1 _ _ (g.mono hk) ((hs.mono hk).upd h1) h2)
theorem aM (hg:o.guard=none) (hd:o.dst=none) (h:Qb o Z ρ fun _ ρ'=>Wa n ops rest K Z ρ'):Wa n ops (o::rest) K Z ρ:=fun β O Z' ρ' g hs hr =>
 DH hg hd ((h O Z' ρ' g hs hr).mono fun v ρ1 κ1 hk ⟨pv,ρp,h1,h2,h3⟩=>h3 β κ1 _ _ (g.mono hk) (hs.mono hk) h2)
end
def La (f:Nat) (pargs:List PV) (ρp:List Qa) (R:PV->List Qa->Prop):Prop :=
 ∀ O args ρ,Xe O->Xb O pargs args->Ta O ρp ρ->Re f args ρ O fun v ρ' O'=>∃ pv ρp',Rp O' pv v/\Ta O' ρp' ρ'/\R pv ρp'
def PF (f:Nat) (pargs:List PV) (r:PV):Prop:=∀ O args,Xe O->Xb O pargs args->Rc f args O fun v O'=>Rp O' r v
theorem aV {f:Nat} {pargs:List PV} {r:PV} (h:La f pargs [] fun pv ρ=>pv=r/\ρ=[]):PF f pargs r:=fun O args g ha =>
 Re.mono (h O args [] g ha .nil) fun v ρ' O' _ ⟨pv,ρp',h1,h2,h3,h4⟩=>by subst h3;subst h4;exact ⟨h2.nil_inv,h1⟩
def Yc (pf:PV) (pargs:List PV) (r:PV):Prop:=∀ O fv args,Xe O->Rp O pf fv->Xb O pargs args->∃ f first cap,fv=.func (.func f) (List.toArray first) (List.toArray cap)/\Rc f (first++args++cap) O fun v O'=>Rp O' r v
theorem gY {f:Nat} {caps pargs:List PV} {r:PV} (h:PF f (pargs++caps) r):Yc (.fn f caps) pargs r:=fun O fv args g hf ha=>by
 cases hf with
 | fn hc=>exact ⟨f,[],_,rfl,h O _ g (ha.app hc)⟩
section
variable {n:Nat} {ops:Array Oper} {o:Oper} {rest:List Oper} {K:Ua} {Z:Xa} {ρ:List Qa} {d f:Nat} {c:Bool} {l:List Operand} {ts:Array Nat} {pargs:List PV} {r:PV} {x:Operand} {KV:PV->List Qa->Prop}
theorem DO (ho:o.op=.call { callee:=.value (.func f),args:=l.toArray,argTypes:=ts }) (ha:l.map (bt Z)=pargs) (hc:PF f pargs r) (h:KV r ρ):Qb o Z ρ KV:=fun O Z' ρ' g hs hr =>
 oG ho rfl (hc O _ g (by rw [<- ha];exact lm hs l)) fun v O' hk hv=>⟨r,ρ,hv,hr.mono hk,h⟩
theorem GC (hg:o.guard=none) (hd:o.dst=some d) (hlt:Nat.blt d n=true) (ho:o.op=.call { callee:=.value (.func f),args:=l.toArray,argTypes:=ts }) (ha:l.map (bt Z)=pargs) (hc:PF f pargs r) (h:Wa n ops rest K (ig Z d r) ρ):Wa n ops (o::rest) K Z ρ :=
 p5 hg hd hlt (DO ho ha hc h)
theorem uY (hg:Pa ops Z o c) (hd:o.dst=some d) (hlt:Nat.blt d n=true) (ho:o.op=.call { callee:=.value (.func f),args:=l.toArray,argTypes:=ts }) (ha:c=true->l.map (bt Z)=pargs) (hc:c=true->PF f pargs r) (h:Wa n ops rest K (ig Z d (pgv c r)) ρ):Wa n ops (o::rest) K Z ρ:=fun β O Z' ρ' g hs hr =>
 wl_g (hg O Z' hs) hd hlt (wX ho (fun _=>rfl) (fun hct=>hc hct O _ g (by rw [<- ha hct];exact lm hs l)) fun v O' hk hv=>h β O' _ _ (g.mono hk) ((hs.mono hk).upd (y9 hv)) (hr.mono hk))
theorem aI {R:PV->List Qa->Prop} {ρ1 ρ2:List Qa} (ho:o.op=.call { callee:=.value (.func f),args:=l.toArray,argTypes:=ts }) (ha:l.map (bt Z)=pargs) (hp:ρ.Perm (ρ1++ρ2)) (hc:La f pargs ρ1 R) (h:∀ pv ρ',R pv ρ'->KV pv (ρ'++ρ2)):Qb o Z ρ KV:=fun O Z' ρ' g hs hr=>by
 obtain ⟨rs,h1,h2⟩:=hr.perm hp
 obtain ⟨r1,r2,rfl,h3,h4⟩:=h2.split
 exact DJ ho rfl h1 (hc O _ r1 g (by rw [<- ha];exact lm hs l) h3) fun v ρ'' O' hk ⟨pv,ρp,g1,g2,g3⟩=>⟨pv,ρp++ρ2,g1,g2.app (h4.mono hk),h pv ρp g3⟩
end
def dU (n:Nat) (y:Code) (K:Exit->Ua):Exit->Ua:=fun e Z ρ=>match e with | .normal=>Ka n y K Z ρ | e=>K e Z ρ
def dM (id:Nat) (K:Exit->Ua):Exit->Ua:=fun e Z ρ=>match e with | .exit id'=>cond (Nat.beq id' id) (K .normal Z ρ) (K (.exit id') Z ρ) | e=>K e Z ρ
section
variable {n:Nat} {x y:Code} {K:Exit->Ua} {Z:Xa} {ρ:List Qa}
theorem Bl {K':Exit->Ua} (h:Ka n x K Z ρ) (hk:∀ e Z ρ,K e Z ρ->K' e Z ρ):Ka n x K' Z ρ:=fun β O Z' ρ' g hs hr =>
 qv (h β O Z' ρ' g hs hr) fun e _ _ _ _ ⟨σp,ρp,h1,h2,h3⟩=>⟨σp,ρp,h1,h2,hk e _ _ h3⟩
theorem ag (h:Ka n x (dU n y K) Z ρ):Ka n (.seq x y) K Z ρ:=fun β O Z' ρ' g hs hr =>
 fA (qv (h β O Z' ρ' g hs hr) fun e σ1 ρ1 κ1 hk ⟨σp,ρp,h1,h2,h3⟩=>by
  cases e with
  | normal=>exact h3 β κ1 σ1 ρ1 (g.mono hk) h1 h2
  | _=>exact ⟨σp,ρp,h1,h2,h3⟩)
theorem af (h:K .normal Z ρ):Ka n .skip K Z ρ:=fun _ _ _ _ _ hs hr=>mu ⟨Z,ρ,hs,hr,h⟩
theorem bi (h:K .ret Z ρ):Ka n .ret K Z ρ:=fun _ _ _ _ _ hs hr=>oE ⟨Z,ρ,hs,hr,h⟩
theorem aL {id:Nat} (h:K (.exit id) Z ρ):Ka n (.exit id) K Z ρ:=fun _ _ _ _ _ hs hr=>qw ⟨Z,ρ,hs,hr,h⟩
theorem aG {id:Nat} (h:Ka n x (dM id K) Z ρ):Ka n (.block id x) K Z ρ:=fun β O Z' ρ' g hs hr =>
 mv (qv (h β O Z' ρ' g hs hr) fun e σ1 ρ1 κ1 hk ⟨σp,ρp,h1,h2,h3⟩=>by
  cases e with
  | exit id' =>
   simp only [dM] at h3
   simp only [nS]
   cases hb:Nat.beq id' id
   ·rw [hb] at h3;exact ⟨σp,ρp,h1,h2,h3⟩
   ·rw [hb] at h3;exact ⟨σp,ρp,h1,h2,h3⟩
  | _=>exact ⟨σp,ρp,h1,h2,h3⟩)
theorem iV {c:Operand} {p:Bool} (hc:bt Z c=.v (.bool p)) (ht:p=true->Ka n x K Z ρ) (hf:p=false->Ka n y K Z ρ):Ka n (.cond c x y) K Z ρ:=fun β O Z' ρ' g hs hr =>
 oe (hs.v1 hc) (fun h=>ht h β O Z' ρ' g hs hr) (fun h=>hf h β O Z' ρ' g hs hr)
theorem ak {id:Nat} {l:List Oper} (h:Wa n l.toArray l (K .normal) Z ρ):Ka n (.region id l.toArray false) K Z ρ:=fun β O Z' ρ' g hs hr=>bP (h β O Z' ρ' g hs hr)
theorem bE {id:Nat} {l:List Oper} {ρd:List Qa} (ord:List (Nat×Nat)) {lo:List (Nat×Oper)} (ρs:List Qa) (hp:ρ.Perm (ρd++ρs)) (hok:Gs n l ord=true) (hl:qD l ord=some lo) (h:Vc n l.toArray (K .normal) lo Z ρd ρs):Ka n (.region id l.toArray true) K Z ρ:=fun β O Z' ρ' g hs hr=>by
 obtain ⟨rs',h1,h2⟩:=hr.perm hp
 obtain ⟨r1,r2,rfl,h3,h4⟩:=h2.split
 exact wc_draw ord r2 h1 hok hl fun κ1 hk=>h β κ1 Z' r1 r2 (g.mono hk) (hs.mono hk) (h3.mono hk) (h4.mono hk)
theorem kb {ρ':List Qa} (hs:Vb ρ' ρ) (h:Ka n x K Z ρ'):Ka n x K Z ρ:=fun β O Z' r g hm hr=>by
 obtain ⟨r',h1,h2⟩:=hr.sub hs
 exact Gt h1 (h β O Z' r' g hm h2)
def Ya (Z:Xa):List (Nat×PV)->Prop
 | []=>True
 | (d,v)::l=>Z d=v/\Ya Z l
theorem qr:Ya Z []:=trivial
theorem jK {d:Nat} {v:PV} {l:List (Nat×PV)} (h:Z d=v) (h':Ya Z l):Ya Z ((d,v)::l):=⟨h,h'⟩
theorem oI:∀ {L:List (Nat×PV)},Ya Z L->aw Z L=Z
 | [],_=>rfl
 | (d,v)::l,⟨h1,h2⟩=>by rw [aw,oI h2,EQ h1]
variable {Y S T:Type}
def Yd (Z:Xa) (ρ:List Qa) (Z':Xa) (ρ':List Qa):Prop:=∀ n y K,Ka n y K Z' ρ'->Ka n y K Z ρ
def ke (L:Y->List (Nat×PV)) (R:Y->List Qa) (J:Y->Prop) (K:Exit->Ua):Exit->Ua:=fun e Z ρ=>match e with
 | .normal=>∃ z Z' ρ',Yd Z ρ Z' ρ'/\Ya Z' (L z)/\Vb (R z) ρ'/\J z
 | e=>K e Z ρ
def kV (L:Y->List (Nat×PV)) (R:Y->List Qa) (J:Y->Prop) (K:Exit->Ua):Exit->Ua:=fun e Z ρ=>match e with
 | .normal=>∃ z,Ya Z (L z)/\Vb (R z) ρ/\J z
 | e=>K e Z ρ
theorem ap (L:Y->List (Nat×PV)) (R:Y->List Qa) (J:Y->Prop) (h:Ka n x (ke L R J K) Z ρ) (h2:∀ z τ,J z->Ka n y K (aw τ (L z)) (R z)):Ka n x (dU n y K) Z ρ :=
 Bl h fun e Z' ρ' g=>by
  cases e with
  | normal =>
   obtain ⟨z,σ1,ρ1,hc,h3,h4,h5⟩:=g
   exact hc _ _ _ (kb h4 (by have:=h2 z σ1 h5;rwa [oI h3] at this))
  | _=>exact g
theorem eD (L:Y->List (Nat×PV)) (R:Y->List Qa) (J:Y->Prop) (h:Ka n x (kV L R J K) Z ρ) (h2:∀ z τ ρ',Vb (R z) ρ'->J z->K .normal (aw τ (L z)) ρ'):Ka n x K Z ρ :=
 Bl h fun e Z' ρ' g=>by
  cases e with
  | normal =>
   obtain ⟨z,h3,h4,h5⟩:=g
   have:=h2 z Z' ρ' h4 h5;rwa [oI h3] at this
  | _=>exact g
theorem am {L:Y->List (Nat×PV)} {R:Y->List Qa} {J:Y->Prop} (z:Y) (h1:Ya Z (L z)) (h2:Vb (R z) ρ) (h3:J z):ke L R J K .normal Z ρ:=⟨z,Z,ρ,fun _ _ _ h=>h,h1,h2,h3⟩
theorem gZ {L:Y->List (Nat×PV)} {R:Y->List Qa} {J:Y->Prop} (z:Y) (h1:Ya Z (L z)) (h2:Vb (R z) ρ) (h3:J z):kV L R J K .normal Z ρ:=⟨z,h1,h2,h3⟩
theorem gc {L:Y->List (Nat×PV)} {R:Y->List Qa} {J:Y->Prop} {σ1:Xa} {ρ1:List Qa} (hc:Yd Z ρ σ1 ρ1) (h:ke L R J K .normal σ1 ρ1):ke L R J K .normal Z ρ:=by
 obtain ⟨z,σ2,ρ2,g1,g2⟩:=h
 exact ⟨z,σ2,ρ2,fun n y K k=>hc n y K (g1 n y K k),g2⟩
theorem aS {L:Y->List (Nat×PV)} {R:Y->List Qa} {J:Y->Prop} (h:K .ret Z ρ):ke L R J K .ret Z ρ:=h
theorem vJ {L:Y->List (Nat×PV)} {R:Y->List Qa} {J:Y->Prop} {id:Nat} (h:K (.exit id) Z ρ):ke L R J K (.exit id) Z ρ:=h
theorem i7 {L:Y->List (Nat×PV)} {R:Y->List Qa} {J:Y->Prop} (h:K .ret Z ρ):kV L R J K .ret Z ρ:=h
theorem vK {L:Y->List (Nat×PV)} {R:Y->List Qa} {J:Y->Prop} {id:Nat} (h:K (.exit id) Z ρ):kV L R J K (.exit id) Z ρ:=h
theorem aD (h:Ka n y K Z ρ):dU n y K .normal Z ρ:=h
theorem bc (h:K .ret Z ρ):dU n y K .ret Z ρ:=h
theorem cj {id:Nat} (h:K (.exit id) Z ρ):dU n y K (.exit id) Z ρ:=h
theorem aF {id:Nat} (h:K .normal Z ρ):dM id K .normal Z ρ:=h
theorem aO {id:Nat} (h:K .ret Z ρ):dM id K .ret Z ρ:=h
theorem an {id id':Nat} (he:Nat.beq id' id=true) (h:K .normal Z ρ):dM id K (.exit id') Z ρ:=by simp only [dM,he];exact h
theorem du {id id':Nat} (he:Nat.beq id' id=false) (h:K (.exit id') Z ρ):dM id K (.exit id') Z ρ:=by simp only [dM,he];exact h
end
def aW {S T:Type} (body:S->Option (S⊕T)) (N:Nat):S->Option T :=
 Nat.rec (motive:=fun _=>S->Option T) (fun _=>none) (fun _ ih s=>match body s with | none=>none | some (.inl s')=>ih s' | some (.inr t)=>some t) N
theorem fe {S T:Type} (body:S->Option (S⊕T)) (N:Nat) (s:S):aW body (N+1) s=match body s with | none=>none | some (.inl s')=>aW body N s' | some (.inr t)=>some t:=rfl
def Va:Nat:=1267650600228229401496703205376
section
variable {n:Nat} {x:Code} {K:Exit->Ua} {Z:Xa} {ρ:List Qa} {Y S T:Type}
def ip (L:Y->S->List (Nat×PV)) (R:Y->S->List Qa) (t:T) (o:S⊕T) (K:Exit->Ua):Exit->Ua:=fun e Z ρ=>match e with
 | .normal=>∃ y s Z' ρ',Yd Z ρ Z' ρ'/\o=.inl s/\Ya Z' (L y s)/\Vb (R y s) ρ'
 | e=>∃ t',o=.inr t'/\(t'=t->K e Z ρ)
theorem aT {L:Y->S->List (Nat×PV)} {R:Y->S->List Qa} {t:T} {o:S⊕T} {s:S} (h:some (Sum.inl s)=some o) (y:Y) (h1:Ya Z (L y s)) (h2:Vb (R y s) ρ):ip L R t o K .normal Z ρ:=⟨y,s,Z,ρ,fun _ _ _ h=>h,(Option.some.inj h).symm,h1,h2⟩
theorem aX {L:Y->S->List (Nat×PV)} {R:Y->S->List Qa} {t t':T} {o:S⊕T} (h:some (Sum.inr t')=some o) (hk:t'=t->K .ret Z ρ):ip L R t o K .ret Z ρ:=⟨t',(Option.some.inj h).symm,hk⟩
theorem mz {L:Y->S->List (Nat×PV)} {R:Y->S->List Qa} {t t':T} {o:S⊕T} {id:Nat} (h:some (Sum.inr t')=some o) (hk:t'=t->K (.exit id) Z ρ):ip L R t o K (.exit id) Z ρ:=⟨t',(Option.some.inj h).symm,hk⟩
theorem aJ (body:S->Option (S⊕T)) {N:Nat} {t:T} {s0:S} (h0:aW body N s0=some t) (L:Y->S->List (Nat×PV)) (R:Y->S->List Qa) (y0:Y) (h1:Ya Z (L y0 s0)) (h2:Vb (R y0 s0) ρ)
    (round:∀ y s o τ,body s=some o->Ka n x (ip L R t o K) (aw τ (L y s)) (R y s)):Ka n (.loop x) K Z ρ:=fun β O Z' ρ' g hs hr =>
  zH (fun (z:Nat) σ1 ρ1 κ1=>∃ y s σp ρp σq ρq,aW body z s=some t/\Xe κ1/\Xc κ1 σp σ1/\Ta κ1 ρp ρ1/\Yd σp ρp σq ρq/\Ya σq (L y s)/\Vb (R y s) ρq) id N ⟨y0,s0,Z,ρ,Z,ρ,h0,g,hs,hr,fun _ _ _ h=>h,h1,h2⟩ fun z σ1 ρ1 κ1 _ ⟨y,s,σp,ρp,σq,ρq,k1,k2,k3,k4,kc,k5,k6⟩=>by
    cases z with
    | zero=>cases k1
    | succ z =>
      rw [fe] at k1
      cases hb:body s with
      | none=>rw [hb] at k1;cases k1
      | some o =>
        rw [hb] at k1
        have hrd:=kc _ _ _ (kb k6 (by have:=round y s o σq hb;rwa [oI k5] at this)) β κ1 σ1 ρ1 k2 k3 k4
        refine qv hrd fun e σ2 ρ2 κ2 hk ⟨σp2,ρp2,m1,m2,m3⟩=>?_
        cases e with
        | normal =>
          obtain ⟨y',s',σ3,ρ3,mc,rfl,m4,m5⟩:=m3
          exact ⟨z,⟨y',s',σp2,ρp2,σ3,ρ3,k1,k2.mono hk,m1,m2,mc,m4,m5⟩,Nat.lt_succ_self z⟩
        | _ =>
          obtain ⟨t',rfl,m3⟩:=m3
          simp only [gn] at k1
          exact ⟨σp2,ρp2,m1,m2,m3 k1⟩
end
def Ue (rv:ResultVar) (Z:Xa) (ρ:List Qa) (p:PV):Prop:=match rv with
 | .tmp t=>Z t=p
 | .cell t T=>∃ b off Tb cs,Z t=.v (.pointer (some ⟨b,off,none⟩))/\Qa.b b Tb cs∈ρ/\my T (cs.drop off)=some p
def Te (rs:List ResultVar) (Z:Xa) (ρ:List Qa) (p:PV):Prop:=match rs with
 | []=>p=.tup []
 | [r]=>Ue r Z ρ p
 | [r,s]=>∃ v1 v2,Ue r Z ρ v1/\Ue s Z ρ v2/\p=.tup [v1,v2]
 | [r,s,t]=>∃ v1 v2 v3,Ue r Z ρ v1/\Ue s Z ρ v2/\Ue t Z ρ v3/\p=.tup [v1,v2,v3]
 | _=>False
theorem az {t:Nat} {Z:Xa} {ρ:List Qa} {p:PV} (h:Z t=p):Ue (.tmp t) Z ρ p:=h
theorem di {t T b off Tb:Nat} {Z:Xa} {ρ:List Qa} {cs:List PV} {p:PV} (h1:Z t=.v (.pointer (some ⟨b,off,none⟩))) (h2:Qa.b b Tb cs∈ρ) (h3:my T (cs.drop off)=some p):Ue (.cell t T) Z ρ p:=⟨b,off,Tb,cs,h1,h2,h3⟩
theorem dZ {r:ResultVar} {Z:Xa} {ρ:List Qa} {p:PV} (h:Ue r Z ρ p):Te [r] Z ρ p:=h
theorem bK {r s:ResultVar} {Z:Xa} {ρ:List Qa} {p q:PV} (h:Ue r Z ρ p) (h2:Ue s Z ρ q):Te [r,s] Z ρ (.tup [p,q]):=⟨p,q,h,h2,rfl⟩
theorem nA {r s t:ResultVar} {Z:Xa} {ρ:List Qa} {p q w:PV} (h:Ue r Z ρ p) (h2:Ue s Z ρ q) (h3:Ue t Z ρ w):Te [r,s,t] Z ρ (.tup [p,q,w]):=⟨p,q,w,h,h2,h3,rfl⟩
section
variable {O:Kr} {Z:Xa} {Z':Ma} {ρ:List Qa} {ρ':List Ja}
theorem ET {rv:ResultVar} {p:PV} (hs:Xc O Z Z') (hr:Ta O ρ ρ') (h:Ue rv Z ρ p):∃ v,Se rv Z' ρ' v/\Rp O p v:=by
 cases rv with
 | tmp t=>exact ⟨Z' t,rfl,by have:=hs t;rwa [show Z t=p from h] at this⟩
 | cell t T =>
  obtain ⟨b,off,Tb,cs,h1,h2,h3⟩:=h
  obtain ⟨r,hm,hrel⟩:=hr.mem h2
  cases hrel with
  | b ho hcs =>
   obtain ⟨v,h4,h5⟩:=Bj (hcs.drop off) (fun u hu=>ho u (mem_of_mem_drop hu)) h3
   exact ⟨v,Se.cell (by have:=hs t;rw [h1] at this;exact this.val) hm h4,h5⟩
theorem prv {rs:List ResultVar} {p:PV} (hs:Xc O Z Z') (hr:Ta O ρ ρ') (h:Te rs Z ρ p):∃ v,RV rs Z' ρ' v/\Rp O p v:=by
 match rs,h with
 | [],h=>simp only [Te] at h;subst h;exact ⟨_,rfl,.tup (ws:=[]) .nil⟩
 | [r],h=>exact ET hs hr h
 | [r,s],⟨v1,v2,h1,h2,h3⟩ =>
  obtain ⟨w1,a1,b1⟩:=ET hs hr h1
  obtain ⟨w2,a2,b2⟩:=ET hs hr h2
  subst h3;exact ⟨_,⟨w1,w2,a1,a2,rfl⟩,.tup (ws:=[w1,w2]) (.cons b1 (.cons b2 .nil))⟩
 | [r,s,t],⟨v1,v2,v3,h1,h2,h3,h4⟩ =>
  obtain ⟨w1,a1,b1⟩:=ET hs hr h1
  obtain ⟨w2,a2,b2⟩:=ET hs hr h2
  obtain ⟨w3,a3,b3⟩:=ET hs hr h3
  subst h4;exact ⟨_,⟨w1,w2,w3,a1,a2,a3,rfl⟩,.tup (ws:=[w1,w2,w3]) (.cons b1 (.cons b2 (.cons b3 .nil)))⟩
end
def jN (rs:List ResultVar) (R:PV->List Qa->Prop):Exit->Ua:=fun e Z ρ=>match e with
 | .ret | .normal=>∃ p ρ',Te rs Z ρ p/\Vb ρ' ρ/\R p ρ'
 | _=>False
theorem aH {rs:List ResultVar} {R:PV->List Qa->Prop} {Z:Xa} {ρ ρ':List Qa} {p:PV} (hv:Te rs Z ρ p) (hs:Vb ρ' ρ) (h:R p ρ'):jN rs R .ret Z ρ:=⟨p,ρ',hv,hs,h⟩
theorem p7 {rs:List ResultVar} {R:PV->List Qa->Prop} {Z:Xa} {ρ ρ':List Qa} {p:PV} (hv:Te rs Z ρ p) (hs:Vb ρ' ρ) (h:R p ρ'):jN rs R .normal Z ρ:=⟨p,ρ',hv,hs,h⟩
theorem penter {f n:Nat} {fn:Func} {c:Code} {pargs:List PV} {rs:List ResultVar} {ρp:List Qa} {R:PV->List Qa->Prop} (hf:Tryz.prog.funcs[f]?=some fn) (hok:Pf f) (hb:fn.body=some c) (hn:fn.ntmps=n) (hres:fn.results=rs.toArray) (hsz:Nat.ble pargs.length n=true)
    (h:Ka n c (jN rs R) (Bk pargs) ρp):La f pargs ρp R:=fun O args ρ g ha hr =>
  qC hf hok hb hn hres (by rw [<- ha.len];exact hsz) (qv (h _ O _ ρ g (sim0 ha) hr) fun e σ1 ρ1 κ1 hk ⟨σp,ρ2,h1,h2,h3⟩=>by
    have key:(∃ p ρ',Te rs σp ρ2 p/\Vb ρ' ρ2/\R p ρ')->∀ β,Zt β ρ1 κ1->∃ v ρ' O',RV rs σ1 ρ1 v/\Ke ρ1 κ1 ρ' O'/\∃ pv ρp',Rp O' pv v/\Ta O' ρp' ρ'/\R pv ρp':=fun ⟨p,ρ',k1,k2,k3⟩ _ _=>by
      obtain ⟨v,j1,j2⟩:=prv h1 h2 k1
      obtain ⟨r',j3,j4⟩:=h2.sub k2
      exact ⟨v,r',κ1,j1,.sub j3,p,ρ',j2,j4,k3⟩
    cases e with
    | ret=>exact key h3
    | normal=>exact key h3
    | _=>exact h3.elim)
theorem Zt.nores {β:Jc} {ρ:List Ja} {O:Kr} (h:Zt β ρ O):Zt β (xf::ρ) O :=
 ⟨h.le,h.fin,fun r hr=>by rcases List.mem_cons.1 hr with rfl | hr;exact trivial;exact h.own r hr,fun r hr=>by rcases List.mem_cons.1 hr with rfl | hr;(intro b hb;cases hb);exact h.blk r hr,List.Pairwise.cons (fun _ _ b hb=>by cases hb) h.nd⟩
theorem GF {β:Jc} {n:Nat} {x:Code} {K:Exit->Yb} {Z:Ma} {ρ:List Ja} {O:Kr} (h:WC β n x K Z (xf::ρ) O):WC β n x K Z ρ O:=fun hi=>h hi.nores
theorem Bm {β:Jc} {n:Nat} {ops:Array Oper} {lo:List Oper} {K:Yb} {Z:Ma} {ρ:List Ja} {O:Kr} (h:WL β n ops lo K Z (xf::ρ) O):WL β n ops lo K Z ρ O:=fun hi=>h hi.nores
theorem EU {β:Jc} {n:Nat} {ops:Array Oper} {lo:List Oper} {K:Yb} {Z:Ma} {ρ:List Ja} {O:Kr} (T sz:Nat) (h:WL β n ops lo K Z (Ja.row none 0 0 T sz []::ρ) O):WL β n ops lo K Z ρ O:=fun hi=>h (hi.nilrow T sz)
section
variable {n:Nat} {x:Code} {K:Exit->Ua} {KL:Ua} {Z:Xa} {ρ l:List Qa} {ops:Array Oper} {lo:List Oper} {a:Option Addr} {m c T sz t b k:Nat} {css:List (List PV)} {cs:List PV} {α:Type} {enc:α->List PV} {xs:List α}
theorem wq (hp:Ub ρ (.row a m c T sz css) l) (h:Ka n x K Z (.frz a m c css::l)):Ka n x K Z ρ:=fun β O Z' ρ' g hs hr=>by
 obtain ⟨r,l',h1,h2,h3⟩:=hr.pick hp
 cases h2 with
 | row hb ho hc=>exact EM h1 fun O' hk hsl=>GF (h β O' Z' _ (g.mono hk) (hs.mono hk) (.cons (.frz hsl hb ho (hc.mono hk)) (h3.mono hk)))
theorem kH (hp:Ub ρ (.row a m c T sz css) l) (h:Wa n ops lo KL Z (.frz a m c css::l)):Wa n ops lo KL Z ρ:=fun β O Z' ρ' g hs hr=>by
 obtain ⟨r,l',h1,h2,h3⟩:=hr.pick hp
 cases h2 with
 | row hb ho hc=>exact EN h1 fun O' hk hsl=>Bm (h β O' Z' _ (g.mono hk) (hs.mono hk) (.cons (.frz hsl hb ho (hc.mono hk)) (h3.mono hk)))
theorem rD {O:Kr} {Z':Ma} {p:PV} (hs:Xc O Z Z') (h:Rp O p (Z' t)):Xc O (ig Z t p) Z':=fun u=>by
 unfold ig;cases e:Nat.beq u t
 ·exact hs u
 rw [eq_of_beq_eq_true e];exact h
theorem zX {O:Kr} {r:Ja} {w:Value} (h:Nd O (.frz a m c (xs.map enc)) r) (hw:w=.slice a m c):Rp O (.slc xs.length (xs.map enc)) w:=by
 subst hw
 generalize hcs:xs.map enc=css at h
 cases h with
 | frz hs hb h1 hc =>
  have e1:=hc.len;have e2:=hs.len
  have e3:xs.length=m:=by rw [<- hcs,length_map] at e1;omega
  rw [e3];exact .slc hs hb h1 hc
theorem frb_rp {O:Kr} {r:Ja} {w:Value} (h:Nd O (.frb b cs) r) (hw:w=.pointer (some ⟨b,k,none⟩)):Rp O (.ref cs k) w:=by
 subst hw;cases h with
 | frb hs h1 hc=>have:=Rp.ref (k:=k) hs h1 hc;rwa [zero_add] at this
theorem p8 (t:Nat) (ht:Z t=.v (.slice a m c)) (hm:Qa.frz a m c (xs.map enc)∈ρ) (h:Ka n x K (ig Z t (.slc xs.length (xs.map enc))) ρ):Ka n x K Z ρ:=fun β O Z' ρ' g hs hr=>by
 obtain ⟨r,_,h2⟩:=hr.mem hm
 exact h β O Z' ρ' g (rD hs (zX h2 (by have:=hs t;rw [ht] at this;exact this.val))) hr
theorem GH (t:Nat) (ht:Z t=.v (.slice a m c)) (hm:Qa.frz a m c (xs.map enc)∈ρ) (h:Wa n ops lo KL (ig Z t (.slc xs.length (xs.map enc))) ρ):Wa n ops lo KL Z ρ:=fun β O Z' ρ' g hs hr=>by
 obtain ⟨r,_,h2⟩:=hr.mem hm
 exact h β O Z' ρ' g (rD hs (zX h2 (by have:=hs t;rw [ht] at this;exact this.val))) hr
theorem fj (t:Nat) (ht:Z t=.v (.slice a m c)) (hp:Ub ρ (.row a m c T sz (xs.map enc)) l) (h:Ka n x K (ig Z t (.slc xs.length (xs.map enc))) (.frz a m c (xs.map enc)::l)):Ka n x K Z ρ:=wq hp (p8 t ht (List.Mem.head _) h)
theorem dw (t:Nat) (ht:Z t=.v (.slice a m c)) (hp:Ub ρ (.row a m c T sz (xs.map enc)) l) (h:Wa n ops lo KL (ig Z t (.slc xs.length (xs.map enc))) (.frz a m c (xs.map enc)::l)):Wa n ops lo KL Z ρ:=kH hp (GH t ht (List.Mem.head _) h)
theorem uZ {O:Kr}:Rp O (.slc 0 []) (.slice none 0 0):=.slc (sz:=0) Sl.nil (by omega) (fun _ h=>by cases h) .nil
theorem gB (t:Nat) (ht:Z t=.v (.slice none 0 0)) (h:Ka n x K (ig Z t (.slc 0 [])) ρ):Ka n x K Z ρ:=fun β O Z' ρ' g hs hr=>h β O Z' ρ' g (rD hs (by have:=hs t;rw [ht] at this;rw [this.val];exact uZ)) hr
theorem bC (T sz:Nat) (h:Ka n x K Z (.row none 0 0 T sz []::ρ)):Ka n x K Z ρ:=fun β O Z' ρ' g hs hr=>EI T sz (h β O Z' _ g hs (.cons (.row (by omega) (fun _ h=>by cases h) .nil) hr))
theorem oJ (T sz:Nat) (h:Wa n ops lo KL Z (.row none 0 0 T sz []::ρ)):Wa n ops lo KL Z ρ:=fun β O Z' ρ' g hs hr=>EU T sz (h β O Z' _ g hs (.cons (.row (by omega) (fun _ h=>by cases h) .nil) hr))
theorem iR {ρ':List Qa} (hk:cs[k]?=some (.v (.slice a m c))) (hm:Qa.frz a m c (xs.map enc)∈ρ) (hu:Nc ρ (.b b T cs) (.b b T (cs.set k (.slc xs.length (xs.map enc)))) ρ') (h:Wa n ops lo KL Z ρ'):Wa n ops lo KL Z ρ:=fun β O Z' r g hs hr=>by
 obtain ⟨rf,_,h2⟩:=hr.mem hm
 obtain ⟨r0,l1,l2,rfl,h3,h4⟩:=hr.upd hu
 cases h3 with
 | b ho hc =>
  obtain ⟨v,hv,hp⟩:=hc.get hk
  have e:=hp.val
  have hset:=hc.set (k:=k) (zX h2 e)
  have:∀ (l:List Value) (k:Nat) (v:Value),l[k]?=some v->l.set k v=l:=fun l k v h=>by
   apply ext_getElem?;intro i;rw [List.getElem?_set];split
   ·rename_i hik;subst hik;rw [h];have:=(List.getElem?_eq_some_iff.1 h).1;simp [this]
   rfl
  rw [this _ _ _ hv] at hset
  exact h β O Z' _ g hs (h4 O _ (.refl _) (.b ho hset))
theorem u6 {ρ':List Qa} (hk:cs[k]?=some (.v (.slice a m c))) (hm:Qa.frz a m c (xs.map enc)∈ρ) (hu:Nc ρ (.b b T cs) (.b b T (cs.set k (.slc xs.length (xs.map enc)))) ρ') (h:Ka n x K Z ρ'):Ka n x K Z ρ:=fun β O Z' r g hs hr=>by
 obtain ⟨rf,_,h2⟩:=hr.mem hm
 obtain ⟨r0,l1,l2,rfl,h3,h4⟩:=hr.upd hu
 cases h3 with
 | b ho hc =>
  obtain ⟨v,hv,hp⟩:=hc.get hk
  have e:=hp.val
  have hset:=hc.set (k:=k) (zX h2 e)
  have:∀ (l:List Value) (k:Nat) (v:Value),l[k]?=some v->l.set k v=l:=fun l k v h=>by
   apply ext_getElem?;intro i;rw [List.getElem?_set];split
   ·rename_i hik;subst hik;rw [h];have:=(List.getElem?_eq_some_iff.1 h).1;simp [this]
   rfl
  rw [this _ _ _ hv] at hset
  exact h β O Z' _ g hs (h4 O _ (.refl _) (.b ho hset))
theorem GI {ρ':List Qa} (hk:cs[k]?=some (.v (.slice none 0 0))) (hu:Nc ρ (.b b T cs) (.b b T (cs.set k (.slc 0 []))) ρ') (h:Wa n ops lo KL Z ρ'):Wa n ops lo KL Z ρ:=fun β O Z' r g hs hr=>by
 obtain ⟨r0,l1,l2,rfl,h3,h4⟩:=hr.upd hu
 cases h3 with
 | b ho hc =>
  obtain ⟨v,hv,hp⟩:=hc.get hk
  have e:=hp.val
  have hset:=hc.set (k:=k) (p:=.slc 0 []) (v:=v) (by rw [e];exact uZ)
  have:∀ (l:List Value) (k:Nat) (v:Value),l[k]?=some v->l.set k v=l:=fun l k v h=>by
   apply ext_getElem?;intro i;rw [List.getElem?_set];split
   ·rename_i hik;subst hik;rw [h];have:=(List.getElem?_eq_some_iff.1 h).1;simp [this]
   rfl
  rw [this _ _ _ hv] at hset
  exact h β O Z' _ g hs (h4 O _ (.refl _) (.b ho hset))
theorem jj (t:Nat) (ht:Z t=.v (.pointer (some ⟨b,k,none⟩))) (hp:Ub ρ (.b b T cs) l) (h:Wa n ops lo KL (ig Z t (.ref cs k)) (.frb b cs::l)):Wa n ops lo KL Z ρ:=fun β O Z' ρ' g hs hr=>by
  obtain ⟨r,l',h1,h2,h3⟩:=hr.pick hp
  cases h2 with
  | b ho hc=>exact wl_pub h1 rfl fun O' hk hS hsay=>Bm (by
      have hfr:Nd O' (.frb b cs) xf:=.frb (Gw hS hsay) ho (hc.mono hk)
      exact h β O' Z' _ (g.mono hk) (rD (hs.mono hk) (frb_rp hfr (by have:=hs t;rw [ht] at this;exact this.val))) (.cons hfr (h3.mono hk)))
end
theorem Cx {p:PV} {o:Oper} {O:Kr} {Z':Ma} {ρ':List Ja}:∃ v,(false=true->Rp O p v)/\Rb false o Z' ρ' O v:=⟨undef,fun h=>(by cases h),fun h=>(by cases h)⟩
section
variable {o:Oper} {Z:Xa} {ρ:List Qa} {c:Bool} {x y y2:Operand}
theorem bY {p:PV} (ho:o.op=.move x) (hx:Ra Z c x p):Na c o Z ρ p:=fun O Z' ρ' g hs hr=>⟨_,hs.pe hx,cB ho (.p rfl)⟩
theorem cD {p:PV} (ho:o.op=.assign x) (hx:Ra Z c x p):Na c o Z ρ p:=fun O Z' ρ' g hs hr=>⟨_,hs.pe hx,dd ho (.p rfl)⟩
theorem Bn {cc a b:Operand} {p q:Bool} (ho:o.op=.pick cc a b) (h1:Ra Z c cc (.v (.bool p))) (h2:Ra Z c a (.v (.bool true))) (h3:Ra Z (c && !p) b (.v (.bool q))):Na c o Z ρ (.v (.bool (p||q))):=fun O Z' ρ' g hs hr=>⟨_,fun _=>.v rfl,oq_or ho (hs.ve h1) (hs.ve h2) (hs.ve h3)⟩
theorem xg {cc a b:Operand} {p q:Bool} (ho:o.op=.pick cc a b) (h1:Ra Z c cc (.v (.bool p))) (h2:Ra Z c b (.v (.bool false))) (h3:Ra Z (c&&p) a (.v (.bool q))):Na c o Z ρ (.v (.bool (p&&q))):=fun O Z' ρ' g hs hr=>⟨_,fun _=>.v rfl,CD ho (hs.ve h1) (hs.ve h2) (hs.ve h3)⟩
variable {t t':Nat} {k:IntKind} {a b:Int}
theorem xh {op:BinOp} {r:Bool} (ho:o.op=.binOp op t x y t') (hx:Ra Z c x (.v (.int k a))) (hy:Ra Z c y (.v (.int k b)))
    (hr:(match op with | .eql=>some (a == b) | .neq=>some (a != b) | .lss=>some (decide (a<b)) | .leq=>some (decide (a<=b)) | .gtr=>some (decide (b<a)) | .geq=>some (decide (b<=a)) | _=>none)=some r):Na c o Z ρ (.v (.bool r)):=fun O Z' ρ' g hs _=>⟨_,fun _=>.v rfl,qy ho (hs.ve hx) (hs.ve hy) hr⟩
theorem nB {op:BinOp} {r:Int} (ho:o.op=.binOp op t x y t') (hx:Ra Z c x (.v (.int k a))) (hy:Ra Z c y (.v (.int k b)))
    (hr:(match op with | .add=>some (a+b) | .sub=>some (a - b) | .mul=>some (a*b) | _=>none)=some r):Na c o Z ρ (.v (.int k (k.wrap r))):=fun O Z' ρ' g hs _=>⟨_,fun _=>.v rfl,A1 ho (hs.ve hx) (hs.ve hy) hr⟩
theorem GJ (ho:o.op=.binOp .quo t x y t') (hx:Ra Z c x (.v (.int k a))) (hy:Ra Z c y (.v (.int k b))) (hb:c=true->b≠0):Na c o Z ρ (.v (.int k (k.wrap (a.tdiv b)))):=fun O Z' ρ' g hs _=>⟨_,fun _=>.v rfl,oq_quo ho (hs.ve hx) (hs.ve hy) hb rfl⟩
theorem GK (ho:o.op=.binOp .rem t x y t') (hx:Ra Z c x (.v (.int k a))) (hy:Ra Z c y (.v (.int k b))) (hb:c=true->b≠0):Na c o Z ρ (.v (.int k (a.tmod b))):=fun O Z' ρ' g hs _=>⟨_,fun _=>.v rfl,oq_rem ho (hs.ve hx) (hs.ve hy) hb rfl⟩
def ji (k:IntKind) (a b:Int):Int:=k.wrap ((BitVec.ofInt k.bits a &&& BitVec.ofInt k.bits b).toNat:Int)
def xi (k:IntKind) (a b:Int):Int:=k.wrap ((BitVec.ofInt k.bits a ||| BitVec.ofInt k.bits b).toNat:Int)
def rE (k:IntKind) (a b:Int):Int:=k.wrap ((BitVec.ofInt k.bits a ^^^ BitVec.ofInt k.bits b).toNat:Int)
theorem pq_bits {op:BinOp} {r:Int} (ho:o.op=.binOp op t x y t') (hx:Ra Z c x (.v (.int k a))) (hy:Ra Z c y (.v (.int k b)))
    (hr:(match op with | .and=>some (ji k a b) | .or=>some (xi k a b) | .xor=>some (rE k a b) | _=>none)=some r):Na c o Z ρ (.v (.int k r)):=fun O Z' ρ' g hs _=>⟨_,fun _=>.v rfl,oq_bits ho (hs.ve hx) (hs.ve hy) (by cases op <;> exact hr)⟩
def ja (k:IntKind) (a b:Int):Int:=k.wrap (a*2 ^ min b.toNat k.bits)
def ex (k:IntKind) (a b:Int):Int:=a.fdiv (2 ^ min b.toNat k.bits)
theorem xj {op:BinOp} {k':IntKind} {r:Int} (ho:o.op=.binOp op t x y t') (hx:Ra Z c x (.v (.int k a))) (hy:Ra Z c y (.v (.int k' b))) (h0:c=true->0<=b)
    (hr:(match op with | .shl=>some (ja k a b) | .shr=>some (ex k a b) | _=>none)=some r):Na c o Z ρ (.v (.int k r)):=fun O Z' ρ' g hs _=>⟨_,fun _=>.v rfl,Ge ho (hs.ve hx) (hs.ve hy) h0 (by cases op <;> exact hr)⟩
theorem pq_neg {ty:Nat} (ho:o.op=.unOp .neg ty x) (hx:Ra Z c x (.v (.int k a))):Na c o Z ρ (.v (.int k (k.wrap (0 - a)))):=fun O Z' ρ' g hs _=>⟨_,fun _=>.v rfl,oq_neg ho (hs.ve hx) rfl⟩
theorem pq_conv {k':IntKind} {s d:Nat} {ds:TypeDesc} (ho:o.op=.convert s d x) (h1:fQ s=some ds) (h2:fQ d=some (.int k')) (hx:Ra Z c x (.v (.int k a))):Na c o Z ρ (.v (.int k' (k'.wrap a))):=fun O Z' ρ' g hs _=>⟨_,fun _=>.v rfl,oq_conv ho h1 h2 (hs.ve hx) rfl⟩
theorem zY {p:Bool} {ty:Nat} (ho:o.op=.unOp .not ty x) (hx:Ra Z c x (.v (.bool p))):Na c o Z ρ (.v (.bool !p)):=fun O Z' ρ' g hs _=>⟨_,fun _=>.v rfl,CF ho (hs.ve hx)⟩
theorem pq_eqB {op:BinOp} {p q r:Bool} (ho:o.op=.binOp op t x y t') (hu:fQ t=some .bool) (hx:Ra Z c x (.v (.bool p))) (hy:Ra Z c y (.v (.bool q)))
    (hr:(match op with | .eql=>some (p == q) | .neq=>some (p != q) | _=>none)=some r):Na c o Z ρ (.v (.bool r)):=fun O Z' ρ' g hs _=>⟨_,fun _=>.v rfl,oq_eqB ho hu (hs.ve hx) (hs.ve hy) hr⟩
theorem pq_str {op:BinOp} {s u:Xh} {r:Bool} (ho:o.op=.binOp op t x y t') (hx:Ra Z c x (.v (.string s))) (hy:Ra Z c y (.v (.string u)))
    (hr:(match op with | .eql=>some (decide (s=u)) | .neq=>some (!decide (s=u)) | .lss=>some (Op.bytesLess s.toList u.toList) | .leq=>some (Op.bytesLess s.toList u.toList||decide (s=u)) | .gtr=>some (!(Op.bytesLess s.toList u.toList||decide (s=u))) | .geq=>some (!Op.bytesLess s.toList u.toList) | _=>none)=some r):Na c o Z ρ (.v (.bool r)):=fun O Z' ρ' g hs _=>⟨_,fun _=>.v rfl,zJ ho (hs.ve hx) (hs.ve hy) hr⟩
theorem pq_cat {s u:Xh} (ho:o.op=.binOp .add t x y t') (hx:Ra Z c x (.v (.string s))) (hy:Ra Z c y (.v (.string u))) (hb:c=true->s.size+u.size<=140737488355328):Na c o Z ρ (.v (.string (s++u))):=fun O Z' ρ' g hs _=>⟨_,fun hc=>.v (by have:=hb hc;simp only [sM,ByteArray.size_append];exact ble_eq_true_of_le this),oq_cat ho (hs.ve hx) (hs.ve hy) (fun hc=>by have:=hb hc;omega)⟩
theorem nC {ad:Addr} (ho:o.op=.nilCheck x) (hx:Ra Z c x (.v (.pointer (some ad)))):Na c o Z ρ (.v (.pointer (some ad))):=fun O Z' ρ' g hs _=>⟨_,fun _=>.v rfl,rB ho (hs.ve hx)⟩
theorem zZ {cs:List PV} {kk:Nat} (ho:o.op=.nilCheck x) (hx:Ra Z c x (.ref cs kk)):Na c o Z ρ (.ref cs kk):=fun O Z' ρ' g hs _=>by
 refine ⟨ev Z' x,hs.pe hx,fun hc=>?_⟩
 have h:=hs.pe hx hc
 generalize he:ev Z' x=w at h
 cases h with
 | ref h h1 h2=>exact rB (c:=true) ho (.p he) rfl
theorem bR {s f bb off kk ty:Nat} {l:List (Nat×Nat)} {z:Value} {sz by':Nat} (ho:o.op=.fieldAddr s x f) (h1:tZ s=some l) (h2:l[f]?=some (kk,ty)) (hi:iE ty=some (z,sz,by')) (h0:Nat.blt 0 sz=true)
    (hx:Ra Z c x (.v (.pointer (some ⟨bb,off,none⟩)))):Na c o Z ρ (.v (.pointer (some ⟨bb,off+kk,none⟩))):=fun O Z' ρ' g hs _=>⟨_,fun _=>.v rfl,t7 ho h1 h2 hi h0 (hs.ve hx)⟩
theorem yA {s f off kk ty:Nat} {l:List (Nat×Nat)} {z:Value} {sz by':Nat} {cs:List PV} (ho:o.op=.fieldAddr s x f) (h1:tZ s=some l) (h2:l[f]?=some (kk,ty)) (hi:iE ty=some (z,sz,by')) (h0:Nat.blt 0 sz=true)
    (hx:Ra Z c x (.ref cs off)):Na c o Z ρ (.ref cs (off+kk)):=fun O Z' ρ' g hs _=>by
  cases c with
  | false=>exact Cx
  | true =>
    have h:=hs.pe hx rfl
    generalize he:ev Z' x=w at h
    cases h with
    | ref h ho1 hss =>
      rename_i ds bb o0
      exact ⟨_,fun _=>.ref h ho1 hss,by have:=t7 (c:=true) (ρ:=ρ') (O:=O) ho h1 h2 hi h0 (.p he);rwa [add_assoc] at this⟩
theorem co {bb off T:Nat} {cs:List PV} {p:PV} (ho:o.op=.load t x) (hx:Ra Z c x (.v (.pointer (some ⟨bb,off,none⟩)))) (hm:Qa.b bb T cs∈ρ) (hr:my t (cs.drop off)=some p):Na c o Z ρ p:=fun O Z' ρ' g hs hrr=>by
 obtain ⟨r,hr1,hr2⟩:=hrr.mem hm
 cases hr2 with
 | b h1 hc =>
  obtain ⟨v,h4,h5⟩:=Bj (hc.drop off) (fun u hu=>h1 u (mem_of_mem_drop hu)) hr
  exact ⟨v,fun _=>h5,yT ho (hs.ve hx) hr1 h4⟩
theorem Sh.drop {O:Kr} {b off:Nat} {ds:List Value} (h:Sh O b off ds) (k:Nat):Sh O b (off+k) (ds.drop k):=⟨h.1,fun j u hu=>by rw [add_assoc];exact h.2 (k+j) u (by rwa [List.getElem?_drop] at hu)⟩
theorem p9 {off:Nat} {cs:List PV} {p:PV} (ho:o.op=.load t x) (hx:Ra Z c x (.ref cs off)) (hr:my t (cs.drop off)=some p):Na c o Z ρ p:=fun O Z' ρ' g hs hrr=>by
 cases c with
 | false=>exact Cx
 | true =>
  have h:=hs.pe hx rfl
  generalize he:ev Z' x=w at h
  cases h with
  | ref h h1 hss =>
   obtain ⟨v,h4,h5⟩:=Bj (hss.drop off) (fun u hu=>h1 u (mem_of_mem_drop hu)) hr
   exact ⟨v,fun _=>h5,uV ho (.p he) (fun _=>h.drop off) h4⟩
theorem GL {f kk ty:Nat} {l:List (Nat×Nat)} {cs:List PV} {p:PV} (ho:o.op=.field t x f) (h1:tZ t=some l) (h2:l[f]?=some (kk,ty)) (hx:Ra Z c x (.agg cs)) (hkk:Nat.ble kk cs.length=true) (hr:my ty (cs.drop kk)=some p):Na c o Z ρ p:=fun O Z' ρ' g hs hrr=>by
 cases c with
 | false=>exact Cx
 | true =>
  have h:=hs.pe hx rfl
  generalize he:ev Z' x=w at h
  cases h with
  | agg ho1 hss =>
   rename_i ds
   obtain ⟨v,h4,h5⟩:=Bj (hss.drop kk) (fun u hu=>ho1 u (mem_of_mem_drop hu)) hr
   refine ⟨v,fun _=>h5,Gf (cs:=ds) ho h1 h2 (.p he) ?_⟩
   unfold mw at h4 ⊢
   split at h4
   ·rename_i d z sz b' hd hi
    cases hag:oF d
    ·rw [hag] at h4;simp only [dq] at h4 ⊢;rwa [List.getElem?_drop,add_zero] at h4
    rw [hag] at h4;simp only [cQ,zero_add,List.drop_zero] at h4 ⊢
    cases hle:Nat.ble sz (ds.drop kk).length
    ·rw [hle] at h4;cases h4
    rw [hle] at h4
    have:Nat.ble (kk+sz) ds.length=true:=by
     have h1:=le_of_ble_eq_true hle
     have h2:=le_of_ble_eq_true hkk
     rw [hss.len] at h2
     rw [length_drop] at h1
     exact ble_eq_true_of_le (by omega)
    rw [this];exact h4
   cases h4
theorem xk {i:Nat} {vs:List PV} {p:PV} (ho:o.op=.extract x i) (hx:Ra Z c x (.tup vs)) (hr:vs[i]?=some p):Na c o Z ρ p:=fun O Z' ρ' g hs hrr=>by
 cases c with
 | false=>exact Cx
 | true =>
  have h:=hs.pe hx rfl
  generalize he:ev Z' x=w at h
  cases h with
  | tup hss =>
   obtain ⟨v,h4,h5⟩:=hss.get hr
   exact ⟨v,fun _=>h5,wU ho (.p he) h4⟩
theorem pq_len {E mm:Nat} {xs:List (List PV)} (ho:o.op=.call { callee:=.builtin .len,args:=#[x],argTypes:=#[t] }) (hu:fQ t=some (.slice E)) (hx:Ra Z c x (.slc mm xs)):Na c o Z ρ (.v (.int .i64 (mm:Int))):=fun O Z' ρ' g hs hrr=>by
 cases c with
 | false=>exact Cx
 | true =>
  have h:=hs.pe hx rfl
  generalize he:ev Z' x=w at h
  cases h with
  | slc hsl hb h1 hss=>exact ⟨_,fun _=>.v rfl,Gg (c:=true) (ρ:=ρ') (O:=O) ho hu (.p he)⟩
theorem pq_lenO {E nn cp:Nat} {ad:Option Addr} (ho:o.op=.call { callee:=.builtin .len,args:=#[x],argTypes:=#[t] }) (hu:fQ t=some (.slice E)) (hx:Ra Z c x (.v (.slice ad nn cp))):Na c o Z ρ (.v (.int .i64 (nn:Int))):=fun O Z' ρ' g hs hrr=>⟨_,fun _=>.v rfl,Gg ho hu (hs.ve hx)⟩
theorem pq_lenS {s:Xh} (ho:o.op=.call { callee:=.builtin .len,args:=#[x],argTypes:=#[t] }) (hu:fQ t=some .string) (hx:Ra Z c x (.v (.string s))):Na c o Z ρ (.v (.int .i64 (s.size:Int))):=fun O Z' ρ' g hs hrr=>⟨_,fun _=>.v rfl,pb ho hu (hs.ve hx)⟩
def lJ (a b:Int):Int:=if b<a then b else a
def eO (a b:Int):Int:=if a<b then b else a
theorem pq_min {ts:List Nat} (ho:o.op=.call { callee:=.builtin .min,args:=#[x,y],argTypes:=ts.toArray }) (hx:Ra Z c x (.v (.int k a))) (hy:Ra Z c y (.v (.int k b))):Na c o Z ρ (.v (.int k (lJ a b))):=fun O Z' ρ' g hs hrr=>⟨_,fun _=>.v rfl,oq_min ho (hs.ve hx) (hs.ve hy)⟩
theorem z8 {ts:List Nat} (ho:o.op=.call { callee:=.builtin .max,args:=#[x,y],argTypes:=ts.toArray }) (hx:Ra Z c x (.v (.int k a))) (hy:Ra Z c y (.v (.int k b))):Na c o Z ρ (.v (.int k (eO a b))):=fun O Z' ρ' g hs hrr=>⟨_,fun _=>.v rfl,oq_max ho (hs.ve hx) (hs.ve hy)⟩
def bx {α:Type} (xs:List α) (i:Int):Option α:=if 0<=i then xs[i.toNat]? else none
theorem mA {α:Type} {xs:List α} {i:Int} {m:α} (h:bx xs i=some m):0<=i/\xs[i.toNat]?=some m:=by
 unfold bx at h;split at h
 ·exact ⟨by assumption,h⟩
 cases h
theorem ud {α:Type} {E sz by' mm:Nat} {z:Value} {enc:α->List PV} {xs:List α} {m:α} (ho:o.op=.indexAddr t x y) (hu:fQ t=some (.slice E)) (hi:iE E=some (z,sz,by')) (hw:∀ m,Nat.beq (enc m).length sz=true)
    (hx:Ra Z c x (.slc mm (xs.map enc))) (hy:Ra Z c y (.v (.int k a))) (hm:c=true->bx xs a=some m):Na c o Z ρ (.ref (enc m) 0):=fun O Z' ρ' g hs hrr=>by
  cases c with
  | false=>exact Cx
  | true =>
    obtain ⟨h0,hmm⟩:=mA (hm rfl)
    have h:=hs.pe hx rfl
    generalize he:ev Z' x=w at h
    cases h with
    | slc hsl hb h1 hss =>
      rename_i ad cp sz' css
      have hcs:(xs.map enc)[a.toNat]?=some (enc m):=by rw [List.getElem?_map,hmm];rfl
      obtain ⟨ds,hd,hds⟩:=hss.get hcs
      have hlt:a.toNat<mm:=by rw [<- hsl.len];exact (List.getElem?_eq_some_iff.1 hd).1
      obtain ⟨bb,off,ha,hsh⟩:=hsl.at_ (by omega)
      have hwid:sz'=sz:=by
        have e1:=hsl.wid ds (mem_of_getElem? hd)
        have e2:=hds.len
        have e3:=eq_of_beq_eq_true (hw m)
        omega
      subst hwid
      have h2:=rC (c:=true) (ρ:=ρ') (O:=O) (j:=a.toNat) ho hu hi (.p (by rw [he,ha])) (hs.ve hy) (fun _=>by omega) (fun _=>hlt)
      exact ⟨_,fun _=>by have:=Rp.ref (k:=0) (hsh _ _ hd) (h1 ds (mem_of_getElem? hd)) hds;rwa [add_zero] at this,h2⟩
theorem EV {s:Xh} {u:UInt8} (ho:o.op=.index t x y) (hu:fQ t=some .string) (hx:Ra Z c x (.v (.string s))) (hy:Ra Z c y (.v (.int k a))) (hm:c=true->bx s.data.toList a=some u):Na c o Z ρ (.v (.int .u8 (u.toNat:Int))):=fun O Z' ρ' g hs hrr=>by
 refine ⟨_,fun _=>.v rfl,fun hc=>?_⟩
 obtain ⟨h0,hmm⟩:=mA (hm hc)
 have hlt:=(List.getElem?_eq_some_iff.1 hmm).1
 have h:=pW (c:=true) (ρ:=ρ') (O:=O) (j:=a.toNat) ho hu (fun _=>hs.ve hx hc) (fun _=>hs.ve hy hc) (fun _=>by omega) (fun _=>by simpa using hlt) rfl
 rwa [List.getD_eq_getElem?_getD,hmm] at h
end
theorem gC {f n:Nat} {fn:Func} {c:Code} {pargs:List PV} {rs:List ResultVar} {ρp:List Qa} {R:PV->List Qa->Prop} (hf:Tryz.prog.funcs[f]?=some fn) (hb:fn.body=some c) (hn:fn.ntmps=n) (hres:fn.results=rs.toArray) (hsz:Nat.ble pargs.length n=true) (h:Ka n c (jN rs R) (Bk pargs) ρp):La f pargs ρp R:=penter hf (CG hf hb) hb hn hres hsz h
def Jb (cs:List PV) (k:Nat) (vs cs':List PV):Prop:=cs'=cs.take k++vs++cs.drop (k+vs.length)/\k+vs.length<=cs.length
theorem GM {cs:List PV}:Jb cs 0 [] cs:=⟨by simp,by simp⟩
theorem gr {x v:PV} {l l' vs:List PV} (h:Jb l 0 vs l'):Jb (x::l) 0 (v::vs) (v::l'):=by
 obtain ⟨h1,h2⟩:=h
 refine ⟨?_,by simp at h2 ⊢;omega⟩
 rw [h1];simp [Nat.add_comm]
theorem bV {x:PV} {l l' vs:List PV} {k:Nat} (h:Jb l k vs l'):Jb (x::l) (k+1) vs (x::l'):=by
 obtain ⟨h1,h2⟩:=h
 refine ⟨?_,by simp at h2 ⊢;omega⟩
 rw [h1,show k+1+vs.length=(k+vs.length)+1 by omega];simp
section
variable {o:Oper} {Z:Xa} {ρ:List Qa} {x y:Operand} {t:Nat} {K:PV->List Qa->Prop}
theorem kI {p:PV} (h:Na true o Z ρ p) (hk:K p ρ):Qb o Z ρ K:=fun O Z' ρ' g hs hr=>by
 obtain ⟨v,h1,h2⟩:=h O Z' ρ' g hs hr
 exact ol_q h2 ⟨p,ρ,h1 rfl,hr,hk⟩
theorem be {cs:List PV} (ho:o.op=.box t x) (hx:kp (bt Z x)=some cs) (h:∀ b,K (.v (.pointer (some ⟨b,0,none⟩))) (.b b t cs::ρ)):Qb o Z ρ K:=fun O Z' ρ' g hs hr=>by
 obtain ⟨ds,h1,h2,h3⟩:=(hs.ev x).cells hx
 exact ol_box ho h1 fun b O' hk=>⟨_,_,.v rfl,.cons (.b h3 (h2.mono hk)) (hr.mono hk),h b⟩
def Aa (z:Value):List PV:=(cn z).map fun x=>cond (sM x) (.v x) .any
theorem aP {z:Value} {sz by':Nat} {cs:List PV} (ho:o.op=.alloc t) (hz:iE t=some (z,sz,by')) (hc:Aa z=cs) (h1:(cn z).all Value.oneCell'=true) (h:∀ b,K (.v (.pointer (some ⟨b,0,none⟩))) (.b b t cs::ρ)):Qb o Z ρ K:=fun O Z' ρ' g hs hr =>
 Gk ho hz rfl fun b O' hk=>⟨_,_,.v rfl,.cons (.b (fun u hu=>List.all_eq_true.1 h1 u hu) (by rw [<- hc];exact lV _)) (hr.mono hk),h b⟩
theorem tr {O:Kr} {cs vs:List PV} {ds ws:List Value} {off:Nat} (h:Xb O cs ds) (hv:Xb O vs ws):Xb O (cs.take off++vs++cs.drop (off+vs.length)) (ds.take off++ws++ds.drop (off+ws.length)):=by
 rw [hv.len];exact ((h.take off).app hv).app (h.drop _)
theorem tu {ds ws:List Value} {off k:Nat} (h:Je ds) (hw:Je ws):Je (ds.take off++ws++ds.drop k):=fun u hu=>by
 rcases List.mem_append.1 hu with hu | hu
 ·rcases List.mem_append.1 hu with hu | hu
  ·exact h u (mem_of_mem_take hu)
  exact hw u hu
 exact h u (mem_of_mem_drop hu)
theorem al {b off T sz by':Nat} {z:Value} {cs vs cs':List PV} {ρ':List Qa} (ho:o.op=.store t x y) (hx:bt Z x=.v (.pointer (some ⟨b,off,none⟩))) (hv:kp (bt Z y)=some vs)
    (hz:iE t=some (z,sz,by')) (hsz:Nat.beq vs.length sz=true) (hu:Nc ρ (.b b T cs) (.b b T cs') ρ') (hsp:Jb cs off vs cs') (h:K (.v undef) ρ'):Qb o Z ρ K:=fun O Z' r g hs hr=>by
  obtain ⟨ws,h1,h2,h3⟩:=(hs.ev y).cells hv
  obtain ⟨r0,l1,l2,rfl,h4,h5⟩:=hr.upd hu
  obtain ⟨rfl,hl⟩:=hsp
  cases h4 with
  | b ho1 hc =>
    rename_i ds
    have hsz':=eq_of_beq_eq_true hsz
    have e1:=h2.len;have e2:=hc.len
    refine wW (T:=T) (cs:=ds) ho (hs.v1 hx) h1 hz (by omega) (List.all_eq_true.2 h3) (ble_eq_true_of_le (by omega)) ⟨l1,l2,rfl,rfl⟩ fun O' hk=>⟨.v undef,ρ',.v rfl,h5 O' _ hk (.b (tu ho1 h3) ((tr hc h2).mono hk)),h⟩
def Uc (Z:Xa) (fl:List (Nat×Nat)):List PV->List (Nat×Operand)->List PV->Prop
 | zs,[],cs=>zs=cs
 | zs,(i,x)::r,cs=>∃ k ty vs zs' z by',fl[i]?=some (k,ty)/\iE ty=some (z,vs.length,by')/\kp (bt Z x)=some vs/\Jb zs k vs zs'/\Uc Z fl zs' r cs
theorem Ip {fl:List (Nat×Nat)} {zs:List PV}:Uc Z fl zs [] zs:=rfl
theorem sZ {fl:List (Nat×Nat)} {zs zs' cs vs:List PV} {i k ty sz by':Nat} {z:Value} {x:Operand} {r:List (Nat×Operand)} (h1:fl[i]?=some (k,ty)) (h2:iE ty=some (z,sz,by')) (h3:kp (bt Z x)=some vs) (h4:Nat.beq vs.length sz=true) (h5:Jb zs k vs zs') (h6:Uc Z fl zs' r cs):Uc Z fl zs ((i,x)::r) cs :=
 ⟨k,ty,vs,zs',z,by',h1,by rw [eq_of_beq_eq_true h4];exact h2,h3,h5,h6⟩
theorem Uc.real {O:Kr} {Z':Ma} (hs:Xc O Z Z') {fl:List (Nat×Nat)}:∀ {parts:List (Nat×Operand)} {zs cs:List PV} {zv:List Value},Uc Z fl zs parts cs->Xb O zs zv->Je zv->∃ cv,Rf Z' fl zv parts cv/\Xb O cs cv/\Je cv
 | [],zs,cs,zv,h,hr,h1=>by cases h;exact ⟨zv,rfl,hr,h1⟩
 | (i,x)::r,zs,cs,zv,⟨k,ty,vs,zs',z,by',g1,g2,g3,g4,g5⟩,hr,h1=>by
  obtain ⟨ws,k1,k2,k3⟩:=(hs.ev x).cells g3
  obtain ⟨rfl,hl⟩:=g4
  obtain ⟨cv,j1,j2,j3⟩:=Uc.real hs g5 (tr hr k2) (tu h1 k3)
  have e1:=k2.len;have e2:=hr.len
  exact ⟨cv,⟨k,ty,ws,_,z,by',g1,by rw [<- e1];exact g2,k1,⟨rfl,by omega⟩,j1⟩,j2,j3⟩
theorem GN {c:Bool} {sz by':Nat} {parts:List (Nat×Operand)} {fl:List (Nat×Nat)} {zs:List Value} {zp cs:List PV} (hc:c=true) (ho:o.op=.build t parts.toArray) (hz:iE t=some (.agg zs.toArray,sz,by')) (hf:tZ t=some fl) (hall:(fl.all fun p=>(iE p.2).isSome)=true) (hzp:(zs.map fun x=>cond (sM x) (.v x) .any)=zp) (hz1:zs.all Value.oneCell'=true) (h:Uc Z fl zp parts cs):Na c o Z ρ (.agg cs):=fun O Z' ρ' g hs hr=>by
 subst hc
 obtain ⟨cv,h1,h2,h3⟩:=h.real hs (zv:=zs) (by rw [<- hzp];exact lV zs) (fun u hu=>List.all_eq_true.1 hz1 u hu)
 exact ⟨_,fun _=>.agg h3 h2,Bc ho hz hf hall h1⟩
def Qd (Z:Xa):Nat->List (Nat×Operand)->List (List PV)->Prop
 | _,[],css=>css=[]
 | k,(i,x)::r,css=>∃ cs css',css=cs::css'/\i=k/\kp (bt Z x)=some cs/\Qd Z (k+1) r css'
theorem jy {k:Nat}:Qd Z k [] []:=rfl
theorem eE {k:Nat} {x:Operand} {cs:List PV} {r:List (Nat×Operand)} {css:List (List PV)} (h1:kp (bt Z x)=some cs) (h:Qd Z (k+1) r css):Qd Z k ((k,x)::r) (cs::css):=⟨_,_,rfl,rfl,h1,h⟩
theorem Qd.real {O:Kr} {Z':Ma} (hs:Xc O Z Z'):∀ {k:Nat} {parts:List (Nat×Operand)} {css:List (List PV)},Qd Z k parts css->∃ dss,Lit Z' k parts dss/\Mb O css dss/\Wf dss
 | _,[],_,h=>by cases h;exact ⟨[],rfl,.nil,fun _ h=>by cases h⟩
 | k,(i,x)::r,_,⟨cs,css',e1,e2,h1,h2⟩=>by
  subst e1;subst e2
  obtain ⟨ds,k1,k2,k3⟩:=(hs.ev x).cells h1
  obtain ⟨dss,j1,j2,j3⟩:=h2.real hs
  exact ⟨ds::dss,⟨_,_,rfl,rfl,k1,j1⟩,.cons k2 j2,fun d hd=>by rcases List.mem_cons.1 hd with rfl | hd;exact k3;exact j3 d hd⟩
theorem xl {O:Kr} {sz:Nat}:∀ {css:List (List PV)} {dss:List (List Value)},Mb O css dss->(css.all fun cs=>Nat.beq cs.length sz)=true->(dss.all fun cs=>Nat.beq cs.length sz)=true
 | _,_,.nil,_=>rfl
 | _,_,.cons h hs,hw=>by
  simp only [List.all_cons,and_eq_true] at hw ⊢
  exact ⟨by rw [<- h.len];exact hw.1,xl hs hw.2⟩
theorem bp {E len sz by':Nat} {z:Value} {parts:List (Nat×Operand)} {css:List (List PV)} (hg:o.guard=none) (ho:o.op=.buildSlice t len parts.toArray) (hu:fQ t=some (.slice E)) (hi:iE E=some (z,sz,by')) (hz:Nat.beq z.cells.size sz=true)
    (hp:Qd Z 0 parts css) (hl:Nat.beq css.length len=true) (hw:(css.all fun cs=>Nat.beq cs.length sz)=true) (hb:Nat.ble (len*sz) 16777216=true) (hb2:Nat.ble len 16777216=true) (h:∀ b,K (.v (.slice (some ⟨b,0,none⟩) len len)) (.row (some ⟨b,0,none⟩) len len E sz css::ρ)):Qb o Z ρ K:=fun O Z' ρ' g hs hr=>by
  obtain ⟨dss,h1,h2,h3⟩:=hp.real hs
  exact ol_lit hg ho hu hi hz h1 (by rw [<- h2.len];exact hl) (xl h2 hw) hb hb2 fun b O' hk=>⟨_,_,.v rfl,.cons (.row (by have:=le_of_ble_eq_true hb2;omega) h3 (h2.mono hk)) (hr.mono hk),h b⟩
theorem za {E len sz by':Nat} {z:Value} {parts:List (Nat×Operand)} {css:List (List PV)} (hg:o.guard=none) (ho:o.op=.buildSlice t len parts.toArray) (hu:fQ t=some (.slice E)) (hi:iE E=some (z,sz,by')) (hz:Nat.beq z.cells.size sz=true)
    (hp:Qd Z 0 parts css) (hl:Nat.beq css.length len=true) (hw:(css.all fun cs=>Nat.beq cs.length sz)=true) (hb:Nat.ble (len*sz) 16777216=true):∀ O Z',Xc O Z Z'->∃ ds,Xb O css.flatten ds/\Je ds/\Kb o Z' E ds (fun b=>.slice (some ⟨b,0,none⟩) len len):=fun O Z' hs=>by
  obtain ⟨dss,h1,h2,h3⟩:=hp.real hs
  exact ⟨dss.flatten,h2.flat,fun u hu=>by obtain ⟨d,hd1,hd2⟩:=List.mem_flatten.1 hu;exact h3 d hd1 u hd2,Bh hg ho hu hi hz h1 (by rw [<- h2.len];exact hl) (xl h2 hw) hb⟩
theorem pg {z:Value} {sz by':Nat} {cs:List PV} (hg:o.guard=none) (ho:o.op=.alloc t) (hz:iE t=some (z,sz,by')) (hc:Aa z=cs) (h1:(cn z).all Value.oneCell'=true):∀ O Z',Xc O Z Z'->∃ ds,Xb O cs ds/\Je ds/\Kb o Z' t ds (fun b=>.pointer (some ⟨b,0,none⟩)):=fun O Z' hs =>
 ⟨cn z,by rw [<- hc];exact lV _,fun u hu=>List.all_eq_true.1 h1 u hu,CJ hg ho hz rfl⟩
end
def app {α:Type} (by':Nat) (xs ys:List α):Option (List α):=if (xs.length+ys.length)*by'<=140737488355328/\xs.length+ys.length<=140737488355328 then some (xs++ys) else none
theorem qa {α:Type} {by':Nat} {xs ys zs:List α} (h:app by' xs ys=some zs):zs=xs++ys/\(xs.length+ys.length)*by'<=140737488355328/\xs.length+ys.length<=140737488355328:=by
 unfold app at h;split at h
 ·injection h with h;exact ⟨h.symm,by assumption⟩
 cases h
section
variable {o:Oper} {Z:Xa} {ρ:List Qa} {s x y:Operand} {t:Nat} {K:PV->List Qa->Prop}
theorem tv {T:Nat} {a:Option Addr} {n c m sz by':Nat} {z:Value} {css css2:List (List PV)} {l:List Qa}
    (ho:o.op=.call { callee:=.builtin .append,args:=#[s,x],argTypes:=#[t,t] }) (hu:fQ t=some (.slice T)) (hi:iE T=some (z,sz,by')) (hz:Nat.beq z.cells.size sz=true) (h0:Nat.blt 0 sz=true)
    (hs:bt Z s=.v (.slice a n c)) (hp:Ub ρ (.row a n c T sz css) l)
    (hr:∀ β O Z' ρ',Xc O Z Z'->Ta O ρ ρ'->Zt β ρ' O->∃ a2 c2 dss2,ev Z' x=.slice a2 m c2/\Rd ρ' O a2 m sz dss2/\Mb O css2 dss2/\Wf dss2)
    (hb:(n+m)*by'<=140737488355328/\n+m<=140737488355328) (h:∀ a' c',K (.v (.slice a' (n+m) c')) (.row a' (n+m) c' T sz (css++css2)::l)):Qb o Z ρ K:=fun O Z' ρ' g hm hrr β hinv Nx hk=>by
  obtain ⟨a2,c2,dss2,h1,h2,h3,h4⟩:=hr β O Z' ρ' hm hrr hinv
  obtain ⟨r,l',k1,k2,k3⟩:=hrr.pick hp
  cases k2 with
  | row hbn ho1 hc =>
    rename_i dss
    exact EJ (css:=dss) ho hu hi hz h0 (hm.v1 hs) h1 k1 h2 h4 hb (fun a' c' O' hk'=>⟨_,_,.v rfl,.cons (.row hb.2 (fun d hd=>(List.mem_append.1 hd).elim (ho1 d) (h4 d)) ((hc.app h3).mono hk')) (k3.mono hk'),h a' c'⟩) β hinv Nx hk
variable {α:Type} {enc:α->List PV} {xs ys zs:List α}
theorem DP {O:Kr} {sz:Nat} (hw:∀ m,Nat.beq (enc m).length sz=true):∀ {ys:List α} {dss:List (List Value)},Mb O (ys.map enc) dss->∀ ds∈dss,ds.length=sz
 | [],_,h,ds,hd=>by rw [map_nil] at h;rw [h.nil_inv] at hd;cases hd
 | y::ys,_,h,ds,hd=>by
  rw [map_cons] at h
  obtain ⟨v,ws,rfl,h1,h2⟩:=h.cons_inv
  rcases List.mem_cons.1 hd with rfl | hd
  ·rw [<- h1.len];exact eq_of_beq_eq_true (hw y)
  exact DP hw h2 ds hd
theorem rF {T mm:Nat} {a:Option Addr} {c sz by' n:Nat} {z:Value} {l:List Qa}
    (ho:o.op=.call { callee:=.builtin .append,args:=#[s,x],argTypes:=#[t,t] }) (hu:fQ t=some (.slice T)) (hi:iE T=some (z,sz,by')) (hz:Nat.beq z.cells.size sz=true) (h0:Nat.blt 0 sz=true) (hw:∀ m,Nat.beq (enc m).length sz=true)
    (hs:bt Z s=.v (.slice a n c)) (hn:n=xs.length) (hx:bt Z x=.slc mm (ys.map enc)) (hp:Ub ρ (.row a n c T sz (xs.map enc)) l) (ha:app by' xs ys=some zs)
    (h:∀ a' c',K (.v (.slice a' zs.length c')) (.row a' zs.length c' T sz (zs.map enc)::l)):Qb o Z ρ K:=by
  obtain ⟨rfl,hb1,hb2⟩:=qa ha
  subst hn
  refine tv (m:=ys.length) (css2:=ys.map enc) ho hu hi hz h0 hs hp (fun β O Z' ρ' hm hrr hinv=>?_) ⟨hb1,hb2⟩ (fun a' c'=>by have:=h a' c';rwa [length_append,map_append] at this)
  have he:=hm.ev x
  rw [hx] at he
  generalize hw':ev Z' x=w at he
  cases he with
  | slc hsl hb h1 hss =>
    rename_i a2 c2 sz' dss2
    have hml:ys.length=mm:=by rw [<- hsl.len,<- hss.len];simp
    subst hml
    refine ⟨a2,c2,dss2,rfl,?_,hss,h1⟩
    have hrd:=rd_sl (ρ:=ρ') hsl
    rcases eq_zero_or_pos ys.length with h' | h'
    · have:dss2=[]:=eq_nil_of_length_eq_zero (by rw [hsl.len,h'])
      subst this
      exact ⟨hsl.len,fun _ h=>(by cases h),fun h=>(by omega)⟩
    have:sz'=sz:=by
      have hl:=hsl.len
      match dss2,hl with
      | [],hl=>simp only [length_nil] at hl;omega
      | d::ds,_=>rw [<- hsl.wid d (by simp),DP hw hss d (by simp)]
    subst this;exact hrd
theorem bw {T T2:Nat} {a a2:Option Addr} {c c2 sz by' n m:Nat} {z:Value} {l:List Qa}
    (ho:o.op=.call { callee:=.builtin .append,args:=#[s,x],argTypes:=#[t,t] }) (hu:fQ t=some (.slice T)) (hi:iE T=some (z,sz,by')) (hz:Nat.beq z.cells.size sz=true) (h0:Nat.blt 0 sz=true)
    (hs:bt Z s=.v (.slice a n c)) (hn:n=xs.length) (hx:bt Z x=.v (.slice a2 m c2)) (hmn:m=ys.length) (hm2:Qa.row a2 m c2 T2 sz (ys.map enc)∈ρ) (hp:Ub ρ (.row a n c T sz (xs.map enc)) l) (ha:app by' xs ys=some zs)
    (h:∀ a' c',K (.v (.slice a' zs.length c')) (.row a' zs.length c' T sz (zs.map enc)::l)):Qb o Z ρ K:=by
  obtain ⟨rfl,hb1,hb2⟩:=qa ha
  subst hn;subst hmn
  refine tv (m:=ys.length) (css2:=ys.map enc) ho hu hi hz h0 hs hp (fun β O Z' ρ' hm hrr hinv=>?_) ⟨hb1,hb2⟩ (fun a' c'=>by have:=h a' c';rwa [length_append,map_append] at this)
  obtain ⟨r,hr1,hr2⟩:=hrr.mem hm2
  cases hr2 with
  | row hb h1 hss =>
    rename_i dss
    have hrow:=Bg hr1 β hinv
    have hown:=im (hinv.own _ hr1)
    exact ⟨a2,c2,dss,hm.v1 hx,Gv hr1 (fun h=>by obtain ⟨b,e⟩:=hrow.2 h;rw [e];simp) hrow.1.1 hown.2.2,hss,h1⟩
theorem GO {T T2:Nat} {a:Option Addr} {c b sz by' n m:Nat} {z:Value} {l:List Qa} {cs:List PV}
    (ho:o.op=.call { callee:=.builtin .append,args:=#[s,x],argTypes:=#[t,t] }) (hu:fQ t=some (.slice T)) (hi:iE T=some (z,sz,by')) (hz:Nat.beq z.cells.size sz=true) (h0:Nat.blt 0 sz=true) (hw:∀ m,Nat.beq (enc m).length sz=true)
    (hs:bt Z s=.v (.slice a n c)) (hn:n=xs.length) (hx:bt Z x=.v (.slice (some ⟨b,0,none⟩) m m)) (hmn:m=ys.length) (hm2:Qa.b b T2 cs∈ρ) (hcs:cs=(ys.map enc).flatten) (hp:Ub ρ (.row a n c T sz (xs.map enc)) l) (ha:app by' xs ys=some zs)
    (h:∀ a' c',K (.v (.slice a' zs.length c')) (.row a' zs.length c' T sz (zs.map enc)::l)):Qb o Z ρ K:=by
  obtain ⟨rfl,hb1,hb2⟩:=qa ha
  subst hn;subst hmn;subst hcs
  refine tv (m:=ys.length) (css2:=ys.map enc) ho hu hi hz h0 hs hp (fun β O Z' ρ' hm hrr hinv=>?_) ⟨hb1,hb2⟩ (fun a' c'=>by have:=h a' c';rwa [length_append,map_append] at this)
  obtain ⟨r,hr1,hr2⟩:=hrr.mem hm2
  cases hr2 with
  | b h1 hss =>
    rename_i ds
    obtain ⟨dss,e1,e2,e3⟩:∃ dss,dss.flatten=ds/\Mb O (ys.map enc) dss/\∀ d∈dss,d.length=sz:=by
      clear ha h hb1 hb2 hx hm2 hr1 h1 hp
      induction ys generalizing ds with
      | nil=>simp only [map_nil,List.flatten_nil] at hss;exact ⟨[],by rw [hss.nil_inv];rfl,.nil,fun _ h=>by cases h⟩
      | cons y ys ih =>
        simp only [map_cons,flatten_cons] at hss
        have hl:=eq_of_beq_eq_true (hw y)
        have t1:=hss.take sz
        have t2:=hss.drop sz
        rw [List.take_append_of_le_length (by omega),List.take_of_length_le (by omega)] at t1
        rw [List.drop_append_of_le_length (by omega),List.drop_of_length_le (by omega),nil_append] at t2
        obtain ⟨dss,k1,k2,k3⟩:=ih t2
        refine ⟨ds.take sz::dss,by rw [flatten_cons,k1,List.take_append_drop],.cons t1 k2,fun d hd=>?_⟩
        rcases List.mem_cons.1 hd with rfl | hd
        · rw [<- t1.len];exact hl
        exact k3 d hd
    subst e1
    exact ⟨_,_,dss,hm.v1 hx,rd_b hr1 (by rw [<- e2.len];simp) e3 rfl,e2,fun d hd u hu=>h1 u (List.mem_flatten.2 ⟨d,hd,hu⟩)⟩
def mk {α:Type} (by':Nat) (z:α) (n:Int):Option (List α):=if 0<=n/\by'*n.toNat<=140737488355328/\n.toNat<=140737488355328 then some (List.replicate n.toNat z) else none
theorem mk_some {by':Nat} {z:α} {n:Int} (h:mk by' z n=some zs):(0<=n/\by'*n.toNat<=140737488355328/\n.toNat<=140737488355328)/\zs=List.replicate n.toNat z:=by
 unfold mk at h;split at h
 ·injection h with h;exact ⟨by assumption,h.symm⟩
 cases h
theorem ue {T sz by':Nat} {z:Value} {zv:α} {n:Int} (hg:o.guard=none) (ho:o.op=.makeSlice t x x) (hx:bt Z x=.v (.int .i64 n)) (hu:fQ t=some (.slice T)) (hi:iE T=some (z,sz,by')) (hzc:enc zv=Aa z) (hz1:(cn z).all Value.oneCell'=true) (hzl:Nat.beq (cn z).length sz=true) (h0:Nat.blt 0 sz=true) (hm:mk by' zv n=some zs)
    (h:∀ b,K (.v (.slice (some ⟨b,0,none⟩) zs.length zs.length)) (.row (some ⟨b,0,none⟩) zs.length zs.length T sz (zs.map enc)::ρ)):Qb o Z ρ K:=fun O Z' ρ' g hs hr=>by
  obtain ⟨⟨h1,h2,h3⟩,rfl⟩:=mk_some hm
  have hn:n=((n.toNat:Nat):Int):=by omega
  have hlr:=EK (o:=o) (Z:=Z') (n:=n.toNat) hg ho (by rw [hs.v1 hx,<- hn]) hu hi rfl (eq_of_beq_eq_true hzl) h0 (by omega)
  simp only [List.length_replicate,List.map_replicate] at h
  intro β hinv Nx hk
  refine DN hlr (K:=fun v ρ1 κ1=>∃ b,v=.slice (some ⟨b,0,none⟩) n.toNat n.toNat/\ρ1=Ja.b b T (List.replicate n.toNat (cn z)).flatten::ρ'/\Sa O κ1) (fun b O' hk=>⟨b,rfl,rfl,hk⟩) β hinv Nx fun v ρ1 κ1 h1 h2 h3=>?_
  obtain ⟨b,rfl,rfl,h4⟩:=h3
  have hv:=h1.view (r':=Ja.row (some ⟨b,0,none⟩) n.toNat n.toNat T sz (List.replicate n.toNat (cn z))) Sd.h rfl (Bf rfl (by simp) (fun c hc=>by rw [(List.mem_replicate.1 hc).2];exact eq_of_beq_eq_true hzl) h3)
  refine hk _ _ κ1 hv h2 ⟨_,_,.v rfl,.cons (.row h3 ?_ ?_) (hr.mono h4),h b⟩
  · intro d hd;rw [(List.mem_replicate.1 hd).2];exact fun u hu=>List.all_eq_true.1 hz1 u hu
  rw [hzc]
  clear h hv hlr
  generalize n.toNat=k
  induction k with
  | zero=>exact .nil
  | succ k ih=>rw [List.replicate_succ,List.replicate_succ];exact .cons (lV _) ih
def uf:Option Addr->Nat
 | some ad=>ad.block
 | none=>0
theorem nD {a:Option Addr} {n cp T sz:Nat} {dss:List (List Value)} {w:World} (h:(Ja.row a n cp T sz dss).holds w) (h0:0<n):a=some ⟨uf a,0,none⟩:=by
 cases a with
 | none=>obtain ⟨e,_⟩:=h;omega
 | some ad=>exact congrArg some h.1
theorem d9 {c:Bool} {T T2 sz by' n cp:Nat} {k:IntKind} {i:Int} {z:Value} {m:α} {a:Option Addr} (ho:o.op=.indexAddr t x y) (hu:fQ t=some (.slice T)) (hi:iE T=some (z,sz,by')) (hx:Ra Z c x (.v (.slice a n cp))) (hm2:Qa.row a n cp T2 sz (xs.map enc)∈ρ) (hy:Ra Z c y (.v (.int k i))) (hm:c=true->bx xs i=some m):Na c o Z ρ (.v (.pointer (some ⟨uf a,i.toNat * sz,none⟩))):=fun O Z' ρ' g hs hrr=>by
 refine ⟨_,fun _=>.v rfl,fun hc w hst=>?_⟩
 obtain ⟨h0,hmm⟩:=mA (hm hc)
 have hlt:=(List.getElem?_eq_some_iff.1 hmm).1
 obtain ⟨r,hr1,hr2⟩:=hrr.mem hm2
 cases hr2 with
 | row hb ho1 hc2 =>
  have hn:xs.length=n:=by have e1:=(im (hst.own _ hr1)).2.1;have e2:=hc2.len;rw [length_map] at e2;omega
  have ha:=nD (hst.own _ hr1) (by omega)
  have h:=rC (c:=true) (ρ:=ρ') (O:=O) (j:=i.toNat) ho hu hi (fun _=>by rw [hs.ve hx hc,ha]) (fun _=>hs.ve hy hc) (fun _=>by omega) (fun _=>by omega) rfl w hst
  rwa [zero_add] at h
end
theorem Ab {o:Oper} {Z:Ma} {ρ:List Ja} {O:Kr} {c:Bool} {x:Operand} {t b off T n cp sz k j:Nat} {css:List (List Value)} {cs:List Value} {v:Value} (ho:o.op=.load t x) (hx:Ev Z c x (.pointer (some ⟨b,off,none⟩))) (hoff:off=k*sz+j) (hm:Ja.row (some ⟨b,0,none⟩) n cp T sz css∈ρ) (hk:css[k]?=some cs) (hr:mw t (cs.drop j) 0=some v):Rb c o Z ρ O v:=fun hc w hs=>by
 obtain ⟨h1,h2,h3,h4,h5,cur,h6,h7,h8⟩:(Ja.row (some ⟨b,0,none⟩) n cp T sz css).holds w:=hs.own _ hm
 have hcl:=h3 cs (mem_of_getElem? hk)
 have:=qA (w:=w) (t:=t) (b:=b) (off:=off) (cs:=cs.drop j) (v:=v) (fun i u hu=>by
  rw [List.getElem?_drop] at hu
  have hj:j+i<sz:=by rcases lt_or_ge (j+i) cs.length with h | h;(omega);rw [List.getElem?_eq_none h] at hu;cases hu
  have hg:=nw h3 hk hj
  have hkn:k<n:=by rw [<- h2];exact (List.getElem?_eq_some_iff.1 hk).1
  have hlt:k*sz+(j+i)<n*sz:=by
   have:(k+1)*sz<=n*sz:=Nat.mul_le_mul_right _ hkn
   rw [add_mul] at this;omega
  have hc2:w.cell? ⟨b,off+i,none⟩=cur.toList[k*sz+(j+i)]?:=by simp [World.cell?,h6,hoff,add_assoc]
  rw [hc2]
  rw [<- h8,List.getElem?_take,if_pos hlt] at hg
  rw [hg];exact hu) hr
 simp [execOp,ho,hx hc,Instr.loadAt,Instr.sureAddr,this]
section
variable {o:Oper} {Z:Xa} {ρ:List Qa} {x y:Operand} {t:Nat} {K:PV->List Qa->Prop} {α:Type} {enc:α->List PV} {xs:List α} {m m':α} {i:Int}
theorem dj {c:Bool} {T sz off n cp:Nat} {p:PV} {a:Option Addr} (i:Int) (j:Nat) (m:α) (ho:o.op=.load t x) (hx:Ra Z c x (.v (.pointer (some ⟨uf a,off,none⟩)))) (hoff:off=i.toNat * sz+j) (hm2:Qa.row a n cp T sz (xs.map enc)∈ρ) (hm:c=true->bx xs i=some m) (hr:my t ((enc m).drop j)=some p):Na c o Z ρ p:=fun O Z' ρ' g hs hrr=>by
 cases c with
 | false=>exact Cx
 | true =>
  obtain ⟨h0,hmm⟩:=mA (hm rfl)
  obtain ⟨r,hr1,hr2⟩:=hrr.mem hm2
  cases hr2 with
  | row hb h1 hss =>
   have hcs:(xs.map enc)[i.toNat]?=some (enc m):=by rw [List.getElem?_map,hmm];rfl
   obtain ⟨ds,hd,hds⟩:=hss.get hcs
   obtain ⟨v,h4,h5⟩:=Bj (hds.drop j) (fun u hu=>h1 ds (mem_of_getElem? hd) u (mem_of_mem_drop hu)) hr
   refine ⟨v,fun _=>h5,fun _ w hst=>?_⟩
   have hw:=hst.own _ hr1
   have hn0:0<n:=by have:=(im hw).2.1;have:=(List.getElem?_eq_some_iff.1 hd).1;omega
   have ha:=nD hw hn0
   rw [ha] at hr1
   exact Ab (c:=true) ho (hs.ve hx) hoff hr1 hd h4 rfl w hst
theorem map_set {xs:List α} {k:Nat}:(xs.map enc).set k (enc m')=(xs.set k m').map enc:=by rw [List.map_set]
theorem jb {T sz sz2 by' off n cp:Nat} {z:Value} {vs:List PV} {ρ':List Qa} {a:Option Addr} (i:Int) (j:Nat) (m m':α) (ho:o.op=.store t x y) (hx:bt Z x=.v (.pointer (some ⟨uf a,off,none⟩))) (hoff:off=i.toNat * sz+j) (hv:kp (bt Z y)=some vs) (hw:∀ m,Nat.beq (enc m).length sz=true)
    (hz:iE t=some (z,sz2,by')) (hsz:Nat.beq vs.length sz2=true) (hm:bx xs i=some m) (hsp:Jb (enc m) j vs (enc m')) (hu:Nc ρ (.row a n cp T sz (xs.map enc)) (.row a n cp T sz ((xs.set i.toNat m').map enc)) ρ') (h:K (.v undef) ρ'):Qb o Z ρ K:=fun O Z' r g hs hr β hinv=>by
  obtain ⟨h0,hmm⟩:=mA hm
  obtain ⟨ws,h1,h2,h3⟩:=(hs.ev y).cells hv
  obtain ⟨r0,l1,l2,rfl,h4,h5⟩:=hr.upd hu
  obtain ⟨hsp1,hl⟩:=hsp
  cases h4 with
  | row hb ho1 hc =>
    rename_i dss
    have hcs:(xs.map enc)[i.toNat]?=some (enc m):=by rw [List.getElem?_map,hmm];rfl
    obtain ⟨ds,hd,hds⟩:=hc.get hcs
    have e1:=h2.len;have e2:=hds.len;have e3:=eq_of_beq_eq_true hsz;have e4:=eq_of_beq_eq_true (hw m)
    have hww:=hinv.own (Ja.row a n cp T sz dss) (by simp)
    have hn0:0<n:=by have:=(im hww).2.1;have:=(List.getElem?_eq_some_iff.1 hd).1;omega
    have ha:=nD hww hn0
    generalize hB:uf a=B at ha hx
    subst ha
    refine Bi (T:=T) (css:=dss) (cs:=ds) (k:=i.toNat) (j:=j) (sz:=sz) ho (hs.v1 hx) hoff h1 hz (by omega) (List.all_eq_true.2 h3) hd (by omega) ⟨l1,l2,rfl,rfl⟩ (fun O' hk=>⟨.v undef,ρ',.v rfl,h5 O' _ hk (.row hb ?_ ?_),h⟩) β hinv
    · intro d hd'
      rcases List.mem_or_eq_of_mem_set hd' with hd' | rfl
      · exact ho1 d hd'
      exact tu (ho1 ds (mem_of_getElem? hd)) h3
    rw [<- map_set,hsp1]
    exact (hc.set (tr hds h2)).mono hk
end
section
variable {n:Nat} {ops:Array Oper} {K:Ua} {o:Oper} {r:List (Nat×Oper)} {Z:Xa} {ρd ρs:List Qa} {d f:Nat} {p:PV} {c:Bool} {l:List Operand} {ts:Array Nat} {pargs:List PV} {v:PV} {x:Operand}
theorem bZ (h:K Z (ρd++ρs)):Vc n ops K [] Z ρd ρs:=fun β O Z' rd rs g hs h1 h2=>wd_nil fun κ1 hk=>⟨Z,ρd++ρs,hs.mono hk,(h1.mono hk).app (h2.mono hk),h⟩
theorem lW (hg:o.guard=none) (hd:o.dst=some d) (hlt:Nat.blt d n=true) (h:Na true o Z ρs p) (hw:Vc n ops K r (ig Z d p) ρd ρs):Vc n ops K ((0,o)::r) Z ρd ρs:=fun β O Z' rd rs g hs h1 h2=>by
 obtain ⟨v,k1,k2⟩:=h O Z' rs g hs h2
 exact wd_q hg hd hlt k2 (hw β O _ rd rs g (hs.upd (k1 rfl)) h1 h2)
theorem nT (hg:Pa ops Z o c) (hd:o.dst=some d) (hlt:Nat.blt d n=true) (h:Na c o Z ρs p) (hw:Vc n ops K r (ig Z d (pgv c p)) ρd ρs):Vc n ops K ((0,o)::r) Z ρd ρs:=fun β O Z' rd rs g hs h1 h2=>by
 obtain ⟨v,k1,k2⟩:=h O Z' rs g hs h2
 exact wd_qg (hg O Z' hs) hd hlt k2 (hw β O _ rd rs g (hs.upd (y9 k1)) h1 h2)
theorem Lc.framed {o:Oper} {Z:Ma} {ρ ρf:List Ja} {O:Kr} {K:Value->List Ja->Kr->Prop} (h:Lc o Z ρ O K):Lc o Z (ρ++ρf) O fun v ρ' O'=>∃ ρ1,ρ'=ρ1++ρf/\K v ρ1 O':=fun β hi Nx hk =>
 h.frame hi Nx fun v ρ' O' h1 h2 h3=>hk v (ρ'++ρf) O' h1 h2 ⟨ρ',rfl,h3⟩
theorem jm (hg:o.guard=none) (hd:o.dst=some d) (hlt:Nat.blt d n=true) (h:Qb o Z ρd fun p ρ'=>Vc n ops K r (ig Z d p) ρ' ρs):Vc n ops K ((1,o)::r) Z ρd ρs:=fun β O Z' rd rs g hs h1 h2 =>
 wd_l hg hd hlt fun κ1 hk=>((h κ1 Z' rd (g.mono hk) (hs.mono hk) (h1.mono hk)).framed (ρf:=rs)).mono fun v ρ' O' hk' ⟨ρ1,e,pv,ρp,k1,k2,k3⟩ =>
  ⟨ρ1,e,k3 β O' _ ρ1 rs ((g.mono hk).mono hk') (((hs.mono hk).mono hk').upd k1) k2 ((h2.mono hk).mono hk')⟩
theorem rG (hg:o.guard=none) (hd:o.dst=none) (h:Qb o Z ρd fun _ ρ'=>Vc n ops K r Z ρ' ρs):Vc n ops K ((1,o)::r) Z ρd ρs:=fun β O Z' rd rs g hs h1 h2 =>
 wd_l0 hg hd fun κ1 hk=>((h κ1 Z' rd (g.mono hk) (hs.mono hk) (h1.mono hk)).framed (ρf:=rs)).mono fun v ρ' O' hk' ⟨ρ1,e,pv,ρp,k1,k2,k3⟩ =>
  ⟨ρ1,e,k3 β O' _ ρ1 rs ((g.mono hk).mono hk') ((hs.mono hk).mono hk') k2 ((h2.mono hk).mono hk')⟩
theorem rH {T:Nat} {cs:List PV} {mk:Nat->Value} (hlo:∀ O Z',Xc O Z Z'->∃ ds,Xb O cs ds/\Je ds/\Kb o Z' T ds mk) (hok:∀ b,sM (mk b)=true) (hd:o.dst=some d) (h:∀ b,Vc n ops K r (ig Z d (.v (mk b))) (.b b T cs::ρd) ρs):Vc n ops K ((2,o)::r) Z ρd ρs:=fun β O Z' rd rs g hs h1 h2=>by
 obtain ⟨ds,k1,k2,k3⟩:=hlo O Z' hs
 exact wd_late k3 hd fun b O' hk=>h b β O' _ _ rs (g.mono hk) ((hs.mono hk).upd (.v (hok b))) (.cons (.b k2 (k1.mono hk)) (h1.mono hk)) (h2.mono hk)
theorem GP {T:Nat} {cs:List PV} {mk:Nat->Value} (hlo:∀ O Z',Xc O Z Z'->∃ ds,Xb O cs ds/\Je ds/\Kb o Z' T ds mk) (h:Vc n ops K r Z ρd ρs):Vc n ops K ((3,o)::r) Z ρd ρs:=fun β O Z' rd rs g hs h1 h2=>by
 obtain ⟨ds,k1,k2,k3⟩:=hlo O Z' hs
 exact wd_tell k3 (h β O Z' rd rs g hs h1 h2)
end
theorem EW {α β:Type} {x:Option α} {f:α->Option β} {r:β} (h:x.bind f=some r):∃ a,x=some a/\f a=some r:=by
 cases x with
 | none=>cases h
 | some a=>exact ⟨a,rfl,h⟩
theorem CL {α:Type} {b:Bool} {x y r:α} (hb:b=true) (h:cond b x y=r):x=r:=by subst hb;exact h
theorem CM {α:Type} {b:Bool} {x y r:α} (hb:b=false) (h:cond b x y=r):y=r:=by subst hb;exact h
def gd {α:Type} [Inhabited α] (c:Bool) (x:Option α):Option α:=cond c x (some default)
theorem fU {α:Type} [Inhabited α] {c:Bool} {x:Option α} {v:α} (h:gd c x=some v) (hc:c=true):x=some v:=by subst hc;exact h
def lb {α β:Type} (x:α) (f:α->Option β):Option β:=f x
theorem gD {α β:Type} {x:α} {f:α->Option β} {r:β} {P:Prop} (h:lb x f=some r) (k:∀ a,x=a->f a=some r->P):P:=k x rfl h
theorem ae {α β:Type} {x:Option α} {f:α->Option β} {r:β} {P:Prop} (h:x.bind f=some r) (k:∀ a,x=some a->f a=some r->P):P:=by
 obtain ⟨a,h1,h2⟩:=EW h;exact k a h1 h2
def nz (b:Int):Option Unit:=if b=0 then none else some ()
theorem nz_some {b:Int} {u:Unit} (h:nz b=some u):b≠0:=by unfold nz at h;split at h;cases h;assumption
def sN (b:Int):Option Unit:=if 0<=b then some () else none
theorem ug {b:Int} {u:Unit} (h:sN b=some u):0<=b:=by unfold sN at h;split at h;assumption;cases h
theorem aq {ρ l m:List Qa} {r:Qa} (h:Ub ρ r l) (h2:l.Perm m):ρ.Perm (r::m):=List.Perm.trans h (List.Perm.cons r h2)
def eI (x:Int):List PV:=[.v (.int .i64 x)]
def eB (x:Int):List PV:=[.v (.int .u8 x)]
def eS (x:Xh):List PV:=[.v (.string x)]
def eL {α:Type} (e:α->List PV) (xs:List α):List PV:=[.slc xs.length (xs.map e)]
def lC (s u:Xh):Option Xh:=if s.size+u.size<=140737488355328 then some (s++u) else none
theorem GQ {s u z:Xh} (h:lC s u=some z):s.size+u.size<=140737488355328/\z=s++u:=by
 unfold lC at h;split at h
 ·injection h with h;exact ⟨by assumption,h.symm⟩
 cases h
def sub {α:Type} (xs:List α) (lo hi:Int):Option (List α):=if 0<=lo/\lo<=hi/\hi.toNat<=xs.length then some ((xs.take hi.toNat).drop lo.toNat) else none
theorem lq {α:Type} {xs zs:List α} {lo hi:Int} (h:sub xs lo hi=some zs):(0<=lo/\lo<=hi/\hi.toNat<=xs.length)/\zs=(xs.take hi.toNat).drop lo.toNat:=by
 unfold sub at h;split at h
 ·injection h with h;exact ⟨by assumption,h.symm⟩
 cases h
def ff (s:Xh) (lo hi:Int):Option Xh:=if 0<=lo/\lo<=hi/\hi.toNat<=s.size then some (s.extract lo.toNat hi.toNat) else none
theorem u9 {s z:Xh} {lo hi:Int} (h:ff s lo hi=some z):(0<=lo/\lo<=hi/\hi.toNat<=s.size)/\z=s.extract lo.toNat hi.toNat:=by
 unfold ff at h;split at h
 ·injection h with h;exact ⟨by assumption,h.symm⟩
 cases h
theorem nc {Z:Xa} {c:Bool}:c=true->([]:List Operand).map (bt Z)=[]:=fun _=>rfl
theorem fg {Z:Xa} {c:Bool} {x:Operand} {l:List Operand} {p:PV} {ps:List PV} (h:Ra Z c x p) (hs:c=true->l.map (bt Z)=ps):c=true->(x::l).map (bt Z)=p::ps:=fun hc=>by rw [map_cons,h hc,hs hc]
section
variable {o:Oper} {Z:Xa} {ρ:List Qa} {c:Bool} {x y y2:Operand} {t:Nat} {k k2:IntKind} {a b:Int} {α:Type} {enc:α->List PV} {xs zs:List α}
theorem pq_catT {s u z:Xh} {t t':Nat} (ho:o.op=.binOp .add t x y t') (hx:Ra Z c x (.v (.string s))) (hy:Ra Z c y (.v (.string u))) (hb:c=true->lC s u=some z):Na c o Z ρ (.v (.string z)):=fun O Z' ρ' g hs hr=>by
 cases c with
 | false=>exact Cx
 | true =>
  obtain ⟨h1,rfl⟩:=GQ (hb rfl)
  exact pq_cat ho hx hy (fun _=>h1) O Z' ρ' g hs hr
theorem Bo {f:Nat} {l:List Operand} (ho:o.op=.makeFunc (.func f) #[] l.toArray):Na true o Z ρ (.fn f (l.map (bt Z))):=fun O Z' ρ' g hs hr =>
 ⟨.func (.func f) #[] (l.map (ev Z')).toArray,fun _=>.fn (lm hs l),by
  have h:=A2 (o:=o) (Z:=Z') (ρ:=ρ') (O:=O) (fn:=.func f) (l1:=[]) (l2:=l) (by rw [ho])
  simpa using h⟩
theorem Sl.dropT {O:Kr} {a:Option Addr} {n c sz m:Nat} {css:List (List Value)} (h:Sl O a n c sz css) (hm:m<=n):Sl O (if c=m then a else a.map (·.add (m*sz))) (n - m) (c - m) sz (css.drop m) :=
 ⟨by rw [length_drop,h.len],by have:=h.cap;omega,fun cs hcs=>h.wid cs (mem_of_mem_drop hcs),fun h0=>by
  obtain ⟨b,off,h1,h2⟩:=h.at_ (by omega)
  have hc:=h.cap
  rw [if_neg (by omega),h1]
  refine ⟨b,off+m*sz,by rw [Option.map_some,iU],fun j cs hj=>?_⟩
  have:=h2 (m+j) cs (by rwa [List.getElem?_drop] at hj)
  rwa [add_mul,<- add_assoc] at this⟩
theorem xm {dss dss':List (List Value)} (h:Wf dss) (hs:∀ d∈dss',d∈dss):Wf dss':=fun d hd=>h d (hs d hd)
theorem Ac {s:Xh} {l h:Nat} (hk:sM (.string s)=true):sM (.string (s.extract l h))=true:=by
 have:=le_of_ble_eq_true hk
 have h2:(s.extract l h).size<=s.size:=by rw [ByteArray.size_extract];omega
 exact ble_eq_true_of_le (by omega)
theorem Bp {s z:Xh} (ho:o.op=.slice t x (some y) (some y2) none) (hu:fQ t=some .string) (hx:Ra Z c x (.v (.string s))) (hy:Ra Z c y (.v (.int k a))) (hy2:Ra Z c y2 (.v (.int k2 b))) (hm:c=true->ff s a b=some z):Na c o Z ρ (.v (.string z)):=fun O Z' ρ' g hs hrr=>by
 cases c with
 | false=>exact Cx
 | true =>
  obtain ⟨⟨h0,h1,h2⟩,rfl⟩:=u9 (hm rfl)
  exact ⟨_,fun _=>.v (Ac (hs.pe hx rfl).ok),EL (l:=a.toNat) (h:=b.toNat) ho hu (hs.ve hx) (hs.ve hy) (hs.ve hy2) (fun _=>by omega) (fun _=>by omega) (fun _=>by omega) (fun _=>by omega)⟩
theorem CN {s z:Xh} (ho:o.op=.slice t x none (some y2) none) (hu:fQ t=some .string) (hx:Ra Z c x (.v (.string s))) (hy2:Ra Z c y2 (.v (.int k2 b))) (hm:c=true->ff s 0 b=some z):Na c o Z ρ (.v (.string z)):=fun O Z' ρ' g hs hrr=>by
 cases c with
 | false=>exact Cx
 | true =>
  obtain ⟨⟨h0,h1,h2⟩,rfl⟩:=u9 (hm rfl)
  exact ⟨_,fun _=>.v (Ac (hs.pe hx rfl).ok),vG (h:=b.toNat) ho hu (hs.ve hx) (hs.ve hy2) (fun _=>by omega) (fun _=>by omega)⟩
theorem CO {s z:Xh} (ho:o.op=.slice t x (some y) none none) (hu:fQ t=some .string) (hx:Ra Z c x (.v (.string s))) (hy:Ra Z c y (.v (.int k a))) (hm:c=true->ff s a (s.size:Int)=some z):Na c o Z ρ (.v (.string z)):=fun O Z' ρ' g hs hrr=>by
 cases c with
 | false=>exact Cx
 | true =>
  obtain ⟨⟨h0,h1,h2⟩,rfl⟩:=u9 (hm rfl)
  have:=vH (c:=true) (ρ:=ρ') (O:=O) (l:=a.toNat) ho hu (hs.ve hx) (hs.ve hy) (fun _=>by omega) (fun _=>by omega)
  exact ⟨_,fun _=>.v (Ac (hs.pe hx rfl).ok),by rw [Int.toNat_natCast];exact this⟩
end
end SX
end Go.Proofs.YtbedcfghfcmkdaaGreatDoor
