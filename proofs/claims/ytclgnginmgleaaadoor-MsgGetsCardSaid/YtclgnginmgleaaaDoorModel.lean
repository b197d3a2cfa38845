/-
  Plain Lean: what the program's packages compute, function by function, on numbers, lists and records. No Go, no memory.
-/
import Derived.WalkKit
import Derived.Test.YtclgnginmgleaaaDoorFramePure
namespace Go.Proofs.YtclgnginmgleaaaDoor.M
open Go.RowKit (wrap64)

/-! ### records -/

structure Cfg where
  cars : Int
  floors : Int
  fleets : Int
  sessions : Int
  door : Int
  dwell : Int
  hold : Int
  renew : Int
  yield : Int
  queue : Int
  quota : Int
  load : Int
  slack : Int
  retry : Int
  cap : Int
  tries : Int
  dead : Int
  window : Int
  deriving DecidableEq, Inhabited

structure Msg where
  kind : Int
  a : Int
  b : Int
  c : Int
  deriving DecidableEq, Inhabited

def Msg.zero : Msg := ⟨0, 0, 0, 0⟩

structure Packet where
  session : Int
  epoch : Int
  seq : Int
  ack : Int
  has : Bool
  msg : Msg
  deriving DecidableEq, Inhabited

def Packet.zero : Packet := ⟨0, 0, 0, 0, false, Msg.zero⟩

structure Event where
  session : Int
  msg : Msg
  deriving DecidableEq, Inhabited

structure Ask where
  session : Int
  fleet : Int
  from_ : Int
  to : Int
  mass : Int
  deriving DecidableEq, Inhabited

structure Lease where
  ask : Ask
  car : Int
  phase : Int
  until_ : Int
  renewed : Int
  granted : Int
  deriving DecidableEq, Inhabited

structure Call where
  floor : Int
  way : Int
  deriving DecidableEq, Inhabited

structure Wait where
  call : Call
  car : Int
  since : Int
  deriving DecidableEq, Inhabited

structure Door where
  state : Int
  at_ : Int
  deriving DecidableEq, Inhabited

structure Stops where
  press : BitVec 64
  up : BitVec 64
  down : BitVec 64
  deriving DecidableEq, Inhabited

structure Car where
  door : Door
  unit : Int
  way : Int
  timer : Int
  just : Int
  load : Int
  blocked : Bool
  broken : Bool
  mode : Int
  target : Int
  hold : Bool
  stops : Stops
  deriving DecidableEq, Inhabited

structure Cmd where
  run : Int
  opens : Bool
  closes : Bool
  deriving DecidableEq, Inhabited

structure View where
  unit : Int
  door : Int
  mode : Int
  way : Int
  load : Int
  deriving DecidableEq, Inhabited

/-! ### tick -/

def clamp (n : Int) : Int := min (max n 0) 1099511627776
def tadd (a b : Int) : Int := clamp (clamp a + clamp b)
def tmul (a b : Int) : Int := if 0 < clamp a ∧ 1099511627776 / clamp a < clamp b then 1099511627776 else clamp a * clamp b
def late (now till : Int) : Bool := decide (clamp till ≤ clamp now)
def pause (base most tries : Int) : Int := min (tmul base (2 ^ (min (max tries 0) 62).toNat)) (clamp most)

/-! ### serial -/

def u16 (n : Int) : Int := n % 65536
def snext (n : Int) : Int := u16 (u16 n + 1)
def near (a b : Int) : Int := let d := u16 (b - a); if 32768 ≤ d then d - 65536 else d
def newer (a b : Int) : Bool := decide (0 < near a b)

/-! ### link -/

structure Link where
  c : Cfg
  session : Int
  epoch : Int
  queue : List Msg
  seq : Int
  ack : Int
  sent : Int
  due : Int
  answer : Bool
  heard : Int
  deriving DecidableEq, Inhabited

def Link.new (c : Cfg) (session epoch now : Int) : Link := ⟨c, session, u16 epoch, [], 0, 0, 0, 0, false, clamp now⟩

def Link.send (l : Link) (m : Msg) : Option Link :=
  if min (max l.c.window 1) 16 ≤ l.queue.length then none else some { l with queue := l.queue ++ [m] }

def Link.ready (l : Link) (now : Int) : Bool := decide (l.queue ≠ []) && late now l.due

def Link.poll (l : Link) (now : Int) : Link × Option Packet :=
  let p : Packet := ⟨l.session, l.epoch, l.seq, l.ack, false, Msg.zero⟩
  if l.ready now then
    ({ l with due := tadd now (pause l.c.retry l.c.cap l.sent), sent := wrap64 (l.sent + 1), answer := false }, some { p with has := true, msg := l.queue.headD Msg.zero })
  else if l.answer then ({ l with answer := false }, some p)
  else (l, none)

/-- The first half of Recv: what the packet says of what was sent. -/
def Link.acked (l : Link) (p : Packet) (now : Int) : Link :=
  let l := { l with heard := max l.heard (clamp now) }
  if l.queue ≠ [] ∧ p.ack = snext l.seq then { l with queue := l.queue.tail, seq := snext l.seq, sent := 0, due := 0 } else l

def Link.recv (l : Link) (p : Packet) (now : Int) : Link × Option Msg :=
  if p.session ≠ l.session ∨ p.epoch ≠ l.epoch then (l, none)
  else
    let l := l.acked p now
    if !p.has || newer l.ack p.seq then (l, none)
    else
      let l := { l with answer := true }
      if p.seq ≠ l.ack then (l, none) else ({ l with ack := snext l.ack }, some p.msg)

def Link.dead (l : Link) (now : Int) : Bool := (l.ready now && decide (max l.c.tries 0 < l.sent)) || late now (tadd l.heard l.c.dead)

/-! ### door, motor, cell -/

def span (n : Int) : Int := min (max n 1) 1000
def floors (n : Int) : Int := min (max n 2) 64
def mass (n : Int) : Int := min (max n 0) 10000

def Door.opened (d : Door) : Door := if d.state = 0 ∨ d.state = 3 then { d with state := 1 } else d
def Door.closed (d : Door) : Door := if d.state = 2 ∨ d.state = 1 then { d with state := 3 } else d
def Door.tick (d : Door) (ticks : Int) (blocked : Bool) : Door :=
  if d.state = 3 ∧ blocked = true then { d with state := 1 }
  else if d.state = 3 then (if max (d.at_ - 1) 0 = 0 then ⟨0, 0⟩ else { d with at_ := max (d.at_ - 1) 0 })
  else if d.state = 1 then (if min (d.at_ + 1) (span ticks) = span ticks then ⟨2, span ticks⟩ else { d with at_ := min (d.at_ + 1) (span ticks) })
  else d

def isLevel (unit : Int) : Bool := decide (0 ≤ unit ∧ unit ≤ 252 ∧ unit % 4 = 0)
def levelOf (unit : Int) : Int := if isLevel unit then unit / 4 else 0
def move (unit way fl : Int) : Int := if way = 1 ∧ unit < 4 * (floors fl - 1) then unit + 1 else if way = 2 ∧ 0 < unit then unit - 1 else unit
def toward (unit floor : Int) : Int := if unit < 4 * floor then 1 else if 4 * floor < unit then 2 else 0
def far (unit floor : Int) : Int := max (4 * floor - unit) (unit - 4 * floor)
def over (load limit : Int) : Bool := decide (mass limit < mass load)
def massNear (load m slack : Int) : Bool := decide (max (mass load - mass m) (-(mass load - mass m)) ≤ mass slack)

/-! ### plant, stops, scan, carctl -/

def Car.new : Car := ⟨⟨0, 0⟩, 0, 0, 0, -1, 0, false, false, 0, 0, false, ⟨0, 0, 0⟩⟩

def doorStep (c : Cfg) (x : Car) (cmd : Cmd) : Door :=
  (if x.broken then x.door else if cmd.opens = true ∧ isLevel x.unit = true then x.door.opened else if cmd.closes then x.door.closed else x.door).tick c.door x.blocked
def stays (c : Cfg) (x : Car) (cmd : Cmd) : Bool := x.broken || decide (x.door.state ≠ 0) || decide ((doorStep c x cmd).state ≠ 0) || decide (cmd.run ≠ 1 ∧ cmd.run ≠ 2)
def Car.step (c : Cfg) (x : Car) (cmd : Cmd) : Car :=
  if stays c x cmd then { x with door := doorStep c x cmd }
  else { x with door := doorStep c x cmd, way := cmd.run, unit := move x.unit cmd.run c.floors }

def bit (floor : Int) : BitVec 64 := if 0 ≤ floor ∧ floor < 64 then 1#64 <<< floor.toNat else 0#64
def Stops.all (s : Stops) : BitVec 64 := s.press ||| s.up ||| s.down
def Stops.row (s : Stops) (way : Int) : BitVec 64 := if way = 1 then s.up else if way = 2 then s.down else 0#64
def Stops.pressed (s : Stops) (floor : Int) : Stops := { s with press := s.press ||| bit floor }
def Stops.halled (s : Stops) (floor way : Int) : Stops :=
  if way = 1 then { s with up := s.up ||| bit floor } else if way = 2 then { s with down := s.down ||| bit floor } else s
def Stops.cleared (s : Stops) (floor way : Int) : Stops :=
  let s := { s with press := s.press &&& ~~~ bit floor }
  if way = 1 then { s with up := s.up &&& ~~~ bit floor } else if way = 2 then { s with down := s.down &&& ~~~ bit floor } else s
def Stops.hallAt (s : Stops) (floor way : Int) : Bool := s.row way &&& bit floor != 0#64
def Stops.here (s : Stops) (floor : Int) : Bool := s.all &&& bit floor != 0#64
def Stops.ahead (s : Stops) (floor way : Int) : Bool :=
  (List.range 64).any fun n => s.here n && ((decide (way = 1) && decide (floor < n)) || (decide (way = 2) && decide ((n : Int) < floor)))
def ones (x : BitVec 64) : Int := ((List.range 64).filter fun i => x.getLsbD i).length
def Stops.count (s : Stops) : Int := ones s.press + ones s.up + ones s.down

def other (way : Int) : Int := if way = 1 then 2 else if way = 2 then 1 else 0
def first2 (p : Int → Bool) (a b : Int) : Int := if p a then a else if p b then b else 0

def nextStill (s : Stops) (floor just : Int) : Int × Bool :=
  let gone := first2 (s.ahead floor) 1 2
  if s.here floor = true ∧ (floor ≠ just ∨ gone = 0) then (first2 (s.hallAt floor) 1 2, true) else (gone, false)

def serve (s : Stops) (floor way : Int) : Int × Bool :=
  let on := s.ahead floor way
  if s.hallAt floor way = true ∨ (on = true ∧ s.press.getLsbD floor.toNat = true) then (way, true)
  else if on then (0, false)
  else if s.hallAt floor (other way) then (other way, true)
  else (way, true)

def next (s : Stops) (floor way just : Int) : Int × Bool :=
  if way = 0 then nextStill s floor just
  else
    let gone := first2 (s.ahead floor) way (other way)
    if s.here floor = true ∧ (floor ≠ just ∨ gone = 0) then
      if floor = just ∧ s.hallAt floor (other way) = true then (other way, true)
      else if (serve s floor way).2 then ((serve s floor way).1, true) else (gone, false)
    else (gone, false)

def Car.idle (x : Car) : Bool := isLevel x.unit && decide (x.mode = 0) && !x.broken && decide (x.door.state = 0) && decide (x.way = 0) && decide (x.stops.count = 0)

/-- What a control has: the car, what it is told, the call, and is it served. -/
structure Ctl where
  car : Car
  cmd : Cmd
  call : Call
  served : Bool
  deriving DecidableEq, Inhabited

def Ctl.stand (k : Ctl) (c : Cfg) (floor : Int) : Ctl :=
  let r := next k.car.stops floor k.car.way k.car.just
  if r.2 then
    { car := { k.car with way := r.1, timer := span c.dwell, just := floor, stops := k.car.stops.cleared floor r.1 }, cmd := { k.cmd with opens := true }, call := ⟨floor, r.1⟩, served := k.car.stops.hallAt floor r.1 }
  else if r.1 = 0 then { k with car := { k.car with way := 0 } }
  else { k with cmd := { k.cmd with run := r.1 }, car := { k.car with just := -1 } }

def Ctl.normal (k : Ctl) (c : Cfg) : Ctl :=
  if k.car.door.state = 0 ∧ isLevel k.car.unit = false then { k with cmd := { k.cmd with run := k.car.way } }
  else if k.car.door.state = 0 then k.stand c (levelOf k.car.unit)
  else if k.car.door.state ≠ 2 then k
  else if k.car.blocked = true ∨ over k.car.load c.load = true then { k with car := { k.car with timer := span c.dwell } }
  else { k with car := { k.car with timer := wrap64 (k.car.timer - 1) }, cmd := { k.cmd with closes := decide (wrap64 (k.car.timer - 1) ≤ 0) } }

def Ctl.leased (k : Ctl) : Ctl :=
  let there := isLevel k.car.unit = true ∧ levelOf k.car.unit = k.car.target
  if k.car.door.state = 0 ∧ there then { k with cmd := { k.cmd with opens := k.car.hold } }
  else if k.car.door.state = 0 then { k with cmd := { k.cmd with run := toward k.car.unit k.car.target }, car := { k.car with just := -1 } }
  else if there ∧ k.car.hold = true then { k with cmd := { k.cmd with opens := decide (k.car.door.state = 3) } }
  else { k with cmd := { k.cmd with closes := decide (k.car.door.state = 2) && !k.car.blocked } }

def Car.tick (c : Cfg) (x : Car) : Car × Option Call :=
  let k : Ctl := ⟨x, ⟨0, false, false⟩, ⟨0, 0⟩, false⟩
  let k := if x.broken then k else if x.mode = 1 then k.leased else k.normal c
  (k.car.step c k.cmd, if k.served then some k.call else none)

/-! ### eta, group -/

def onway (x : Car) (call : Call) : Bool :=
  if x.way = 0 then true else decide (x.way = call.way) && (decide (toward x.unit call.floor = 0) || decide (toward x.unit call.floor = call.way))
def cost (c : Cfg) (x : Car) (call : Call) : Int :=
  let n := far x.unit call.floor + x.stops.count * (2 * span c.door + span c.dwell)
  if onway x call then n else n + 8 * (floors c.floors - 1)
def Car.usable (x : Car) : Bool := decide (x.mode = 0) && !x.broken
/-- The first i cars: the best one's place. -/
def bestOf (c : Cfg) (cars : List Car) (call : Call) : Nat → Option Nat
  | 0 => none
  | i + 1 =>
    let b := bestOf c cars call i
    if (cars.getD i Car.new).usable = false then b
    else match b with
      | none => some i
      | some j => if cost c (cars.getD i Car.new) call < cost c (cars.getD j Car.new) call then some i else b
def best (c : Cfg) (cars : List Car) (call : Call) : Option Nat := bestOf c cars call cars.length

structure Group where
  c : Cfg
  cars : List Car
  waits : List Wait
  now : Int
  deriving DecidableEq, Inhabited

def Group.new (c : Cfg) : Group := ⟨c, List.replicate (min (max c.cars 1) 8).toNat Car.new, [], 0⟩
def Group.floor (g : Group) (n : Int) : Bool := decide (0 ≤ n ∧ n < floors g.c.floors)
def Group.hasCar (g : Group) (n : Int) : Bool := decide (0 ≤ n ∧ n < g.cars.length)
def Group.car (g : Group) (n : Int) : Car := g.cars.getD n.toNat Car.new
def Group.setCar (g : Group) (n : Int) (x : Car) : Group := { g with cars := g.cars.set n.toNat x }

def Group.hall (g : Group) (floor way : Int) : Group × Int :=
  if g.floor floor = false then (g, 1)
  else if (way = 1 ∧ g.floor (floor + 1) = true) ∨ (way = 2 ∧ floor ≠ 0) then
    (if g.waits.any fun w => w.call == ⟨floor, way⟩ then g else { g with waits := g.waits ++ [⟨⟨floor, way⟩, -1, g.now⟩] }, 0)
  else (g, 1)
def Group.press (g : Group) (n floor : Int) : Group × Int :=
  if g.hasCar n = false ∨ g.floor floor = false then (g, 1)
  else if (g.car n).broken = true ∨ (g.car n).mode ≠ 0 then (g, 7)
  else (g.setCar n { g.car n with stops := (g.car n).stops.pressed floor }, 0)
def Group.load (g : Group) (n kg : Int) : Group × Int := if g.hasCar n then (g.setCar n { g.car n with load := kg }, 0) else (g, 1)
def Group.curtain (g : Group) (n : Int) (b : Bool) : Group × Int := if g.hasCar n then (g.setCar n { g.car n with blocked := b }, 0) else (g, 1)
def dropCar (n : Int) (w : Wait) : Wait := if w.car = n then { w with car := -1 } else w
def Group.fault (g : Group) (n : Int) (b : Bool) : Group × Int :=
  if g.hasCar n then
    (if b then { g.setCar n { g.car n with broken := true, stops := ⟨0, 0, 0⟩ } with waits := g.waits.map (dropCar n) } else g.setCar n { g.car n with broken := false }, 0)
  else (g, 1)
def Group.take (g : Group) (n floor : Int) : Group × Int :=
  if g.hasCar n = false ∨ g.floor floor = false then (g, 1)
  else if (g.car n).idle = false then (g, 7)
  else (g.setCar n { g.car n with mode := 1, target := floor, hold := true }, 0)
def Group.aim (g : Group) (n floor : Int) (hold : Bool) : Group × Int :=
  if g.hasCar n = false ∨ g.floor floor = false then (g, 1)
  else if (g.car n).mode ≠ 1 then (g, 7)
  else (g.setCar n { g.car n with target := floor, hold := hold }, 0)
def Group.give (g : Group) (n : Int) : Group × Int :=
  if g.hasCar n = false then (g, 1)
  else if (g.car n).mode ≠ 1 then (g, 7)
  else (g.setCar n { g.car n with mode := 0, target := 0, hold := false, just := -1, timer := span g.c.dwell, way := if isLevel (g.car n).unit then 0 else (g.car n).way }, 0)

def Group.assign1 (g : Group) (i : Nat) : Group :=
  let w := g.waits.getD i default
  if 0 ≤ w.car then g
  else match best g.c g.cars w.call with
    | none => g
    | some b => { g with waits := g.waits.set i { w with car := b }, cars := g.cars.set b { g.cars.getD b Car.new with stops := (g.cars.getD b Car.new).stops.halled w.call.floor w.call.way } }
def Group.assign (g : Group) : Group := (List.range g.waits.length).foldl Group.assign1 g

def Group.tick1 (s : Group × List Wait) (n : Nat) : Group × List Wait :=
  let r := (s.1.cars.getD n Car.new).tick s.1.c
  let g := { s.1 with cars := s.1.cars.set n r.1 }
  match r.2 with
  | none => (g, s.2)
  | some call => ({ g with waits := g.waits.filter fun w => !(w.call == call) }, s.2 ++ g.waits.filter fun w => w.call == call)
def Group.tick (g : Group) : Group × List Wait :=
  let g := ({ g with now := tadd g.now 1 }).assign
  (List.range g.cars.length).foldl Group.tick1 (g, [])

/-! ### fleet, queue, lease, ride -/

def quota (c : Cfg) : Int := min (max c.quota 1) 8
def fcount (l : List Lease) (fleet : Int) : Int := ((l.filter fun x => decide (x.ask.fleet = fleet)).length : Nat)
def ffree (c : Cfg) (l : List Lease) (fleet : Int) : Bool := decide (fcount l fleet < quota c)
def isin (n count : Int) : Bool := decide (0 ≤ n ∧ n < count)
def may (c : Cfg) (a : Ask) : Bool :=
  isin a.session (min (max c.sessions 1) 64) && isin a.fleet (min (max c.fleets 1) 8) && isin a.from_ (floors c.floors) && isin a.to (floors c.floors) && decide (a.from_ ≠ a.to) && decide (1 ≤ a.mass) && decide (a.mass ≤ mass c.load)

structure Queue where
  list : List Ask
  room : Int
  deriving DecidableEq, Inhabited

def Queue.new (room : Int) : Queue := ⟨[], min (max room 0) 64⟩
def Queue.has (q : Queue) (session : Int) : Bool := q.list.any fun a => decide (a.session = session)
def Queue.place (q : Queue) (session : Int) : Nat := q.list.findIdx fun a => decide (a.session = session)
def Queue.put (q : Queue) (a : Ask) : Queue × Int :=
  if q.has a.session then (q, 7) else if q.room ≤ q.list.length then (q, 5) else ({ q with list := q.list ++ [a] }, 0)
def Queue.drop (q : Queue) (session : Int) : Queue := { q with list := q.list.eraseP fun a => decide (a.session = session) }

structure Table where
  c : Cfg
  list : List Lease
  deriving DecidableEq, Inhabited

def trip (c : Cfg) : Int := 4 * (floors c.floors - 1) + 3 * span c.door + 4
def Table.good (t : Table) (l : Lease) : Bool := may t.c l.ask && decide (0 ≤ l.car) && decide (l.car < 8) && decide (1 ≤ l.phase) && decide (l.phase ≤ 4)
def Table.put (t : Table) (l : Lease) : Table × Int :=
  if t.good l = false then (t, 1)
  else if t.list.any fun x => decide (x.ask.session = l.ask.session) || decide (x.car = l.car) then (t, 7)
  else if ffree t.c t.list l.ask.fleet = false then (t, 5)
  else ({ t with list := t.list ++ [l] }, 0)
/-- The first one that is right is another one. -/
def setFirst (p : Lease → Bool) (l : Lease) : List Lease → List Lease
  | [] => []
  | x :: r => if p x then l :: r else x :: setFirst p l r
def Table.same (l x : Lease) : Bool := decide (x.ask.session = l.ask.session) && decide (x.car = l.car) && decide (x.ask.fleet = l.ask.fleet)
def Table.set (t : Table) (l : Lease) : Table × Int :=
  if t.good l = false then (t, 1)
  else if t.list.any (Table.same l) then ({ t with list := setFirst (Table.same l) l t.list }, 0) else (t, 6)
def Table.of (t : Table) (session : Int) : Option Lease := t.list.find? fun x => decide (x.ask.session = session)
def Table.end_ (t : Table) (session : Int) : Table := { t with list := t.list.eraseP fun x => decide (x.ask.session = session) }

def isOpen (x : Car) (floor : Int) : Bool := isLevel x.unit && decide (levelOf x.unit = floor) && decide (x.door.state = 2)
def rideTick (c : Cfg) (l : Lease) (x : Car) (now : Int) : Lease × List Msg × Bool :=
  if x.broken = true ∨ late now l.until_ = true then (l, [⟨16, l.phase, 0, 0⟩], true)
  else if l.phase = 1 ∧ isOpen x l.ask.from_ = true then ({ l with phase := 2, until_ := tadd now (span c.hold) }, [⟨8, l.ask.from_, 0, 0⟩], false)
  else if l.phase = 3 ∧ isOpen x l.ask.to = true then ({ l with phase := 4, until_ := tadd now (span c.hold) }, [⟨12, l.ask.to, 0, 0⟩], false)
  else (l, [], false)
def renewals (c : Cfg) : Int := min (max c.renew 0) 1000
def rideHear (c : Cfg) (l : Lease) (x : Car) (now : Int) (m : Msg) : Lease × List Msg × Bool :=
  if m.kind = 9 ∧ l.phase = 2 ∧ massNear x.load l.ask.mass c.slack = false then (l, [⟨11, mass x.load, 0, 0⟩], false)
  else if m.kind = 9 ∧ l.phase = 2 then ({ l with phase := 3, until_ := tadd now (trip c) }, [⟨10, 0, 0, 0⟩], false)
  else if m.kind = 13 ∧ l.phase = 4 then (l, [⟨14, 0, 0, 0⟩], true)
  else if m.kind = 15 ∧ (l.phase = 2 ∨ l.phase = 4) ∧ l.renewed < renewals c then
    ({ l with until_ := tadd now (span c.hold), renewed := wrap64 (l.renewed + 1) }, [⟨4, l.car, 0, 0⟩], false)
  else (l, [⟨7, l.phase, 0, 0⟩], false)
def rideAim (l : Lease) : Int := if l.phase ≤ 2 then l.ask.from_ else l.ask.to

/-! ### core -/

structure Core where
  c : Cfg
  g : Group
  queue : Queue
  table : Table
  out : List Event
  deriving DecidableEq, Inhabited

def Core.new (c : Cfg) : Core := ⟨c, Group.new c, Queue.new c.queue, ⟨c, []⟩, []⟩
def Core.say (k : Core) (session : Int) (l : List Msg) : Core := { k with out := k.out ++ l.map fun m => ⟨session, m⟩ }
def Core.said (k : Core) : Core × List Event := ({ k with out := [] }, k.out)
def Core.put (k : Core) (a : Ask) : Core :=
  let r := k.queue.put a
  let k := { k with queue := r.1 }
  if r.2 = 0 then k.say a.session [⟨5, k.queue.place a.session, 0, 0⟩]
  else if r.2 = 5 then k.say a.session [⟨6, 0, 0, 0⟩]
  else k.say a.session [⟨7, 5, 0, 0⟩]
def Core.ask (k : Core) (a : Ask) : Core × List Event :=
  (if may k.c a = false then k.say a.session [⟨7, 0, 0, 0⟩]
   else if (k.table.of a.session).isSome then k.say a.session [⟨7, 5, 0, 0⟩]
   else k.put a).said
def Core.end_ (k : Core) (session : Int) : Core :=
  match k.table.of session with
  | none => k
  | some l => { k with table := k.table.end_ session, g := (k.g.give l.car).1 }
def Core.after (k : Core) (r : Lease × List Msg × Bool) : Core :=
  let k := k.say r.1.ask.session r.2.1
  if r.2.2 then k.end_ r.1.ask.session
  else { k with table := (k.table.set r.1).1, g := (k.g.aim r.1.car (rideAim r.1) true).1 }
def Core.hear (k : Core) (session : Int) (m : Msg) : Core × List Event :=
  (match k.table.of session with
   | some l => k.after (rideHear k.c l (k.g.car l.car) k.g.now m)
   | none => k.say session [⟨7, 0, 0, 0⟩]).said
def Core.gone (k : Core) (session : Int) : Core := let k := k.end_ session; { k with queue := k.queue.drop session }
def Core.calm (k : Core) : Bool :=
  decide (2 ≤ (k.g.cars.filter Car.usable).length) && (k.g.waits.all fun w => decide (k.g.now - w.since ≤ span k.c.yield))
def Core.full (k : Core) : List Int := (k.table.list.filter fun l => !ffree k.c k.table.list l.ask.fleet).map fun l => l.ask.fleet
def nearOf (cars : List Car) (floor : Int) : Nat → Option Nat
  | 0 => none
  | i + 1 =>
    let b := nearOf cars floor i
    let x := cars.getD i Car.new
    if x.idle = false ∨ x.blocked = true ∨ 0 < x.load then b
    else match b with
      | none => some i
      | some j => if far x.unit floor < far (cars.getD j Car.new).unit floor then some i else b
def Core.near (k : Core) (floor : Int) : Option Nat := nearOf k.g.cars floor k.g.cars.length
def Core.grant (k : Core) : Core :=
  if k.calm = false then k
  else match k.queue.list.find? fun a => !(k.full.contains a.fleet) with
    | none => k
    | some a => match k.near a.from_ with
      | none => k
      | some car =>
        let r := k.g.take car a.from_
        if r.2 ≠ 0 then { k with g := r.1 }
        else
          let l : Lease := ⟨a, car, 1, tadd k.g.now (trip k.c), 0, k.g.now⟩
          ({ k with g := r.1, queue := k.queue.drop a.session, table := (k.table.put l).1 }).say a.session [⟨4, car, 0, 0⟩]
def Core.tickLease (k : Core) (l : Lease) : Core := k.after (rideTick k.c l (k.g.car l.car) k.g.now)
def Core.tick (k : Core) : Core × List Event × List Wait :=
  let r := k.g.tick
  let k := { k with g := r.1 }
  let k := k.table.list.foldl Core.tickLease k
  let k := k.grant
  (k.said.1, k.said.2, r.2)

/-! ### msg -/

def byteOf (n : Int) : UInt8 := UInt8.ofNat (n % 256).toNat
def be2 (n : Int) : List UInt8 := [byteOf (n / 256), byteOf n]
def be4 (n : Int) : List UInt8 := [byteOf (n / 16777216), byteOf (n / 65536), byteOf (n / 256), byteOf n]
def numberOf (b : List UInt8) : Int := b.foldl (fun n x => n * 256 + x.toNat) 0
def kindOk (n : Int) : Bool := decide (1 ≤ n ∧ n ≤ 16)
def inside (most n : Int) : Bool := decide (0 ≤ n ∧ n ≤ most)
def Packet.good (p : Packet) : Bool :=
  inside 255 p.session && inside 65535 p.epoch && inside 65535 p.seq && inside 65535 p.ack &&
    ((!p.has && decide (p.msg = Msg.zero)) || (p.has && kindOk p.msg.kind && inside 2147483647 p.msg.a && inside 2147483647 p.msg.b && inside 2147483647 p.msg.c))
def Packet.bytes (p : Packet) : List UInt8 :=
  [1, byteOf p.session] ++ be2 p.epoch ++ be2 p.seq ++ be2 p.ack ++ (if p.has then byteOf p.msg.kind :: (be4 p.msg.a ++ be4 p.msg.b ++ be4 p.msg.c) else [])
def msgPut (p : Packet) : Option (List UInt8) := if p.good then some p.bytes else none
def shortOf (b : List UInt8) : Packet := ⟨(b.getD 1 0).toNat, numberOf ((b.drop 2).take 2), numberOf ((b.drop 4).take 2), numberOf ((b.drop 6).take 2), false, Msg.zero⟩
def longOf (b : List UInt8) : Packet :=
  { shortOf b with has := true, msg := ⟨(b.getD 8 0).toNat, numberOf ((b.drop 9).take 4), numberOf ((b.drop 13).take 4), numberOf ((b.drop 17).take 4)⟩ }
def msgGet (b : List UInt8) : Packet × Int :=
  if (b.length ≠ 8 ∧ b.length ≠ 21) ∨ b.getD 0 0 ≠ 1 then (Packet.zero, 2)
  else if b.length = 8 then (shortOf b, 0)
  else if kindOk (longOf b).msg.kind = false then (Packet.zero, 4)
  else if (longOf b).good = false then (Packet.zero, 2)
  else (longOf b, 0)
def isRobot (k : Int) : Bool := decide (k = 1 ∨ k = 3 ∨ k = 9 ∨ k = 13 ∨ k = 15)

/-! ### gateway -/

structure Sess where
  link : Link
  hello : Msg
  used : Bool
  deriving DecidableEq, Inhabited

structure Gw where
  c : Cfg
  core : Core
  wait : List UInt8
  sess : Int → Option Sess
  epoch : Int

structure Step where
  kind : Int
  a : Int
  b : Int
  data : List UInt8
  deriving DecidableEq, Inhabited

structure Out where
  session : Int
  data : List UInt8
  deriving DecidableEq, Inhabited

def upd (f : Int → Option Sess) (n : Int) (s : Option Sess) : Int → Option Sess := fun k => if k = n then s else f k

def Gw.new (c : Cfg) : Gw := ⟨c, Core.new c, [], fun _ => none, 0⟩
def Gw.now (g : Gw) : Int := g.core.g.now
def Gw.end_ (g : Gw) (n : Int) : Gw := { g with core := g.core.gone n, sess := upd g.sess n none }
def Gw.out1 (g : Gw) (e : Event) : Gw :=
  match g.sess e.session with
  | none => g
  | some s => match s.link.send e.msg with
    | some l => { g with sess := upd g.sess e.session (some { s with link := l }) }
    | none => g.end_ e.session
def Gw.out (g : Gw) (l : List Event) : Gw := l.foldl Gw.out1 g
def Gw.most (g : Gw) : Int := min (max g.c.sessions 1) 64
def Gw.isHello (g : Gw) (p : Packet) : Bool := p.has && decide (p.msg.kind = 1) && decide (p.epoch = 0) && decide (p.seq = 0) && decide (p.session < g.most)
def Gw.nextEpoch (g : Gw) : Int := if snext g.epoch = 0 then snext (snext g.epoch) else snext g.epoch
def Gw.fresh (g : Gw) (p : Packet) : Gw :=
  let n := g.nextEpoch
  ({ g with epoch := n, sess := upd g.sess p.session (some ⟨Link.new g.c p.session n g.now, p.msg, false⟩) }).out [⟨p.session, ⟨2, n, 0, 0⟩⟩]
def Gw.begin_ (g : Gw) (p : Packet) : Gw :=
  match g.sess p.session with
  | none => g.fresh p
  | some s => if s.used = false ∧ s.hello.a = p.msg.a ∧ s.hello.b = p.msg.b then g else (g.end_ p.session).fresh p
def Gw.heard (g : Gw) (n : Int) (s : Sess) (m : Msg) : Gw :=
  let g := { g with sess := upd g.sess n (some { s with used := true }) }
  if m.kind = 3 then
    let r := g.core.ask ⟨n, s.hello.b, m.a, m.b, m.c⟩
    ({ g with core := r.1 }).out r.2
  else if m.kind ≠ 1 ∧ isRobot m.kind = true then
    let r := g.core.hear n m
    ({ g with core := r.1 }).out r.2
  else g
def Gw.packet (g : Gw) (payload : List UInt8) : Gw :=
  let r := msgGet payload
  if r.2 ≠ 0 then g
  else if g.isHello r.1 then g.begin_ r.1
  else match g.sess r.1.session with
    | none => g
    | some s =>
      let q := s.link.recv r.1 g.now
      let s := { s with link := q.1 }
      let g := { g with sess := upd g.sess r.1.session (some s) }
      match q.2 with
      | none => g
      | some m => g.heard r.1.session s m
def Gw.bytesIn (g : Gw) (data : List UInt8) : Gw :=
  let r := Fr.frames (g.wait ++ data)
  { r.1.foldl Gw.packet g with wait := r.2 }
def Gw.poll (s : Gw × List Out) (n : Int) : Gw × List Out :=
  let g := s.1
  match g.sess n with
  | none => s
  | some x =>
    if x.link.dead g.now then (g.end_ n, s.2)
    else
      let r := x.link.poll g.now
      let g := { g with sess := upd g.sess n (some { x with link := r.1 }) }
      match r.2 with
      | none => (g, s.2)
      | some p => (g, s.2 ++ [⟨n, ((msgPut p).map Fr.frameOf).getD []⟩])
def Gw.sessions (g : Gw) : List Int := ((List.range 64).map fun (n : Nat) => (n : Int)).filter fun n => (g.sess n).isSome
def Gw.tick (g : Gw) : Gw × List Out :=
  let r := g.core.tick
  let g := ({ g with core := r.1 }).out r.2.1
  g.sessions.foldl Gw.poll (g, [])
def Car.view (x : Car) : View := ⟨x.unit, x.door.state, if x.broken then 2 else x.mode, x.way, x.load⟩
def Gw.views (g : Gw) : List View := g.core.g.cars.map Car.view
def Gw.epochOf (g : Gw) (n : Int) : Int := match g.sess n with | none => 0 | some s => s.link.epoch
def Gw.setG (g : Gw) (r : Group × Int) : Gw × List Out × Int := ({ g with core := { g.core with g := r.1 } }, [], r.2)

/-- A step; lines: what StepList tells. -/
def Gw.do_ (lines : List View → List UInt8) (g : Gw) (s : Step) : Gw × List Out × Int :=
  if s.kind = 1 then let r := g.tick; (r.1, r.2, 0)
  else if s.kind = 2 then (g.bytesIn s.data, [], 0)
  else if s.kind = 3 then g.setG (g.core.g.hall s.a s.b)
  else if s.kind = 4 then g.setG (g.core.g.press s.a s.b)
  else if s.kind = 5 then g.setG (g.core.g.load s.a s.b)
  else if s.kind = 6 then g.setG (g.core.g.curtain s.a (decide (s.b = 1)))
  else if s.kind = 7 then g.setG (g.core.g.fault s.a (decide (s.b = 1)))
  else if s.kind = 8 then (g, [⟨-1, lines g.views⟩], 0)
  else (g, [], 1)

end Go.Proofs.YtclgnginmgleaaaDoor.M
