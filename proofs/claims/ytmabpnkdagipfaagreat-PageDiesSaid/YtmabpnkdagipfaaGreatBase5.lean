/- All that the laws of this layer lean on. -/
import Derived.Test.YtmabpnkdagipfaaGreatJ27
import Derived.Test.YtmabpnkdagipfaaGreatJ32
import Derived.Test.YtmabpnkdagipfaaGreatJ33
import Derived.Test.YtmabpnkdagipfaaGreatJ34
import Derived.Test.YtmabpnkdagipfaaGreatJ35
import Derived.Test.YtmabpnkdagipfaaGreatJ36
