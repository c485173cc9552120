/- What the hand-in of WalSaves imports: the law and the openers.
Conditions: none. -/
import Derived.Test.YtjipjfionelpkaaWl7
import Derived.Test.YtjipjfionelpkaaOpenW
